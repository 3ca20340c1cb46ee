/-
  The walk of the reference's Check: it answers 0 where the calendar is valid, else 1. Condition: the holidays lie in memory as a list reads.
-/
import Derived.Test.YthkmnoobajaooaaDoorAft
namespace Go.Proofs.YthkmnoobajaooaaDoor
open Go.RowKit Go.Shelf Go.Sort
theorem holTo.prev {H : List Int} {i : Nat} (h : holTo H i) (hp : 0 < i) : 0 ≤ H.getD (i - 1) 0 := by
  have key : ∀ j, j < i → 0 ≤ H.getD j 0 := by
    intro j; induction j with
    | zero => intro hj; have := (h 0 hj).1; simp [prevH] at this ⊢; omega
    | succ j ih => intro hj; have h1 := (h (j + 1) hj).1; have h2 := ih (by omega); simp [prevH] at h1 h2 ⊢; omega
  exact key _ (by omega)
set_option maxHeartbeats 2000000 in
set_option maxRecDepth 100000 in
theorem rcheck_any (O : List Int) (hO : O.length = 14) (A : Option Addr) (len cap : Nat) (H : List Int) (w : World) (hH : Hol w A len H) :
    Calls Tryd.prog 30 #[calV O A len cap] w fun e w' => e = .returned (.int .i64 (calE O H)) ∧ Below w.heap.size w w' := by
  have HE1 : Hid (calOk O H → calE O H = 0) := hid calE_ok
  have HE0 : Hid (¬ calOk O H → calE O H = 1) := hid calE_no
  generalize calE O H = E at *
  have HO : Hid (∀ o, Hol (w.alloc o) A len H) := hid (fun o => hH.alloc o)
  have hlen : len ≤ 9223372036854775807 := hH.2.1
  have HL := hid hH.1
  have HF := hid (fun k (hk : k < 7) => calC_oF O hO A len cap k hk)
  have HG := hid (calC_sl O hO A len cap)
  unfold calV
  clear hO hH
  generalize (calC O A len cap).toArray = cs at *
  go_enter Tryd.func30, Tryd.ntmps30
  go_wp2_with fail
  go_loopw [3] (fun s3 wr => ∃ i : Nat, i ≤ 7 ∧ s3 = .int .i64 i ∧ Hid (Below (w.heap.size + 1) (w.alloc (.cells cs 43)) wr) ∧ Hid (openTo O i)) (fun s3 _ => 7 - (intOf s3).toNat)
  case atStart => exact ⟨0, by omega, rfl, hid (Below.refl _ _), hid fun k hk => absurd hk (by omega)⟩
  case round =>
    obtain ⟨i, hi, rfl, HB, HOO⟩ := hrel
    have hsz := HB.out.size
    simp at hsz
    have B0 := hid ((Blk.new w 43 cs).below HB.out (by omega))
    by_cases h7 : i < 7
    · have ⟨f0, f1⟩ := HF.out i h7
      rw [Nat.mul_comm 2 i] at f0 f1
      have p0 := B0.out.at _ f0
      have p1 := B0.out.at _ f1
      have HD := hid (fun (h1 : 0 ≤ oF O i) (h2 : oF O i ≤ oT O i) (h3 : oT O i ≤ 1440) => openOk_split HOO.out ⟨h1, h2, h3⟩)
      have HN := hid (fun (hn : ¬ (0 ≤ oF O i ∧ oF O i ≤ oT O i ∧ oT O i ≤ 1440)) => HE0.out (fun hc => hn (hc.1 i h7)))
      clear f0 f1 HE1 HE0 HO HL HF HG HOO
      generalize oF O i = F at *
      generalize oT O i = T at *
      by_cases g1 : F < 0
      · have HFF := hid (HN.out (by omega))
        clear HN HD
        go_wp2_with fail
        go_ret
        exact ⟨ret_int HFF.out.symm, (((Below.refl _ _).alloc (Nat.le_refl _) _).trans (HB.out.mono (by omega))).alloc (by omega) _⟩
      by_cases g2 : T < F
      · have HFF := hid (HN.out (by omega))
        clear HN HD
        go_wp2_with fail
        go_ret
        exact ⟨ret_int HFF.out.symm, (((Below.refl _ _).alloc (Nat.le_refl _) _).trans (HB.out.mono (by omega))).alloc (by omega) _⟩
      by_cases g3 : 1440 < T
      · have HFF := hid (HN.out (by omega))
        clear HN HD
        go_wp2_with fail
        go_ret
        exact ⟨ret_int HFF.out.symm, (((Below.refl _ _).alloc (Nat.le_refl _) _).trans (HB.out.mono (by omega))).alloc (by omega) _⟩
      · have HFF := hid (HD.out (by omega) (by omega) (by omega))
        clear HN HD
        go_wp2_with fail
        go_roundw
        case rel => exact ⟨i + 1, by omega, by go_num, hid (HB.out.alloc (by omega) _), HFF⟩
        case measure => simp [intOf]; omega
    · obtain rfl : i = 7 := by omega
      have hlt := B0.out.lt
      have c14 : wr.cell? ⟨w.heap.size, 14, none⟩ = some (.slice A len cap) := B0.out.at 14 HG.out
      have HW : Hid (Below w.heap.size w wr) := hid (((Below.refl _ _).alloc (Nat.le_refl _) _).trans (HB.out.mono (by omega)))
      have HH : Hid (Hol wr A len H) := hid ((HO.out (.cells cs 43)).below (HB.out.mono (by simp)))
      clear HO HB B0 HF HG
      go_wp2_with fail
      go_loop [5] (fun s5 => ∃ i : Nat, i ≤ len ∧ s5 = .int .i64 i ∧ Hid (holTo H i)) (fun s5 => len - (intOf s5).toNat)
      case atStart => exact ⟨0, by omega, rfl, hid fun j hj => absurd hj (by omega)⟩
      case round =>
        obtain ⟨i, hi2, rfl, HT⟩ := hrel
        by_cases hlt2 : i < len
        · obtain ⟨hb, off, hA, hbl, hcells⟩ := HH.out.2.2 (by omega)
          subst hA
          have hc := hcells i (by rw [HL.out]; exact hlt2)
          have HX := hid (fun (hx : H.getD i 0 ≤ prevH H i ∨ 745654 < H.getD i 0) => HE0.out (fun hok => by have := hok.2 i (by rw [HL.out]; exact hlt2); omega))
          have HS := hid (fun (h1 : prevH H i < H.getD i 0) (h2 : H.getD i 0 ≤ 745654) => HT.out.succ h1 h2)
          have hpn : 0 < i → 0 ≤ prevH H i := fun h => by unfold prevH; rw [if_neg (by omega)]; exact HT.out.prev h
          rcases i with _ | j
          · clear hcells hpn HT
            have hp : prevH H 0 = -1 := rfl
            rw [hp] at HX HS
            clear hp
            rw [Nat.add_zero] at hc
            generalize H.getD 0 0 = q at *
            by_cases g1 : q < 0
            · have HF := hid (HX.out (.inl (by omega)))
              clear HX HS
              go_wp2_with fail
              go_ret
              exact ⟨ret_int HF.out.symm, HW.out⟩
            by_cases g2 : 745654 < q
            · have HF := hid (HX.out (.inr g2))
              clear HX HS
              go_wp2_with fail
              go_ret
              exact ⟨ret_int HF.out.symm, HW.out⟩
            · have HF := hid (HS.out (by omega) (by omega))
              clear HX HS
              go_wp2_with fail
              go_round
              case rel => exact ⟨0 + 1, by omega, by go_num, HF⟩
              case measure => simp [intOf]; omega
          · have hd := hcells j (by rw [HL.out]; omega)
            have hpj := hpn (by omega)
            clear hcells hpn HT
            have hp : prevH H (j + 1) = H.getD j 0 := by simp [prevH]
            rw [hp] at HX HS hpj
            clear hp
            generalize H.getD (j + 1) 0 = q at *
            generalize H.getD j 0 = p at *
            by_cases g1 : q < 0
            · have HF := hid (HX.out (.inl (by omega)))
              clear HX HS
              go_wp2_with fail
              go_ret
              exact ⟨ret_int HF.out.symm, HW.out⟩
            by_cases g2 : 745654 < q
            · have HF := hid (HX.out (.inr g2))
              clear HX HS
              go_wp2_with fail
              go_ret
              exact ⟨ret_int HF.out.symm, HW.out⟩
            by_cases g3 : q ≤ p
            · have HF := hid (HX.out (.inl g3))
              clear HX HS
              go_wp2_with fail
              go_ret
              exact ⟨ret_int HF.out.symm, HW.out⟩
            · have HF := hid (HS.out (by omega) (by omega))
              clear HX HS
              go_wp2_with fail
              go_round
              case rel => exact ⟨j + 1 + 1, by omega, by go_num, HF⟩
              case measure => simp [intOf]; omega
        · obtain rfl : i = len := by omega
          have HF := hid (HE1.out ⟨HOO.out, by have := HT.out; rw [← HL.out] at this; exact this⟩)
          go_wp2_with fail
          go_ret
          exact ⟨ret_int HF.out.symm, HW.out⟩
end Go.Proofs.YthkmnoobajaooaaDoor
