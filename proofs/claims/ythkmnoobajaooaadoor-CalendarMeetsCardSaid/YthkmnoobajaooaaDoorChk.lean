/-
  The walk of Check: it answers 0 where the calendar is valid, else 1. Condition: the holidays lie in memory as a list reads.
-/
import Derived.Test.YthkmnoobajaooaaDoorMon
import Derived.Test.YthkmnoobajaooaaDoorPlain2
namespace Go.Proofs.YthkmnoobajaooaaDoor
open Go.RowKit Go.Shelf Go.Sort
/-- The cells of a calendar. -/
def calC (O : List Int) (A : Option Addr) (len cap : Nat) : List Value := O.map (Value.int .i64) ++ [.slice A len cap]
def calV (O : List Int) (A : Option Addr) (len cap : Nat) : Value := .agg (calC O A len cap).toArray
theorem list14 {α : Type} (l : List α) (h : l.length = 14) : ∃ a b c d e f g h i j k m n o, l = [a, b, c, d, e, f, g, h, i, j, k, m, n, o] := by
  match l, h with
  | [a, b, c, d, e, f, g, h, i, j, k, m, n, o], _ => exact ⟨a, b, c, d, e, f, g, h, i, j, k, m, n, o, rfl⟩
/-- The holidays as they lie in memory. -/
def Hol (w : World) (A : Option Addr) (len : Nat) (H : List Int) : Prop :=
  H.length = len ∧ len ≤ 9223372036854775807 ∧ (0 < len → ∃ b off, A = some ⟨b, off, none⟩ ∧ b < w.heap.size ∧ ∀ i : Nat, i < H.length → w.cell? ⟨b, off + i, none⟩ = some (.int .i64 (H.getD i 0)))
theorem Hol.below {w w' : World} {A : Option Addr} {len : Nat} {H : List Int} (h : Hol w A len H) (hb : Below w.heap.size w w') : Hol w' A len H :=
  ⟨h.1, h.2.1, fun hl => by
    obtain ⟨b, off, e, hlt, hc⟩ := h.2.2 hl
    exact ⟨b, off, e, Nat.lt_of_lt_of_le hlt hb.size, fun i hi => (hb.cell (p := ⟨b, off + i, none⟩) hlt).trans (hc i hi)⟩⟩
theorem Hol.alloc {w : World} {A : Option Addr} {len : Nat} {H : List Int} (h : Hol w A len H) (o : Obj) : Hol (w.alloc o) A len H := h.below ((Below.refl _ _).alloc (Nat.le_refl _) _)

theorem openOk_split {O : List Int} {i : Nat} (h : ∀ k, k < i → 0 ≤ oF O k ∧ oF O k ≤ oT O k ∧ oT O k ≤ 1440) (hi : 0 ≤ oF O i ∧ oF O i ≤ oT O i ∧ oT O i ≤ 1440) :
    ∀ k, k < i + 1 → 0 ≤ oF O k ∧ oF O k ≤ oT O k ∧ oT O k ≤ 1440 := by
  intro k hk
  by_cases e : k = i
  · subst e; exact hi
  · exact h k (by omega)
def openTo (O : List Int) (i : Nat) : Prop := ∀ k, k < i → 0 ≤ oF O k ∧ oF O k ≤ oT O k ∧ oT O k ≤ 1440
def holTo (H : List Int) (i : Nat) : Prop := ∀ j, j < i → prevH H j < H.getD j 0 ∧ H.getD j 0 ≤ 745654
theorem holTo.succ {H : List Int} {i : Nat} (h : holTo H i) (h1 : prevH H i < H.getD i 0) (h2 : H.getD i 0 ≤ 745654) : holTo H (i + 1) := by
  intro j hj
  by_cases e : j = i
  · subst e; exact ⟨h1, h2⟩
  · exact h j (by omega)

set_option maxHeartbeats 4000000 in
set_option maxRecDepth 100000 in
theorem check_any (O : List Int) (hO : O.length = 14) (A : Option Addr) (len cap : Nat) (H : List Int) (w : World) (hH : Hol w A len H) :
    Calls Tryd.prog 29 #[calV O A len cap] w fun e w' => e = .returned (.int .i64 (calE O H)) ∧ Below w.heap.size w w' := by
  have HE1 : Hid (calOk O H → calE O H = 0) := hid calE_ok
  have HE0 : Hid (¬ calOk O H → calE O H = 1) := hid calE_no
  generalize calE O H = E at *
  have HO : Hid (∀ o, Hol (w.alloc o) A len H) := hid (fun o => hH.alloc o)
  have hlen : len ≤ 9223372036854775807 := hH.2.1
  have HL := hid hH.1
  clear hH
  obtain ⟨a0, b0, a1, b1, a2, b2, a3, b3, a4, b4, a5, b5, a6, b6, rfl⟩ := list14 O hO
  simp only [calV, calC, List.map_cons, List.map_nil, List.cons_append, List.nil_append]
  clear hO
  obtain ⟨cs, hcs⟩ : ∃ cs : Array Value, cs = #[.int .i64 a0, .int .i64 b0, .int .i64 a1, .int .i64 b1, .int .i64 a2, .int .i64 b2, .int .i64 a3, .int .i64 b3, .int .i64 a4, .int .i64 b4, .int .i64 a5, .int .i64 b5, .int .i64 a6, .int .i64 b6, .slice A len cap] := ⟨_, rfl⟩
  have HC := hid hcs
  go_enter Tryd.func29, Tryd.ntmps29
  go_wp2_with fail
  rw [← hcs]
  clear hcs
  go_loopw [10] (fun s10 wr => ∃ i : Nat, i ≤ 7 ∧ s10 = .int .i64 i ∧ Below (w.heap.size + 1) (w.alloc (.cells cs 43)) wr ∧ openTo [a0, b0, a1, b1, a2, b2, a3, b3, a4, b4, a5, b5, a6, b6] i) (fun s10 _ => 7 - (intOf s10).toNat)
  case atStart => exact ⟨0, by omega, rfl, Below.refl _ _, fun k hk => absurd hk (by omega)⟩
  case round =>
    obtain ⟨i, hi, rfl, hb, ho⟩ := hrel
    have HB := hid hb
    have HOO := hid ho
    have hsz := hb.size
    simp at hsz
    clear hb ho
    by_cases h7 : i < 7
    · have hdone : ∀ (p q : Int), p = oF [a0, b0, a1, b1, a2, b2, a3, b3, a4, b4, a5, b5, a6, b6] i → q = oT [a0, b0, a1, b1, a2, b2, a3, b3, a4, b4, a5, b5, a6, b6] i → 0 ≤ p → p ≤ q → q ≤ 1440 → openTo [a0, b0, a1, b1, a2, b2, a3, b3, a4, b4, a5, b5, a6, b6] (i + 1) := fun p q hp hq h1 h2 h3 => openOk_split HOO.out (by rw [← hp, ← hq]; exact ⟨h1, h2, h3⟩)
      have hnot : ∀ (p q : Int), p = oF [a0, b0, a1, b1, a2, b2, a3, b3, a4, b4, a5, b5, a6, b6] i → q = oT [a0, b0, a1, b1, a2, b2, a3, b3, a4, b4, a5, b5, a6, b6] i → ¬ (0 ≤ p ∧ p ≤ q ∧ q ≤ 1440) → ¬ calOk [a0, b0, a1, b1, a2, b2, a3, b3, a4, b4, a5, b5, a6, b6] H := fun p q hp hq hn hc => hn (by rw [hp, hq]; exact hc.1 i h7)
      have HD := hid hdone
      have HN := hid hnot
      clear hdone hnot
      rcases (by omega : i = 0 ∨ i = 1 ∨ i = 2 ∨ i = 3 ∨ i = 4 ∨ i = 5 ∨ i = 6) with rfl | rfl | rfl | rfl | rfl | rfl | rfl
      · have hx : ∀ w, (Instr.index 40 (.agg #[.int .i64 a0, .int .i64 b0, .int .i64 a1, .int .i64 b1, .int .i64 a2, .int .i64 b2, .int .i64 a3, .int .i64 b3, .int .i64 a4, .int .i64 b4, .int .i64 a5, .int .i64 b5, .int .i64 a6, .int .i64 b6]) (.int .i64 0)).run Tryd.prog w = .ok (.agg #[.int .i64 a0, .int .i64 b0]) w := fun _ => by kernel_rfl
        by_cases g1 : a0 < 0
        · have HF := hid (HE0.out (HN.out a0 b0 rfl rfl (by omega)))
          clear HE1 HE0 HN HD HOO
          go_wp2_with fail
          go_ret
          exact ⟨ret_int HF.out.symm, (((Below.refl _ _).alloc (Nat.le_refl _) _).trans (HB.out.mono (by omega))).alloc (by omega) _⟩
        by_cases g2 : b0 < a0
        · have HF := hid (HE0.out (HN.out a0 b0 rfl rfl (by omega)))
          clear HE1 HE0 HN HD HOO
          go_wp2_with fail
          go_ret
          exact ⟨ret_int HF.out.symm, (((Below.refl _ _).alloc (Nat.le_refl _) _).trans (HB.out.mono (by omega))).alloc (by omega) _⟩
        by_cases g3 : 1440 < b0
        · have HF := hid (HE0.out (HN.out a0 b0 rfl rfl (by omega)))
          clear HE1 HE0 HN HD HOO
          go_wp2_with fail
          go_ret
          exact ⟨ret_int HF.out.symm, (((Below.refl _ _).alloc (Nat.le_refl _) _).trans (HB.out.mono (by omega))).alloc (by omega) _⟩
        · have HF := hid (HD.out a0 b0 rfl rfl (by omega) (by omega) (by omega))
          clear HE1 HE0 HN HD HOO
          go_wp2_with fail
          go_roundw
          case rel => exact ⟨0 + 1, by omega, by go_num, HB.out.alloc (by omega) _, HF.out⟩
          case measure => simp [intOf]
      · have hx : ∀ w, (Instr.index 40 (.agg #[.int .i64 a0, .int .i64 b0, .int .i64 a1, .int .i64 b1, .int .i64 a2, .int .i64 b2, .int .i64 a3, .int .i64 b3, .int .i64 a4, .int .i64 b4, .int .i64 a5, .int .i64 b5, .int .i64 a6, .int .i64 b6]) (.int .i64 1)).run Tryd.prog w = .ok (.agg #[.int .i64 a1, .int .i64 b1]) w := fun _ => by kernel_rfl
        by_cases g1 : a1 < 0
        · have HF := hid (HE0.out (HN.out a1 b1 rfl rfl (by omega)))
          clear HE1 HE0 HN HD HOO
          go_wp2_with fail
          go_ret
          exact ⟨ret_int HF.out.symm, (((Below.refl _ _).alloc (Nat.le_refl _) _).trans (HB.out.mono (by omega))).alloc (by omega) _⟩
        by_cases g2 : b1 < a1
        · have HF := hid (HE0.out (HN.out a1 b1 rfl rfl (by omega)))
          clear HE1 HE0 HN HD HOO
          go_wp2_with fail
          go_ret
          exact ⟨ret_int HF.out.symm, (((Below.refl _ _).alloc (Nat.le_refl _) _).trans (HB.out.mono (by omega))).alloc (by omega) _⟩
        by_cases g3 : 1440 < b1
        · have HF := hid (HE0.out (HN.out a1 b1 rfl rfl (by omega)))
          clear HE1 HE0 HN HD HOO
          go_wp2_with fail
          go_ret
          exact ⟨ret_int HF.out.symm, (((Below.refl _ _).alloc (Nat.le_refl _) _).trans (HB.out.mono (by omega))).alloc (by omega) _⟩
        · have HF := hid (HD.out a1 b1 rfl rfl (by omega) (by omega) (by omega))
          clear HE1 HE0 HN HD HOO
          go_wp2_with fail
          go_roundw
          case rel => exact ⟨1 + 1, by omega, by go_num, HB.out.alloc (by omega) _, HF.out⟩
          case measure => simp [intOf]
      · have hx : ∀ w, (Instr.index 40 (.agg #[.int .i64 a0, .int .i64 b0, .int .i64 a1, .int .i64 b1, .int .i64 a2, .int .i64 b2, .int .i64 a3, .int .i64 b3, .int .i64 a4, .int .i64 b4, .int .i64 a5, .int .i64 b5, .int .i64 a6, .int .i64 b6]) (.int .i64 2)).run Tryd.prog w = .ok (.agg #[.int .i64 a2, .int .i64 b2]) w := fun _ => by kernel_rfl
        by_cases g1 : a2 < 0
        · have HF := hid (HE0.out (HN.out a2 b2 rfl rfl (by omega)))
          clear HE1 HE0 HN HD HOO
          go_wp2_with fail
          go_ret
          exact ⟨ret_int HF.out.symm, (((Below.refl _ _).alloc (Nat.le_refl _) _).trans (HB.out.mono (by omega))).alloc (by omega) _⟩
        by_cases g2 : b2 < a2
        · have HF := hid (HE0.out (HN.out a2 b2 rfl rfl (by omega)))
          clear HE1 HE0 HN HD HOO
          go_wp2_with fail
          go_ret
          exact ⟨ret_int HF.out.symm, (((Below.refl _ _).alloc (Nat.le_refl _) _).trans (HB.out.mono (by omega))).alloc (by omega) _⟩
        by_cases g3 : 1440 < b2
        · have HF := hid (HE0.out (HN.out a2 b2 rfl rfl (by omega)))
          clear HE1 HE0 HN HD HOO
          go_wp2_with fail
          go_ret
          exact ⟨ret_int HF.out.symm, (((Below.refl _ _).alloc (Nat.le_refl _) _).trans (HB.out.mono (by omega))).alloc (by omega) _⟩
        · have HF := hid (HD.out a2 b2 rfl rfl (by omega) (by omega) (by omega))
          clear HE1 HE0 HN HD HOO
          go_wp2_with fail
          go_roundw
          case rel => exact ⟨2 + 1, by omega, by go_num, HB.out.alloc (by omega) _, HF.out⟩
          case measure => simp [intOf]
      · have hx : ∀ w, (Instr.index 40 (.agg #[.int .i64 a0, .int .i64 b0, .int .i64 a1, .int .i64 b1, .int .i64 a2, .int .i64 b2, .int .i64 a3, .int .i64 b3, .int .i64 a4, .int .i64 b4, .int .i64 a5, .int .i64 b5, .int .i64 a6, .int .i64 b6]) (.int .i64 3)).run Tryd.prog w = .ok (.agg #[.int .i64 a3, .int .i64 b3]) w := fun _ => by kernel_rfl
        by_cases g1 : a3 < 0
        · have HF := hid (HE0.out (HN.out a3 b3 rfl rfl (by omega)))
          clear HE1 HE0 HN HD HOO
          go_wp2_with fail
          go_ret
          exact ⟨ret_int HF.out.symm, (((Below.refl _ _).alloc (Nat.le_refl _) _).trans (HB.out.mono (by omega))).alloc (by omega) _⟩
        by_cases g2 : b3 < a3
        · have HF := hid (HE0.out (HN.out a3 b3 rfl rfl (by omega)))
          clear HE1 HE0 HN HD HOO
          go_wp2_with fail
          go_ret
          exact ⟨ret_int HF.out.symm, (((Below.refl _ _).alloc (Nat.le_refl _) _).trans (HB.out.mono (by omega))).alloc (by omega) _⟩
        by_cases g3 : 1440 < b3
        · have HF := hid (HE0.out (HN.out a3 b3 rfl rfl (by omega)))
          clear HE1 HE0 HN HD HOO
          go_wp2_with fail
          go_ret
          exact ⟨ret_int HF.out.symm, (((Below.refl _ _).alloc (Nat.le_refl _) _).trans (HB.out.mono (by omega))).alloc (by omega) _⟩
        · have HF := hid (HD.out a3 b3 rfl rfl (by omega) (by omega) (by omega))
          clear HE1 HE0 HN HD HOO
          go_wp2_with fail
          go_roundw
          case rel => exact ⟨3 + 1, by omega, by go_num, HB.out.alloc (by omega) _, HF.out⟩
          case measure => simp [intOf]
      · have hx : ∀ w, (Instr.index 40 (.agg #[.int .i64 a0, .int .i64 b0, .int .i64 a1, .int .i64 b1, .int .i64 a2, .int .i64 b2, .int .i64 a3, .int .i64 b3, .int .i64 a4, .int .i64 b4, .int .i64 a5, .int .i64 b5, .int .i64 a6, .int .i64 b6]) (.int .i64 4)).run Tryd.prog w = .ok (.agg #[.int .i64 a4, .int .i64 b4]) w := fun _ => by kernel_rfl
        by_cases g1 : a4 < 0
        · have HF := hid (HE0.out (HN.out a4 b4 rfl rfl (by omega)))
          clear HE1 HE0 HN HD HOO
          go_wp2_with fail
          go_ret
          exact ⟨ret_int HF.out.symm, (((Below.refl _ _).alloc (Nat.le_refl _) _).trans (HB.out.mono (by omega))).alloc (by omega) _⟩
        by_cases g2 : b4 < a4
        · have HF := hid (HE0.out (HN.out a4 b4 rfl rfl (by omega)))
          clear HE1 HE0 HN HD HOO
          go_wp2_with fail
          go_ret
          exact ⟨ret_int HF.out.symm, (((Below.refl _ _).alloc (Nat.le_refl _) _).trans (HB.out.mono (by omega))).alloc (by omega) _⟩
        by_cases g3 : 1440 < b4
        · have HF := hid (HE0.out (HN.out a4 b4 rfl rfl (by omega)))
          clear HE1 HE0 HN HD HOO
          go_wp2_with fail
          go_ret
          exact ⟨ret_int HF.out.symm, (((Below.refl _ _).alloc (Nat.le_refl _) _).trans (HB.out.mono (by omega))).alloc (by omega) _⟩
        · have HF := hid (HD.out a4 b4 rfl rfl (by omega) (by omega) (by omega))
          clear HE1 HE0 HN HD HOO
          go_wp2_with fail
          go_roundw
          case rel => exact ⟨4 + 1, by omega, by go_num, HB.out.alloc (by omega) _, HF.out⟩
          case measure => simp [intOf]
      · have hx : ∀ w, (Instr.index 40 (.agg #[.int .i64 a0, .int .i64 b0, .int .i64 a1, .int .i64 b1, .int .i64 a2, .int .i64 b2, .int .i64 a3, .int .i64 b3, .int .i64 a4, .int .i64 b4, .int .i64 a5, .int .i64 b5, .int .i64 a6, .int .i64 b6]) (.int .i64 5)).run Tryd.prog w = .ok (.agg #[.int .i64 a5, .int .i64 b5]) w := fun _ => by kernel_rfl
        by_cases g1 : a5 < 0
        · have HF := hid (HE0.out (HN.out a5 b5 rfl rfl (by omega)))
          clear HE1 HE0 HN HD HOO
          go_wp2_with fail
          go_ret
          exact ⟨ret_int HF.out.symm, (((Below.refl _ _).alloc (Nat.le_refl _) _).trans (HB.out.mono (by omega))).alloc (by omega) _⟩
        by_cases g2 : b5 < a5
        · have HF := hid (HE0.out (HN.out a5 b5 rfl rfl (by omega)))
          clear HE1 HE0 HN HD HOO
          go_wp2_with fail
          go_ret
          exact ⟨ret_int HF.out.symm, (((Below.refl _ _).alloc (Nat.le_refl _) _).trans (HB.out.mono (by omega))).alloc (by omega) _⟩
        by_cases g3 : 1440 < b5
        · have HF := hid (HE0.out (HN.out a5 b5 rfl rfl (by omega)))
          clear HE1 HE0 HN HD HOO
          go_wp2_with fail
          go_ret
          exact ⟨ret_int HF.out.symm, (((Below.refl _ _).alloc (Nat.le_refl _) _).trans (HB.out.mono (by omega))).alloc (by omega) _⟩
        · have HF := hid (HD.out a5 b5 rfl rfl (by omega) (by omega) (by omega))
          clear HE1 HE0 HN HD HOO
          go_wp2_with fail
          go_roundw
          case rel => exact ⟨5 + 1, by omega, by go_num, HB.out.alloc (by omega) _, HF.out⟩
          case measure => simp [intOf]
      · have hx : ∀ w, (Instr.index 40 (.agg #[.int .i64 a0, .int .i64 b0, .int .i64 a1, .int .i64 b1, .int .i64 a2, .int .i64 b2, .int .i64 a3, .int .i64 b3, .int .i64 a4, .int .i64 b4, .int .i64 a5, .int .i64 b5, .int .i64 a6, .int .i64 b6]) (.int .i64 6)).run Tryd.prog w = .ok (.agg #[.int .i64 a6, .int .i64 b6]) w := fun _ => by kernel_rfl
        by_cases g1 : a6 < 0
        · have HF := hid (HE0.out (HN.out a6 b6 rfl rfl (by omega)))
          clear HE1 HE0 HN HD HOO
          go_wp2_with fail
          go_ret
          exact ⟨ret_int HF.out.symm, (((Below.refl _ _).alloc (Nat.le_refl _) _).trans (HB.out.mono (by omega))).alloc (by omega) _⟩
        by_cases g2 : b6 < a6
        · have HF := hid (HE0.out (HN.out a6 b6 rfl rfl (by omega)))
          clear HE1 HE0 HN HD HOO
          go_wp2_with fail
          go_ret
          exact ⟨ret_int HF.out.symm, (((Below.refl _ _).alloc (Nat.le_refl _) _).trans (HB.out.mono (by omega))).alloc (by omega) _⟩
        by_cases g3 : 1440 < b6
        · have HF := hid (HE0.out (HN.out a6 b6 rfl rfl (by omega)))
          clear HE1 HE0 HN HD HOO
          go_wp2_with fail
          go_ret
          exact ⟨ret_int HF.out.symm, (((Below.refl _ _).alloc (Nat.le_refl _) _).trans (HB.out.mono (by omega))).alloc (by omega) _⟩
        · have HF := hid (HD.out a6 b6 rfl rfl (by omega) (by omega) (by omega))
          clear HE1 HE0 HN HD HOO
          go_wp2_with fail
          go_roundw
          case rel => exact ⟨6 + 1, by omega, by go_num, HB.out.alloc (by omega) _, HF.out⟩
          case measure => simp [intOf]
    · obtain rfl : i = 7 := by omega
      have B0 := (Blk.new w 43 cs).below HB.out (by omega)
      have hlt := B0.lt
      have c14 : wr.cell? ⟨w.heap.size, 14, none⟩ = some (.slice A len cap) := B0.at 14 (by rw [HC.out]; rfl)
      have HW : Hid (Below w.heap.size w wr) := hid (((Below.refl _ _).alloc (Nat.le_refl _) _).trans (HB.out.mono (by omega)))
      have HH : Hid (Hol wr A len H) := hid ((HO.out (.cells cs 43)).below (HB.out.mono (by simp)))
      have HOO' : Hid (openOk [a0, b0, a1, b1, a2, b2, a3, b3, a4, b4, a5, b5, a6, b6]) := hid HOO.out
      clear HO HB HC HOO B0
      go_wp2_with fail
      go_loop [5, 32] (fun s5 s32 => ∃ i : Nat, i ≤ len ∧ s32 = .int .i64 i ∧ s5 = .int .i64 (prevH H i) ∧ holTo H i) (fun _ s32 => len - (intOf s32).toNat)
      case atStart => exact ⟨0, by omega, rfl, rfl, fun j hj => absurd hj (by omega)⟩
      case round =>
        obtain ⟨i, hi2, rfl, rfl, hto⟩ := hrel
        have HT := hid hto
        clear hto
        by_cases hlt2 : i < len
        · obtain ⟨hb, off, hA, hbl, hcells⟩ := HH.out.2.2 (by omega)
          subst hA
          have hc := hcells i (by rw [HL.out]; exact hlt2)
          clear hcells
          have HS1 : Hid (prevH H (i + 1) = H.getD i 0) := hid (by simp [prevH])
          have HX : Hid (H.getD i 0 ≤ prevH H i ∨ 745654 < H.getD i 0 → E = 1) := hid (fun hx => HE0.out (fun hok => by have := hok.2 i (by rw [HL.out]; exact hlt2); omega))
          generalize hp : prevH H i = p at *
          generalize hq : H.getD i 0 = q at *
          have HP := hid hp
          have HQ := hid hq
          clear hp hq
          by_cases g1 : q ≤ p
          · have HF := hid (HX.out (.inl g1))
            go_wp2_with fail
            go_ret
            exact ⟨ret_int HF.out.symm, HW.out⟩
          by_cases g2 : 745654 < q
          · have HF := hid (HX.out (.inr g2))
            go_wp2_with fail
            go_ret
            exact ⟨ret_int HF.out.symm, HW.out⟩
          · go_wp2_with fail
            go_round
            case rel => exact ⟨i + 1, by omega, by go_num, by rw [HS1.out], HT.out.succ (by rw [HP.out, HQ.out]; omega) (by rw [HQ.out]; omega)⟩
            case measure => simp [intOf]; omega
        · obtain rfl : i = len := by omega
          have HF := hid (HE1.out ⟨HOO'.out, by have := HT.out; rw [← HL.out] at this; exact this⟩)
          go_wp2_with fail
          go_ret
          exact ⟨ret_int HF.out.symm, HW.out⟩
end Go.Proofs.YthkmnoobajaooaaDoor
