/-
  The walk of the law package's attained: some line attains a place's time. Conditions: the lines are valid, the lists lie in memory as they read, times in bounds, and some line attains it.
-/
import Derived.Test.YtmbmmnlcnplgnaaMin
namespace Go.Proofs.Ytmbmmnlcnplgnaa
open Go.RowKit
set_option maxHeartbeats 8000000 in
set_option maxRecDepth 100000 in
theorem attained_any (P : List Plc) (E : List Edg) (t : List Int) (A1 A2 A3 : Option Addr) (c1 c2 c3 : Nat) (p : Nat) (w : World) (hV : Val E P.length) (hE5 : E.length ≤ 2048) (htl : t.length = P.length) (hp : p < P.length)
    (hbd : ∀ q, q < P.length → -1 ≤ t.getD q 0 ∧ t.getD q 0 ≤ 51200000) (hex : ∃ (J : Nat) (e : Edg) (q : Nat), E[J]? = some e ∧ joinB e q p = true ∧ 0 ≤ t.getD q 0 ∧ t.getD q 0 + e.mn = t.getD p 0) (h2 : EdgR w A2 E) (h3 : IntR w A3 t) :
    Calls Try.prog 29 #[netV A1 P.length c1 A2 E.length c2, .slice A3 t.length c3, .int .i64 p] w fun e w' => e = .returned (.bool true) ∧ Below w.heap.size w w' := by
  have hal : Below w.heap.size w (w.alloc (.cells #[.slice A1 P.length c1, .slice A2 E.length c2] 25)) := (Below.refl _ _).alloc (Nat.le_refl _) _
  have HE0 := hid (h2.below hal)
  have HT0 := hid (h3.below hal)
  have HN0 := hid (Blk.new w 25 #[.slice A1 P.length c1, .slice A2 E.length c2])
  have HB0 := hid hal
  have HV := hid hV
  have HBD := hid hbd
  obtain ⟨J, e', q', hJ, hj', hq', hs'⟩ := hex
  have HJ0 := hid hJ
  have HAT := hid (And.intro hj' (And.intro hq' hs'))
  have hJE : J < E.length := (List.getElem?_eq_some_iff.1 hJ).1
  clear hal h2 h3 hV hbd hJ hj' hq' hs'
  unfold netV
  go_enter Try.func29, Try.ntmps29
  go_wp2_with fail
  obtain ⟨W0, hW0⟩ : ∃ W0, w.alloc (.cells #[.slice A1 P.length c1, .slice A2 E.length c2] 25) = W0 := ⟨_, rfl⟩
  rw [hW0] at HE0 HT0 HN0 HB0 ⊢
  clear hW0
  go_loopw [7] (fun s7 wr => ∃ i : Nat, i ≤ J ∧ s7 = .int .i64 i ∧ Hid (Below W0.heap.size W0 wr)) (fun s7 _ => E.length - (intOf s7).toNat)
  case atStart => exact ⟨0, Nat.zero_le _, rfl, hid (Below.refl _ _)⟩
  case round =>
    obtain ⟨i, hi, rfl, HI⟩ := hrel
    have hlt : i < E.length := by omega
    have hli : (i : Int) < E.length := by omega
    have q1 := (HN0.out.below HI.out HN0.out.lt).at 1 rfl
    obtain ⟨b, off, hA2, hb, hc⟩ := (HE0.out.below HI.out).at (by omega)
    obtain ⟨e, hget⟩ : ∃ e, E[i]? = some e := ⟨_, List.getElem?_eq_getElem hlt⟩
    obtain ⟨l0, l1, l2, l3, l4⟩ := hc i e hget
    have hok := HV.out e (List.mem_of_getElem? hget)
    have HDEC : Hid (i = J → (e.a = p ∧ 0 ≤ t.getD e.b.toNat 0 ∧ t.getD e.b.toNat 0 + e.mn = t.getD p 0) ∨ (e.b = p ∧ 0 ≤ t.getD e.a.toNat 0 ∧ t.getD e.a.toNat 0 + e.mn = t.getD p 0)) := hid (fun h => by
      subst h
      have h1 := HJ0.out
      rw [hget] at h1
      injection h1 with h1
      subst h1
      obtain ⟨g1, g2, g3⟩ := HAT.out
      rcases (joinB_iff _ _ _).1 g1 with ⟨f1, f2⟩ | ⟨f1, f2⟩
      · exact Or.inr ⟨f2, by rw [f1, Int.toNat_natCast]; exact g2, by rw [f1, Int.toNat_natCast]; exact g3⟩
      · exact Or.inl ⟨f1, by rw [f2, Int.toNat_natCast]; exact g2, by rw [f2, Int.toNat_natCast]; exact g3⟩)
    obtain ⟨xa, xb, xr, xm, xk⟩ := e
    obtain ⟨a, rfl⟩ : ∃ n : Nat, xa = n := ⟨xa.toNat, by have := hok.a0; simp only at this; omega⟩
    obtain ⟨c, rfl⟩ : ∃ n : Nat, xb = n := ⟨xb.toNat, by have := hok.b0; simp only at this; omega⟩
    have han : a < t.length := by have := hok.an; simp only at this; omega
    have hcn : c < t.length := by have := hok.bn; simp only at this; omega
    have hpn : p < t.length := by omega
    have hm1 : 1 ≤ xm := hok.m1
    have hm2 : xm ≤ 100000 := hok.mn
    have hac : a ≠ c := by have := hok.ne; simp only at this; omega
    simp only [Int.toNat_natCast] at l0 l1 l2 l3 l4 HDEC
    have hba := HBD.out a (by omega)
    have hbc := HBD.out c (by omega)
    have hbp := HBD.out p hp
    obtain ⟨tb, tof, hA3, htb, htc⟩ := (HT0.out.below HI.out).at (by omega)
    have ta := htc a han
    have tc := htc c hcn
    have tp := htc p hpn
    have hbl : Below wr.heap.size wr (wr.alloc (.cells #[.int .i64 a, .int .i64 c, .int .i64 xr, .int .i64 xm, .int .i64 xk] 45)) := (Below.refl _ _).alloc (Nat.le_refl _) _
    have ta1 := (hbl.cell (p := ⟨tb, tof + a, none⟩) htb).trans ta
    have tc1 := (hbl.cell (p := ⟨tb, tof + c, none⟩) htb).trans tc
    have tp1 := (hbl.cell (p := ⟨tb, tof + p, none⟩) htb).trans tp
    have HX := hid (Blk.new wr 45 #[.int .i64 a, .int .i64 c, .int .i64 xr, .int .i64 xm, .int .i64 xk])
    have HBX : Hid (Below W0.heap.size W0 (wr.alloc (.cells #[.int .i64 a, .int .i64 c, .int .i64 xr, .int .i64 xm, .int .i64 xk] 45))) := hid (HI.out.trans (hbl.mono HI.out.size))
    subst hA2 hA3
    clear hc hget hok htc ta tc tp hbl
    obtain ⟨u, hu⟩ : ∃ v, t.getD a 0 = v := ⟨_, rfl⟩
    obtain ⟨v, hv⟩ : ∃ v, t.getD c 0 = v := ⟨_, rfl⟩
    obtain ⟨z, hz⟩ : ∃ v, t.getD p 0 = v := ⟨_, rfl⟩
    rw [hu] at ta1 hba HDEC
    rw [hv] at tc1 hbc HDEC
    rw [hz] at tp1 hbp HDEC
    clear hu hv hz
    go_upto_region 5 with fail
    obtain ⟨Wx, hWx⟩ : ∃ W, wr.alloc (.cells #[.int .i64 a, .int .i64 c, .int .i64 xr, .int .i64 xm, .int .i64 xk] 45) = W := ⟨_, rfl⟩
    rw [hWx] at HX HBX ta1 tc1 tp1 ⊢
    clear hWx l0 l1 l2 l3 l4 q1
    have x0 := HX.out.at 0 rfl
    have x1 := HX.out.at 1 rfl
    have x3 := HX.out.at 3 rfl
    have hwa : IntKind.i64.wrap (u + xm) = u + xm := IntWalk.i64_in _ (by omega)
    have hwc : IntKind.i64.wrap (v + xm) = v + xm := IntWalk.i64_in _ (by omega)
    by_cases hap : a = p
    · have j2 : ((a : Int) == (p : Int)) = true := by simp [hap]
      have j3 : ((c : Int) == (p : Int)) = false := by rw [beq_eq_false_iff_ne]; omega
      rcases (by omega : v < 0 ∨ 0 ≤ v) with h0 | h0
      · have j0 : decide (0 ≤ v) = false := by simp; omega
        have hne : i ≠ J := fun h => by
          rcases HDEC.out h with h4 | h4 <;> omega
        have HI1 : Hid (i + 1 ≤ J) := hid (by omega)
        clear hne HDEC
        go_wp2_with fail
        go_big_quiet (fail)
        go_wp2_with fail
        exact ⟨⟨i + 1, HI1.out, by go_num, hid (below_drewN HBX.out _)⟩, by simp [intOf]; omega⟩
      · have j0 : decide (0 ≤ v) = true := by simpa using h0
        by_cases hs : v + xm = z
        · have j1 : (v + xm == z) = true := by simpa using hs
          go_wp2_with fail
          go_big_quiet (fail)
          go_wp2_with fail
          go_ret
          exact ⟨rfl, below_drewN (HB0.out.trans (HBX.out.mono HB0.out.size)) _⟩
        · have j1 : (v + xm == z) = false := by simpa using hs
          have hne : i ≠ J := fun h => by
            rcases HDEC.out h with h4 | h4 <;> omega
          have HI1 : Hid (i + 1 ≤ J) := hid (by omega)
          clear hne HDEC
          go_wp2_with fail
          go_big_quiet (fail)
          go_wp2_with fail
          exact ⟨⟨i + 1, HI1.out, by go_num, hid (below_drewN HBX.out _)⟩, by simp [intOf]; omega⟩
    · have j2 : ((a : Int) == (p : Int)) = false := by rw [beq_eq_false_iff_ne]; omega
      by_cases hcp : c = p
      · have j3 : ((c : Int) == (p : Int)) = true := by simp [hcp]
        rcases (by omega : u < 0 ∨ 0 ≤ u) with h0 | h0
        · have j0 : decide (0 ≤ u) = false := by simp; omega
          have hne : i ≠ J := fun h => by
            rcases HDEC.out h with h4 | h4 <;> omega
          have HI1 : Hid (i + 1 ≤ J) := hid (by omega)
          clear hne HDEC
          go_wp2_with fail
          go_big_quiet (fail)
          go_wp2_with fail
          exact ⟨⟨i + 1, HI1.out, by go_num, hid (below_drewN HBX.out _)⟩, by simp [intOf]; omega⟩
        · have j0 : decide (0 ≤ u) = true := by simpa using h0
          by_cases hs : u + xm = z
          · have j1 : (u + xm == z) = true := by simpa using hs
            go_wp2_with fail
            go_big_quiet (fail)
            go_wp2_with fail
            go_ret
            exact ⟨rfl, below_drewN (HB0.out.trans (HBX.out.mono HB0.out.size)) _⟩
          · have j1 : (u + xm == z) = false := by simpa using hs
            have hne : i ≠ J := fun h => by
              rcases HDEC.out h with h4 | h4 <;> omega
            have HI1 : Hid (i + 1 ≤ J) := hid (by omega)
            clear hne HDEC
            go_wp2_with fail
            go_big_quiet (fail)
            go_wp2_with fail
            exact ⟨⟨i + 1, HI1.out, by go_num, hid (below_drewN HBX.out _)⟩, by simp [intOf]; omega⟩
      · have j3 : ((c : Int) == (p : Int)) = false := by rw [beq_eq_false_iff_ne]; omega
        have hne : i ≠ J := fun h => by
          rcases HDEC.out h with h4 | h4 <;> omega
        have HI1 : Hid (i + 1 ≤ J) := hid (by omega)
        clear hne HDEC
        go_wp2_with fail
        go_big_quiet (fail)
        go_wp2_with fail
        exact ⟨⟨i + 1, HI1.out, by go_num, hid (below_drewN HBX.out _)⟩, by simp [intOf]; omega⟩
end Go.Proofs.Ytmbmmnlcnplgnaa
