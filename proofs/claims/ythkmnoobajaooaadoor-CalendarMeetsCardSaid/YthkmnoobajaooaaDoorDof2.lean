/-
  The walk of DateOf: it answers the date of a day or the error. Condition: the table lies in block 0.
-/
import Derived.Test.YthkmnoobajaooaaDoorDof
import Derived.Deep.RegionHeld3
namespace Go.Proofs.YthkmnoobajaooaaDoor
open Go.RowKit Go.Shelf Go.Sort

theorem bef_set {w : World} (h : Bef w) {p : Addr} (hp : p.block ≠ 0) (u : Value) : Bef (w.setCell p u) :=
  ⟨by simp [World.setCell]; exact h.1, fun i hi => (World.cell?_setCell_other w p ⟨0, i, none⟩ u (fun e => hp (by rw [e]))).trans (h.2 i hi)⟩
theorem keepS {b1 b2 g : Nat} {w3 : World} {u1 u2 v1 v2 v3 : Value} (h1 : b1 ≠ g) (h2 : b2 ≠ g) (h0 : 0 ≠ g)
    (hS : w3.cell? ⟨b1, 0, none⟩ = some u1 ∧ w3.cell? ⟨b2, 0, none⟩ = some u2 ∧ Bef w3) :
    (((w3.setCell ⟨g, 0, none⟩ v1).setCell ⟨g, 1, none⟩ v2).setCell ⟨g, 2, none⟩ v3).drew.cell? ⟨b1, 0, none⟩ = some u1 ∧
    (((w3.setCell ⟨g, 0, none⟩ v1).setCell ⟨g, 1, none⟩ v2).setCell ⟨g, 2, none⟩ v3).drew.cell? ⟨b2, 0, none⟩ = some u2 ∧ Bef (((w3.setCell ⟨g, 0, none⟩ v1).setCell ⟨g, 1, none⟩ v2).setCell ⟨g, 2, none⟩ v3).drew := by
  have far : ∀ (w : World) (i b : Nat) (v : Value), b ≠ g → (w.setCell ⟨g, i, none⟩ v).cell? ⟨b, 0, none⟩ = w.cell? ⟨b, 0, none⟩ := fun w i b v hb => World.cell?_setCell_other w ⟨g, i, none⟩ ⟨b, 0, none⟩ v (fun e => hb (by injection e with e; exact e.symm))
  refine ⟨?_, ?_, ?_⟩
  · show World.cell? (((w3.setCell ⟨g, 0, none⟩ v1).setCell ⟨g, 1, none⟩ v2).setCell ⟨g, 2, none⟩ v3) _ = _
    rw [far _ _ _ _ h1, far _ _ _ _ h1, far _ _ _ _ h1]; exact hS.1
  · show World.cell? (((w3.setCell ⟨g, 0, none⟩ v1).setCell ⟨g, 1, none⟩ v2).setCell ⟨g, 2, none⟩ v3) _ = _
    rw [far _ _ _ _ h2, far _ _ _ _ h2, far _ _ _ _ h2]; exact hS.2.1
  · exact (bef_set (bef_set (bef_set hS.2.2 (by exact h0.symm) _) (by exact h0.symm) _) (by exact h0.symm) _).drew
set_option maxHeartbeats 400000 in
theorem dateOf_no (n : Int) (w : World) (h : n < 0 ∨ 745654 < n) :
    Calls Tryd.prog 14 #[.int .i64 n] w fun e w' => e = .returned (.tuple #[.agg #[.int .i64 0, .int .i64 0, .int .i64 0], .int .i64 1]) ∧ Below w.heap.size w w' := by
  rcases h with h | h
  · go_enter Tryd.func14, Tryd.ntmps14
    go_wp2_with fail
    exact bodyPost_ret (v := .tuple #[.agg #[.int .i64 0, .int .i64 0, .int .i64 0], .int .i64 1]) (by simp [results, Tryd.results14, go_sem]) rfl ⟨rfl, ((Below.refl _ _).alloc (Nat.le_refl _) _).alloc (by simp) _⟩
  · have h0 : ¬ n < 0 := by omega
    go_enter Tryd.func14, Tryd.ntmps14
    go_wp2_with fail
    exact bodyPost_ret (v := .tuple #[.agg #[.int .i64 0, .int .i64 0, .int .i64 0], .int .i64 1]) (by simp [results, Tryd.results14, go_sem]) rfl ⟨rfl, ((Below.refl _ _).alloc (Nat.le_refl _) _).alloc (by simp) _⟩
set_option maxHeartbeats 400000 in
theorem dateOf_ok (n y m d : Int) (w : World) (h0 : 0 ≤ n) (h1 : n ≤ 745654) (hd : IsDate n y m d) (hB : Bef w) :
    Calls Tryd.prog 14 #[.int .i64 n] w fun e w' => e = .returned (.tuple #[.agg #[.int .i64 y, .int .i64 m, .int .i64 d], .int .i64 0]) ∧ Below w.heap.size w w' := by
  obtain ⟨hy0, hm0, hm1, hl, hh, hdd⟩ := hd
  have hy1 : y ≤ 4900 := by
    by_cases e : y ≤ 4900
    · exact e
    · have a := yearD_mono (a := 4900) (b := y) (by omega)
      have b := yearD_bd 4900 (by omega) (by omega)
      have c := stD_mono y (a := 1) (b := m) (by omega) hm0 (by omega)
      rw [stD_one] at c; omega
  have hyl : yearD y ≤ n := by have c := stD_mono y (a := 1) (b := m) (by omega) hm0 (by omega); rw [stD_one] at c; omega
  have hyh : n < yearD (y + 1) := by have c := stD_mono y (a := m + 1) (b := 13) (by omega) (by omega) (by omega); rw [stD_13] at c; omega
  have HD := hid hdd
  have hs : -100 ≤ stD y m := by have c := stD_mono y (a := 1) (b := m) (by omega) hm0 (by omega); rw [stD_one] at c; have := yearD_mono hy0; rw [yearD_2000] at this; omega
  have hs1 : stD y m ≤ 1000000 := by omega
  clear hdd
  have hB1 := (hB.alloc (.cells #[.int .i64 n] 3)).alloc (.cells #[.int .i64 0, .int .i64 0, .int .i64 0] 23)
  obtain ⟨w1, hw1⟩ : ∃ w1, w1 = (w.alloc (.cells #[.int .i64 n] 3)).alloc (.cells #[.int .i64 0, .int .i64 0, .int .i64 0] 23) := ⟨_, rfl⟩
  have hb1 : Below w.heap.size w w1 := by rw [hw1]; exact ((Below.refl _ _).alloc (Nat.le_refl _) _).alloc (by simp) _
  have hsz1 : w1.heap.size = w.heap.size + 2 := by rw [hw1]; simp
  have B1 : Blk w1 w.heap.size 3 #[.int .i64 n] := by rw [hw1]; exact (Blk.new _ _ _).alloc _
  have B2 : Blk w1 (w.heap.size + 1) 23 #[.int .i64 0, .int .i64 0, .int .i64 0] := by rw [hw1]; exact Blk.of_size _ (by simp) _ _
  have hsy := search_year n y w.heap.size w1 (by rw [hw1]; exact hB1) (by omega) (B1.at 0 rfl) hy0 hyl hyh hy1
  go_enter Tryd.func14, Tryd.ntmps14
  go_wp2_with fail
  rw [← hw1]
  refine hsy.mono ?_
  rintro e w2 ⟨rfl, q, os, rfl⟩
  have hb2 : Below w1.heap.size w1 (grow (w1.drewN q) os) := below_grown_sl _ _ q os (Nat.le_refl _)
  have hB2 : Bef (grow (w1.drewN q) os) := by rw [hw1]; exact (hB1.drewN q).grow os
  have B12 := B1.below hb2 (by omega)
  have B22 := B2.below hb2 (by omega)
  have HW : Hid (Below w.heap.size w (grow (w1.drewN q) os)) := hid (hb1.trans (hb2.mono (by omega)))
  clear hsy hB1 hb1 hw1 hb2 hsz1 B1 B2
  generalize grow (w1.drewN q) os = w2 at *
  clear w1
  have hlt2 := B22.lt
  have hsm := search_month n y m w.heap.size w2.heap.size (w2.alloc (.cells #[.int .i64 y] 3)) (hB2.alloc _) (by simp; omega) (by simp) ((B12.alloc _).at 0 rfl) ((Blk.new _ _ _).at 0 rfl) hy0 hy1 hm0 hm1 hl hh
  have ey : 2000 + (y - 2000) = y := by omega
  have HM := hid hsm
  have c20 := B22.at 0 rfl
  have c21 := B22.at 1 rfl
  have c22 := B22.at 2 rfl
  clear hsm hl hh hyl hyh
  go_wp2_with fail
  refine HM.out.mono ?_
  rintro e w3 ⟨rfl, q2, os2, rfl⟩
  have hb3 : Below (w2.alloc (.cells #[.int .i64 y] 3)).heap.size (w2.alloc (.cells #[.int .i64 y] 3)) (grow ((w2.alloc (.cells #[.int .i64 y] 3)).drewN q2) os2) := below_grown_sl _ _ q2 os2 (Nat.le_refl _)
  have hB3 : Bef (grow ((w2.alloc (.cells #[.int .i64 y] 3)).drewN q2) os2) := ((hB2.alloc _).drewN q2).grow os2
  have B13 := (B12.alloc (.cells #[.int .i64 y] 3)).below hb3 (by simp; omega)
  have B23 := (B22.alloc (.cells #[.int .i64 y] 3)).below hb3 (by simp; omega)
  have B33 := (Blk.new w2 3 #[.int .i64 y]).below hb3 (by simp)
  rw [World.size_alloc] at hb3
  have HW3 : Hid (Below w.heap.size w (grow ((w2.alloc (.cells #[.int .i64 y] 3)).drewN q2) os2)) := hid ((HW.out.alloc (by omega) _).trans (hb3.mono (by omega)))
  clear hb3 c20 c21 c22 HM HW hB2 hB B12 B22 ey
  generalize grow ((w2.alloc (.cells #[.int .i64 y] 3)).drewN q2) os2 = w3 at *
  have k1 := B13.at 0 rfl
  have k20 := B23.at 0 rfl
  have k21 := B23.at 1 rfl
  have k22 := B23.at 2 rfl
  have k3 := B33.at 0 rfl
  have g20 := B23.frozen 0
  have g21 := B23.frozen 1
  have g22 := B23.frozen 2
  have hlt3 := B33.lt
  go_wp2_with fail
  have em : 1 + (m - 1) = m := by omega
  have ew1 : IntKind.i64.wrap (n - stD y m) = n - stD y m := IntWalk.i64_in _ (by omega)
  have ew2 : IntKind.i64.wrap (n - stD y m + 1) = n - stD y m + 1 := IntWalk.i64_in _ (by omega)
  go_region_held3 (fun w' => w'.cell? ⟨w.heap.size, 0, none⟩ = some (.int .i64 n) ∧ w'.cell? ⟨w2.heap.size, 0, none⟩ = some (.int .i64 y) ∧ Bef w') (first | exact ⟨k1, k3, hB3⟩ | exact keepS (by omega) (by omega) (by omega) ⟨k1, k3, hB3⟩)
    (first | (go_at_call 40; refine (start_any _ _ _ (by omega) (by omega) (by omega) (by omega) (by assumption)).mono ?_; rintro e w' ⟨rfl, rfl⟩))
  clear em ew1 ew2 k1 k3
  go_wp2_with fail
  refine bodyPost_ret (v := .tuple #[.agg #[.int .i64 y, .int .i64 m, .int .i64 (n - stD y m + 1)], .int .i64 0]) (by simp [results, Tryd.results14, go_sem, k20, k21, k22]) rfl ⟨by rw [HD.out], ?_⟩
  have hB4 := HW3.out
  exact (((hB4.setCell (p := ⟨w.heap.size + 1, 0, none⟩) (by simp) _).setCell (p := ⟨w.heap.size + 1, 1, none⟩) (by simp) _).setCell (p := ⟨w.heap.size + 1, 2, none⟩) (by simp) _).drew
theorem dateOf_any (n : Int) (w : World) (hB : Bef w) :
    Calls Tryd.prog 14 #[.int .i64 n] w fun e w' => e = .returned (.tuple #[.agg #[.int .i64 (dY n), .int .i64 (dM n), .int .i64 (dD n)], .int .i64 (dE n)]) ∧ Below w.heap.size w w' := by
  by_cases h : 0 ≤ n ∧ n ≤ 745654
  · have hd := date_is n h.1 (by omega)
    obtain ⟨a, b, c, e⟩ := d_ok h
    rw [a, b, c, e]
    exact dateOf_ok n _ _ _ w h.1 h.2 hd hB
  · obtain ⟨a, b, c, e⟩ := d_no h
    rw [a, b, c, e]
    exact dateOf_no n w (by omega)
end Go.Proofs.YthkmnoobajaooaaDoor
