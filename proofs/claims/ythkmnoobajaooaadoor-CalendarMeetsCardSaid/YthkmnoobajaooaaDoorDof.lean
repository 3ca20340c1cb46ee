/-
  The closures of DateOf and its two searches: the year and the month of a day. Conditions: the table lies in block 0; days from 0 to 745654.
-/
import Derived.Test.YthkmnoobajaooaaDoorRef4
import Derived.Test.YthkmnoobajaooaaDoorShelf
import Derived.RegionTactic
namespace Go.Proofs.YthkmnoobajaooaaDoor
open Go.RowKit Go.Shelf Go.Sort

theorem Bef.grow {w : World} (h : Bef w) (os : Array Obj) : Bef (Go.Sort.grow w os) :=
  h.below (by have := below_grown_sl w.heap.size w 0 os (Nat.le_refl _); exact this)
theorem countP_split (N k : Nat) (p : Nat → Bool) (hk : k ≤ N) (h1 : ∀ i, i < k → p i = true) (h2 : ∀ i, k ≤ i → i < N → p i = false) : (List.range N).countP p = k := by
  induction N with
  | zero => simp; omega
  | succ N ih =>
    rw [List.range_succ, List.countP_append]
    by_cases hN : k ≤ N
    · rw [ih hN (fun i hi hi2 => h2 i hi (by omega))]
      simp [h2 N hN (by omega)]
    · obtain rfl : k = N + 1 := by omega
      have : (List.range N).countP p = N := by
        have e : (List.range N).countP p = (List.range N).length := List.countP_eq_length.2 (fun i hi => h1 i (by have := List.mem_range.1 hi; omega))
        rw [e, List.length_range]
      rw [this]
      simp [h1 N (by omega)]

set_option maxHeartbeats 400000 in
theorem cl44 (i : Nat) (n : Int) (b : Nat) (W : World) (hi : i < 3000) (hB : Bef W) (hc : W.cell? ⟨b, 0, none⟩ = some (.int .i64 n)) :
    Calls Tryd.prog 44 #[.int .i64 i, .pointer (some ⟨b, 0, none⟩)] W fun e w' => e = .returned (.bool (decide (n < stD (2000 + i + 1) 1))) ∧ ∃ q, w' = W.drewN q := by
  have hs := yearD_bd (2000 + i + 1) (by omega) (by omega)
  have h1 := stD_one (2000 + i + 1)
  have HB := hid hB
  have H1 := hid h1
  clear hB h1
  go_enter Tryd.func44, Tryd.ntmps44
  go_wp2_with fail
  go_quiet ((go_at_call 40; exact quiet_left (start_any _ _ _ (by omega) (by omega) (by omega) (by omega) HB.out)))
  go_wp2_with fail
  go_ret
  exact ⟨ret_bool rfl, _, rfl⟩
set_option maxHeartbeats 400000 in
theorem cl45 (i : Nat) (n y : Int) (b b2 : Nat) (W : World) (hi : i < 11) (hy0 : 2000 ≤ y) (hy1 : y ≤ 10000) (hB : Bef W) (hc : W.cell? ⟨b, 0, none⟩ = some (.int .i64 n)) (hc2 : W.cell? ⟨b2, 0, none⟩ = some (.int .i64 y)) :
    Calls Tryd.prog 45 #[.int .i64 i, .pointer (some ⟨b2, 0, none⟩), .pointer (some ⟨b, 0, none⟩)] W fun e w' => e = .returned (.bool (decide (n < stD y (i + 2)))) ∧ ∃ q, w' = W.drewN q := by
  have HB := hid hB
  clear hB
  go_enter Tryd.func45, Tryd.ntmps45
  go_wp2_with fail
  go_quiet ((go_at_call 40; exact quiet_left (start_any _ _ _ (by omega) (by omega) (by omega) (by omega) HB.out)))
  go_wp2_with fail
  go_ret
  exact ⟨ret_bool rfl, _, rfl⟩

theorem search_year (n y : Int) (b : Nat) (w : World) (hB : Bef w) (hb : b < w.heap.size) (hc : w.cell? ⟨b, 0, none⟩ = some (.int .i64 n)) (h0 : 2000 ≤ y) (h1 : yearD y ≤ n) (h2 : n < yearD (y + 1)) (h3 : y ≤ 4900) :
    Calls Tryd.prog 43 #[.int .i64 3000, .func (.func 44) #[] #[.pointer (some ⟨b, 0, none⟩)]] w fun e w' => e = .returned (.int .i64 (y - 2000)) ∧ ∃ q os, w' = grow (w.drewN q) os := by
  have hS := Any.sort_Search (P := Tryd.prog) Tryd.search 44 #[.pointer (some ⟨b, 0, none⟩)] 3000 (fun i => decide (n < stD (2000 + i + 1) 1)) w (enters_of Tryd.func44 (by kernel_rfl) rfl) (by omega)
    (fun m os i hi => (cl44 i n b _ hi (hB.drewN m |>.grow os) (cell_grown hb hc m os)).mono fun _ _ ⟨he, q, hq⟩ => ⟨he, q, #[], by rw [hq, grow_empty]⟩)
    (fun a c hac _ h => by
      simp only [decide_eq_true_eq, stD_one] at h ⊢
      have := yearD_mono (a := 2000 + (a : Int) + 1) (b := 2000 + (c : Int) + 1) (by omega)
      omega)
  refine hS.mono fun e w' ⟨he, hw⟩ => ⟨he.trans (ret_int ?_), hw⟩
  rw [countP_split 3000 (y - 2000).toNat _ (by omega)]
  · omega
  · intro i hi
    have := yearD_mono (a := 2000 + (i : Int) + 1) (b := y) (by omega)
    simp only [stD_one, Bool.not_eq_true', decide_eq_false_iff_not]; omega
  · intro i hi _
    have := yearD_mono (a := y + 1) (b := 2000 + (i : Int) + 1) (by omega)
    simp only [stD_one, Bool.not_eq_false', decide_eq_true_eq]; omega
theorem search_month (n y m : Int) (b b2 : Nat) (w : World) (hB : Bef w) (hb : b < w.heap.size) (hb2 : b2 < w.heap.size) (hc : w.cell? ⟨b, 0, none⟩ = some (.int .i64 n)) (hc2 : w.cell? ⟨b2, 0, none⟩ = some (.int .i64 y)) (h0 : 2000 ≤ y) (h3 : y ≤ 4900)
    (hm0 : 1 ≤ m) (hm1 : m ≤ 12) (h1 : stD y m ≤ n) (h2 : n < stD y (m + 1)) :
    Calls Tryd.prog 43 #[.int .i64 11, .func (.func 45) #[] #[.pointer (some ⟨b2, 0, none⟩), .pointer (some ⟨b, 0, none⟩)]] w fun e w' => e = .returned (.int .i64 (m - 1)) ∧ ∃ q os, w' = grow (w.drewN q) os := by
  have hS := Any.sort_Search (P := Tryd.prog) Tryd.search 45 #[.pointer (some ⟨b2, 0, none⟩), .pointer (some ⟨b, 0, none⟩)] 11 (fun i => decide (n < stD y (i + 2))) w (enters_of Tryd.func45 (by kernel_rfl) rfl) (by omega)
    (fun q os i hi => (cl45 i n y b b2 _ hi h0 (by omega) (hB.drewN q |>.grow os) (cell_grown hb hc q os) (cell_grown hb2 hc2 q os)).mono fun _ _ ⟨he, q, hq⟩ => ⟨he, q, #[], by rw [hq, grow_empty]⟩)
    (fun a c hac _ h => by
      simp only [decide_eq_true_eq] at h ⊢
      have := stD_mono y (a := (a : Int) + 2) (b := (c : Int) + 2) (by omega) (by omega) (by omega)
      omega)
  refine hS.mono fun e w' ⟨he, hw⟩ => ⟨he.trans (ret_int ?_), hw⟩
  rw [countP_split 11 (m - 1).toNat _ (by omega)]
  · omega
  · intro i hi
    have := stD_mono y (a := (i : Int) + 2) (b := m) (by omega) (by omega) (by omega)
    simp only [Bool.not_eq_true', decide_eq_false_iff_not]; omega
  · intro i hi _
    have := stD_mono y (a := m + 1) (b := (i : Int) + 2) (by omega) (by omega) (by omega)
    simp only [Bool.not_eq_false', decide_eq_true_eq]; omega
end Go.Proofs.YthkmnoobajaooaaDoor
