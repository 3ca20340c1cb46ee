/-
  The walk of ranged, and the search of a day among the holidays. Condition: the holidays lie in memory as a list reads.
-/
import Derived.Test.YthkmnoobajaooaaDoorChk
namespace Go.Proofs.YthkmnoobajaooaaDoor
open Go.RowKit Go.Shelf Go.Sort
def rngOk (O H : List Int) (a b : Int) : Prop := calOk O H ∧ 0 ≤ a ∧ a ≤ b ∧ b ≤ 1073741824
set_option maxHeartbeats 1000000 in
theorem ranged_yes (O : List Int) (hO : O.length = 14) (A : Option Addr) (len cap : Nat) (H : List Int) (w : World) (hH : Hol w A len H) (a b : Int) (hr : rngOk O H a b) :
    Calls Tryd.prog 46 #[calV O A len cap, .int .i64 a, .int .i64 b] w fun e w' => e = .returned (.bool true) ∧ Below w.heap.size w w' := by
  obtain ⟨hc, h0, h1, h2⟩ := hr
  have HK : Hid (∀ o, Calls Tryd.prog 29 #[calV O A len cap] (w.alloc o) fun e w' => e = .returned (.int .i64 0) ∧ Below (w.heap.size + 1) (w.alloc o) w') := hid (fun o => by
    have := check_any O hO A len cap H (w.alloc o) (hH.alloc o); rwa [calE_ok hc, World.size_alloc] at this)
  obtain ⟨x0, x1, x2, x3, x4, x5, x6, x7, x8, x9, x10, x11, x12, x13, rfl⟩ := list14 O hO
  simp only [calV, calC, List.map_cons, List.map_nil, List.cons_append, List.nil_append] at HK ⊢
  clear hO hH hc
  have d1 : decide (0 ≤ a) = true := by simp; omega
  have d2 : decide (a ≤ b) = true := by simp; omega
  have d3 : decide (b ≤ 1073741824) = true := by simp; omega
  go_enter Tryd.func46, Tryd.ntmps46
  go_wp2_with (go_at_call 29; refine (HK.out _).mono ?_; rintro e w1 ⟨rfl, hb⟩)
  go_ret
  exact ⟨rfl, ((Below.refl _ _).alloc (Nat.le_refl _) _).trans (hb.mono (by omega))⟩
theorem not_rng {O H : List Int} {a b : Int} (h : ¬ rngOk O H a b) : ¬ calOk O H ∨ (calOk O H ∧ a < 0) ∨ (calOk O H ∧ 0 ≤ a ∧ b < a) ∨ (calOk O H ∧ 0 ≤ a ∧ a ≤ b ∧ 1073741824 < b) := by
  by_cases hc : calOk O H
  · have : ¬ (0 ≤ a ∧ a ≤ b ∧ b ≤ 1073741824) := fun h' => h ⟨hc, h'⟩
    rcases (by omega : a < 0 ∨ (0 ≤ a ∧ b < a) ∨ (0 ≤ a ∧ a ≤ b ∧ 1073741824 < b)) with h1 | h1 | h1
    · exact .inr (.inl ⟨hc, h1⟩)
    · exact .inr (.inr (.inl ⟨hc, h1⟩))
    · exact .inr (.inr (.inr ⟨hc, h1⟩))
  · exact .inl hc
set_option maxHeartbeats 1000000 in
theorem ranged_no (O : List Int) (hO : O.length = 14) (A : Option Addr) (len cap : Nat) (H : List Int) (w : World) (hH : Hol w A len H) (a b : Int) (hr : ¬ rngOk O H a b) :
    Calls Tryd.prog 46 #[calV O A len cap, .int .i64 a, .int .i64 b] w fun e w' => e = .returned (.bool false) ∧ Below w.heap.size w w' := by
  have HK : Hid (∀ o, Calls Tryd.prog 29 #[calV O A len cap] (w.alloc o) fun e w' => e = .returned (.int .i64 (calE O H)) ∧ Below (w.heap.size + 1) (w.alloc o) w') := hid (fun o => by
    have := check_any O hO A len cap H (w.alloc o) (hH.alloc o); rwa [World.size_alloc] at this)
  have hr' := not_rng hr
  obtain ⟨x0, x1, x2, x3, x4, x5, x6, x7, x8, x9, x10, x11, x12, x13, rfl⟩ := list14 O hO
  simp only [calV, calC, List.map_cons, List.map_nil, List.cons_append, List.nil_append] at HK ⊢
  clear hO hH hr
  rcases hr' with hc | ⟨hc, h1⟩ | ⟨hc, h1, h2⟩ | ⟨hc, h1, h2, h3⟩
  · rw [calE_no hc] at HK
    clear hc
    go_enter Tryd.func46, Tryd.ntmps46
    go_wp2_with (go_at_call 29; refine (HK.out _).mono ?_; rintro e w1 ⟨rfl, hb⟩)
    go_ret
    exact ⟨rfl, ((Below.refl _ _).alloc (Nat.le_refl _) _).trans (hb.mono (by omega))⟩
  · rw [calE_ok hc] at HK
    have d1 : decide (0 ≤ a) = false := by simp; omega
    clear hc
    go_enter Tryd.func46, Tryd.ntmps46
    go_wp2_with (go_at_call 29; refine (HK.out _).mono ?_; rintro e w1 ⟨rfl, hb⟩)
    go_ret
    exact ⟨rfl, ((Below.refl _ _).alloc (Nat.le_refl _) _).trans (hb.mono (by omega))⟩
  · rw [calE_ok hc] at HK
    have d1 : decide (0 ≤ a) = true := by simp; omega
    have d2 : decide (a ≤ b) = false := by simp; omega
    clear hc
    go_enter Tryd.func46, Tryd.ntmps46
    go_wp2_with (go_at_call 29; refine (HK.out _).mono ?_; rintro e w1 ⟨rfl, hb⟩)
    go_ret
    exact ⟨rfl, ((Below.refl _ _).alloc (Nat.le_refl _) _).trans (hb.mono (by omega))⟩
  · rw [calE_ok hc] at HK
    have d1 : decide (0 ≤ a) = true := by simp; omega
    have d2 : decide (a ≤ b) = true := by simp; omega
    have d3 : decide (b ≤ 1073741824) = false := by simp; omega
    clear hc
    go_enter Tryd.func46, Tryd.ntmps46
    go_wp2_with (go_at_call 29; refine (HK.out _).mono ?_; rintro e w1 ⟨rfl, hb⟩)
    go_ret
    exact ⟨rfl, ((Below.refl _ _).alloc (Nat.le_refl _) _).trans (hb.mono (by omega))⟩

/-- sort.SearchInts on the holidays. -/
theorem search_hol (A : Option Addr) (len cap : Nat) (H : List Int) (d : Int) (w : World) (hH : Hol w A len H) (hlen : len < 4611686018427387904) (hok : holOk H) :
    Calls Tryd.prog 59 #[.slice A len cap, .int .i64 d] w fun e w' => e = .returned (.int .i64 (cntH H d)) ∧ Below w.heap.size w w' := by
  obtain ⟨hL, _, hA⟩ := hH
  by_cases h0 : len = 0
  · subst h0
    have : H = [] := List.eq_nil_of_length_eq_zero hL
    subst this
    exact Any.sort_SearchInts_none (P := Tryd.prog) Tryd.searchInts A cap d w
  · obtain ⟨b, off, rfl, hb, hc⟩ := hA (by omega)
    have hg : ∀ i : Nat, H.toArray[i]! = H.getD i 0 := by
      intro i
      by_cases hi : i < H.length
      · rw [getElem!_pos _ _ (by simpa using hi)]; simp [List.getD_eq_getElem?_getD, List.getElem?_eq_getElem hi]
      · rw [getElem!_neg _ _ (by simpa using hi)]; simp [List.getD_eq_getElem?_getD, List.getElem?_eq_none (Nat.le_of_not_lt hi)]
    have hS := Any.sort_SearchInts (P := Tryd.prog) Tryd.searchInts b off cap H.toArray d w (fun i hi => by rw [hg]; exact hc i (by simpa using hi)) hb (by simp; omega)
      (fun i j hij hj h => by
        rw [hg] at h ⊢
        rcases Nat.lt_or_eq_of_le hij with h1 | h1
        · have := hok.lt h1 (by simpa using hj); simp only [decide_eq_true_eq] at h ⊢; omega
        · subst h1; exact h)
    simp only [List.size_toArray, hL] at hS
    exact hS
end Go.Proofs.YthkmnoobajaooaaDoor
