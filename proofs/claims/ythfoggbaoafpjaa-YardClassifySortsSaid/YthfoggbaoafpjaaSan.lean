/-
  The walk of the law package's sane: it answers true. Conditions: none.
-/
import Derived.Test.YthfoggbaoafpjaaExy
namespace Go.Proofs.Ythfoggbaoafpjaa
open Go.RowKit
theorem lit_cars {w : World} {g : Nat} (L : List Car) (h : Blk w g 33 (carC L).toArray) : CarV w (.slice (some ⟨g, 0, none⟩) L.length L.length) L :=
  ⟨_, _, rfl, fun _ => ⟨g, 0, rfl, h.lt, fun j u hu => by rw [Nat.zero_add]; exact h.at j (by simpa using hu)⟩, fun e => by cases e⟩
theorem lit_ints {w : World} {g : Nat} (L : List Int) (h : Blk w g 3 (intC L).toArray) : IntV w (.slice (some ⟨g, 0, none⟩) L.length L.length) L :=
  ⟨_, _, rfl, fun _ => ⟨g, 0, rfl, h.lt, fun j u hu => by rw [Nat.zero_add]; exact h.at j (by simpa using hu)⟩, fun e => by cases e⟩
theorem lit_stgs {w : World} {g g1 g2 : Nat} (T1 T2 : List Int) (h : Blk w g 37 #[.slice (some ⟨g1, 0, none⟩) T1.length T1.length, .slice (some ⟨g2, 0, none⟩) T2.length T2.length]) (h1 : Blk w g1 3 (intC T1).toArray) (h2 : Blk w g2 3 (intC T2).toArray) : StgV w (.slice (some ⟨g, 0, none⟩) 2 2) [T1, T2] :=
  ⟨_, _, [.slice (some ⟨g1, 0, none⟩) T1.length T1.length, .slice (some ⟨g2, 0, none⟩) T2.length T2.length], rfl, fun _ => ⟨g, 0, rfl, h.lt, fun j u hu => by rw [Nat.zero_add]; exact h.at j (by simpa using hu)⟩, rfl, fun j hj => by
    have : j = 0 ∨ j = 1 := by simp at hj; omega
    rcases this with rfl | rfl
    · exact lit_ints T1 h1
    · exact lit_ints T2 h2, fun e => by cases e⟩
theorem ids_of {L : List Car} (h : L.all (fun c => decide (0 ≤ c.id ∧ c.id ≤ 9)) = true) : IdsW L := fun c hc => by
  have := List.all_eq_true.1 h c hc
  simp only [decide_eq_true_eq] at this
  exact ⟨by omega, by omega⟩
theorem rules_any (w : World) : Calls Try.prog 34 #[] w fun e w' => e = .returned (.agg #[.int .i64 2, .int .i64 100, .int .i64 1000, .int .i64 1000, .int .i64 7, .int .i64 0, .int .i64 1]) ∧ Below w.heap.size w w' := by
  have HB := hid ((Below.refl w.heap.size w).alloc (Nat.le_refl _) (.cells #[.int .i64 2, .int .i64 100, .int .i64 1000, .int .i64 1000, .int .i64 7, .int .i64 0, .int .i64 1] 23))
  have HN := hid (Blk.new w 23 #[.int .i64 2, .int .i64 100, .int .i64 1000, .int .i64 1000, .int .i64 7, .int .i64 0, .int .i64 1])
  go_enter Try.func34, Try.ntmps34
  go_wp2_with fail
  exact bodyPost_ret (results_cell_row (P := Try.prog) rfl _ _ w.heap.size 23 #[.int .i64 2, .int .i64 100, .int .i64 1000, .int .i64 1000, .int .i64 7, .int .i64 0, .int .i64 1] (0, 0) _ rfl HN.out Try.underlying23 rfl (by kernel_rfl)) rfl ⟨rfl, HB.out⟩
theorem ex_roll {w w' : World} {e : Ending} (h : RolP w lxA [1, 0, 1] e w') : ∃ v, e = .returned (.tuple #[v, .int .i64 0]) ∧ CarV w' v lxA2 ∧ Below w.heap.size w w' := by
  obtain ⟨v, h1, h2, h3⟩ := h
  rw [exA1] at h1 h3
  rcases h3 with ⟨h3, _⟩ | ⟨_, h3, _⟩
  · exact absurd rfl h3
  · rw [exA2] at h3
    exact ⟨v, h1, h3, h2⟩
theorem ex_cls {w w' : World} {e : Ending} {r : Rls} {L : List Car} {er : Int} {Ss : List (List Int)} (h : ClsP w r L e w') (hx : ClsO r L er Ss) : ∃ v, e = .returned (.tuple #[v, .int .i64 er]) ∧ StgV w' v Ss ∧ Below w.heap.size w w' := by
  obtain ⟨v, er', h1, h2, h3, _⟩ := h
  obtain ⟨Ss', h4, h5, _⟩ := h3.out
  obtain ⟨rfl, rfl⟩ := h4.uniq hx
  exact ⟨v, h1, h5, h2⟩
theorem ex_sel {w w' : World} {e : Ending} {r : Rls} {L : List Car} {Z : List Int} (h : SelP w r L e w') (h0 : chkC r L = 0) (hz : selL r L = Z) : ∃ v, e = .returned (.tuple #[v, .int .i64 0]) ∧ IntV w' v Z ∧ Below w.heap.size w w' := by
  subst hz
  obtain ⟨v, er', h1, h2, ⟨h3, _⟩ | ⟨_, rfl, h3⟩⟩ := h
  · exact absurd h0 h3
  · exact ⟨v, h1, h3, h2⟩
theorem ex_same {e : Ending} {b : Bool} {B : Prop} (h : e = .returned (.bool b) ∧ B) (hb : b = true) : e = .returned (.bool true) ∧ B := by subst hb; exact h
theorem ex_bld {w w' : World} {e : Ending} {r : Rls} {L Cs : List Car} {er : Int} {Ss : List (List Int)} (h : BldP w r L e w') (hx : BldO r L er Cs Ss) : ∃ vc vs, e = .returned (.tuple #[.agg #[vc, vs], .int .i64 er]) ∧ CarV w' vc Cs ∧ StgV w' vs Ss ∧ Below w.heap.size w w' := by
  obtain ⟨vc, vs, er', Cs', Ss', h1, h2, h3, h4, h5⟩ := h
  obtain ⟨rfl, rfl, rfl⟩ := h3.uniq hx
  exact ⟨vc, vs, h1, h4, h5, h2⟩
set_option maxHeartbeats 8000000 in
set_option maxRecDepth 100000 in
theorem sane_any (w : World) : Calls Try.prog 11 #[] w fun e w' => e = .returned (.bool true) ∧ Below w.heap.size w w' := by
  have HRU : Hid (∀ W : World, Calls Try.prog 34 #[] W fun e W' => e = .returned (.agg #[.int .i64 2, .int .i64 100, .int .i64 1000, .int .i64 1000, .int .i64 7, .int .i64 0, .int .i64 1]) ∧ Below W.heap.size W W') := hid rules_any
  go_enter Try.func11, Try.ntmps11
  have hal : Below w.heap.size w w := (Below.refl w.heap.size w)
  have HAL := hid hal
  have HC := hid (HRU.out w)
  clear hal
  go_wp2_with fail
  refine HC.out.mono ?_
  intro e w1 hc
  obtain ⟨rfl, hb⟩ := id hc
  have hbk : Below w.heap.size w w1 := HAL.out.trans (hb.mono HAL.out.size)
  have HBW := hid hbk
  clear hc hb hbk HC HAL
  have hal : Below w1.heap.size w1 (w1.alloc (.cells #[.int .i64 2, .int .i64 100, .int .i64 1000, .int .i64 1000, .int .i64 7, .int .i64 0, .int .i64 1] 23)) := ((Below.refl w1.heap.size w1).alloc (by simp <;> omega) _)
  have hal0 : Blk (w1.alloc (.cells #[.int .i64 2, .int .i64 100, .int .i64 1000, .int .i64 1000, .int .i64 7, .int .i64 0, .int .i64 1] 23)) (w1.heap.size) 23 #[.int .i64 2, .int .i64 100, .int .i64 1000, .int .i64 1000, .int .i64 7, .int .i64 0, .int .i64 1] := (Blk.of_size (w := w1) (w1.heap.size) (by simp) 23 #[.int .i64 2, .int .i64 100, .int .i64 1000, .int .i64 1000, .int .i64 7, .int .i64 0, .int .i64 1])
  go_upto_region 2 with fail
  replace HBW := hid (HBW.out.trans (hal.mono HBW.out.size))
  have HR1 := hid hal0
  obtain ⟨w2, hnw⟩ : ∃ W, (w1.alloc (.cells #[.int .i64 2, .int .i64 100, .int .i64 1000, .int .i64 1000, .int .i64 7, .int .i64 0, .int .i64 1] 23)) = W := ⟨_, rfl⟩
  rw [hnw] at HR1 HBW ⊢
  obtain ⟨g1, hg⟩ : ∃ g, w1.heap.size = g := ⟨_, rfl⟩
  rw [hg] at HR1 ⊢
  clear hg
  clear hnw hal
  clear hal0
  have hal : Below w2.heap.size w2 ((w2.alloc (.cells #[.int .i64 1, .int .i64 0, .int .i64 0, .int .i64 0, .int .i64 0, .int .i64 0, .int .i64 0, .int .i64 2, .int .i64 0, .int .i64 0, .int .i64 0, .int .i64 0, .int .i64 0, .int .i64 0, .int .i64 3, .int .i64 0, .int .i64 0, .int .i64 0, .int .i64 0, .int .i64 0, .int .i64 0] 33)).alloc (.cells #[.int .i64 1, .int .i64 0, .int .i64 1] 3)) := (((Below.refl w2.heap.size w2).alloc (by simp <;> omega) _).alloc (by simp <;> omega) _)
  have HAL := hid hal
  have hal0 : Blk ((w2.alloc (.cells #[.int .i64 1, .int .i64 0, .int .i64 0, .int .i64 0, .int .i64 0, .int .i64 0, .int .i64 0, .int .i64 2, .int .i64 0, .int .i64 0, .int .i64 0, .int .i64 0, .int .i64 0, .int .i64 0, .int .i64 3, .int .i64 0, .int .i64 0, .int .i64 0, .int .i64 0, .int .i64 0, .int .i64 0] 33)).alloc (.cells #[.int .i64 1, .int .i64 0, .int .i64 1] 3)) (w2.heap.size) 33 #[.int .i64 1, .int .i64 0, .int .i64 0, .int .i64 0, .int .i64 0, .int .i64 0, .int .i64 0, .int .i64 2, .int .i64 0, .int .i64 0, .int .i64 0, .int .i64 0, .int .i64 0, .int .i64 0, .int .i64 3, .int .i64 0, .int .i64 0, .int .i64 0, .int .i64 0, .int .i64 0, .int .i64 0] := ((Blk.of_size (w := w2) (w2.heap.size) (by simp) 33 #[.int .i64 1, .int .i64 0, .int .i64 0, .int .i64 0, .int .i64 0, .int .i64 0, .int .i64 0, .int .i64 2, .int .i64 0, .int .i64 0, .int .i64 0, .int .i64 0, .int .i64 0, .int .i64 0, .int .i64 3, .int .i64 0, .int .i64 0, .int .i64 0, .int .i64 0, .int .i64 0, .int .i64 0]).alloc _)
  have hal1 : Blk ((w2.alloc (.cells #[.int .i64 1, .int .i64 0, .int .i64 0, .int .i64 0, .int .i64 0, .int .i64 0, .int .i64 0, .int .i64 2, .int .i64 0, .int .i64 0, .int .i64 0, .int .i64 0, .int .i64 0, .int .i64 0, .int .i64 3, .int .i64 0, .int .i64 0, .int .i64 0, .int .i64 0, .int .i64 0, .int .i64 0] 33)).alloc (.cells #[.int .i64 1, .int .i64 0, .int .i64 1] 3)) (w2.heap.size + 1) 3 #[.int .i64 1, .int .i64 0, .int .i64 1] := (Blk.of_size (w := (w2.alloc (.cells #[.int .i64 1, .int .i64 0, .int .i64 0, .int .i64 0, .int .i64 0, .int .i64 0, .int .i64 0, .int .i64 2, .int .i64 0, .int .i64 0, .int .i64 0, .int .i64 0, .int .i64 0, .int .i64 0, .int .i64 3, .int .i64 0, .int .i64 0, .int .i64 0, .int .i64 0, .int .i64 0, .int .i64 0] 33))) (w2.heap.size + 1) (by simp) 3 #[.int .i64 1, .int .i64 0, .int .i64 1])
  have HC := hid (roll_val (w := ((w2.alloc (.cells #[.int .i64 1, .int .i64 0, .int .i64 0, .int .i64 0, .int .i64 0, .int .i64 0, .int .i64 0, .int .i64 2, .int .i64 0, .int .i64 0, .int .i64 0, .int .i64 0, .int .i64 0, .int .i64 0, .int .i64 3, .int .i64 0, .int .i64 0, .int .i64 0, .int .i64 0, .int .i64 0, .int .i64 0] 33)).alloc (.cells #[.int .i64 1, .int .i64 0, .int .i64 1] 3))) (v1 := .slice (some ⟨w2.heap.size, 0, none⟩) 3 3) (v2 := .slice (some ⟨w2.heap.size + 1, 0, none⟩) 3 3) (lit_cars lxA hal0) (lit_ints [1, 0, 1] hal1))
  clear hal hal0 hal1
  go_wp2_with fail
  refine HC.out.mono ?_
  intro e w3 hc
  obtain ⟨v2, rfl, hv, hb⟩ := ex_roll hc
  have hbk : Below w2.heap.size w2 w3 := HAL.out.trans (hb.mono HAL.out.size)
  replace HR1 := hid (HR1.out.below hbk HR1.out.lt)
  replace HBW := hid (HBW.out.trans (hbk.mono HBW.out.size))
  have HV2 := hid hv
  clear hc hb hbk HC HAL hv
  have x0 := HR1.out.at 0 rfl
  have x1 := HR1.out.at 1 rfl
  have x2 := HR1.out.at 2 rfl
  have x3 := HR1.out.at 3 rfl
  have x4 := HR1.out.at 4 rfl
  have x5 := HR1.out.at 5 rfl
  have x6 := HR1.out.at 6 rfl
  have hal : Below w3.heap.size w3 (w3.alloc (.cells #[.int .i64 1, .int .i64 5, .int .i64 0, .int .i64 0, .int .i64 0, .int .i64 0, .int .i64 0, .int .i64 2, .int .i64 3, .int .i64 0, .int .i64 0, .int .i64 0, .int .i64 0, .int .i64 0, .int .i64 3, .int .i64 9, .int .i64 0, .int .i64 0, .int .i64 0, .int .i64 0, .int .i64 0, .int .i64 4, .int .i64 3, .int .i64 0, .int .i64 0, .int .i64 0, .int .i64 0, .int .i64 0] 33)) := ((Below.refl w3.heap.size w3).alloc (by simp <;> omega) _)
  have HAL := hid hal
  have hal0 : Blk (w3.alloc (.cells #[.int .i64 1, .int .i64 5, .int .i64 0, .int .i64 0, .int .i64 0, .int .i64 0, .int .i64 0, .int .i64 2, .int .i64 3, .int .i64 0, .int .i64 0, .int .i64 0, .int .i64 0, .int .i64 0, .int .i64 3, .int .i64 9, .int .i64 0, .int .i64 0, .int .i64 0, .int .i64 0, .int .i64 0, .int .i64 4, .int .i64 3, .int .i64 0, .int .i64 0, .int .i64 0, .int .i64 0, .int .i64 0] 33)) (w3.heap.size) 33 #[.int .i64 1, .int .i64 5, .int .i64 0, .int .i64 0, .int .i64 0, .int .i64 0, .int .i64 0, .int .i64 2, .int .i64 3, .int .i64 0, .int .i64 0, .int .i64 0, .int .i64 0, .int .i64 0, .int .i64 3, .int .i64 9, .int .i64 0, .int .i64 0, .int .i64 0, .int .i64 0, .int .i64 0, .int .i64 4, .int .i64 3, .int .i64 0, .int .i64 0, .int .i64 0, .int .i64 0, .int .i64 0] := (Blk.of_size (w := w3) (w3.heap.size) (by simp) 33 #[.int .i64 1, .int .i64 5, .int .i64 0, .int .i64 0, .int .i64 0, .int .i64 0, .int .i64 0, .int .i64 2, .int .i64 3, .int .i64 0, .int .i64 0, .int .i64 0, .int .i64 0, .int .i64 0, .int .i64 3, .int .i64 9, .int .i64 0, .int .i64 0, .int .i64 0, .int .i64 0, .int .i64 0, .int .i64 4, .int .i64 3, .int .i64 0, .int .i64 0, .int .i64 0, .int .i64 0, .int .i64 0])
  have HC := hid (classify_any rl0 lxB (some ⟨w3.heap.size, 0, none⟩) 4 (w3.alloc (.cells #[.int .i64 1, .int .i64 5, .int .i64 0, .int .i64 0, .int .i64 0, .int .i64 0, .int .i64 0, .int .i64 2, .int .i64 3, .int .i64 0, .int .i64 0, .int .i64 0, .int .i64 0, .int .i64 0, .int .i64 3, .int .i64 9, .int .i64 0, .int .i64 0, .int .i64 0, .int .i64 0, .int .i64 0, .int .i64 4, .int .i64 3, .int .i64 0, .int .i64 0, .int .i64 0, .int .i64 0, .int .i64 0] 33)) (lit_cars lxB hal0) (ids_of (by decide +kernel)))
  clear hal hal0
  go_wp2_with fail
  refine HC.out.mono ?_
  intro e w4 hc
  obtain ⟨v4, rfl, hv, hb⟩ := (fun h => ex_cls h exB) hc
  have hbk : Below w3.heap.size w3 w4 := HAL.out.trans (hb.mono HAL.out.size)
  replace HR1 := hid (HR1.out.below hbk HR1.out.lt)
  replace HV2 := hid (HV2.out.below hbk)
  replace HBW := hid (HBW.out.trans (hbk.mono HBW.out.size))
  have HV4 := hid hv
  clear hc hb hbk HC HAL hv
  clear x0 x1 x2 x3 x4 x5 x6
  have hal : Below w4.heap.size w4 w4 := (Below.refl w4.heap.size w4)
  have HAL := hid hal
  have HC := hid (HRU.out w4)
  clear hal
  go_wp2_with fail
  refine HC.out.mono ?_
  intro e w5 hc
  obtain ⟨rfl, hb⟩ := id hc
  have hbk : Below w4.heap.size w4 w5 := HAL.out.trans (hb.mono HAL.out.size)
  replace HR1 := hid (HR1.out.below hbk HR1.out.lt)
  replace HV2 := hid (HV2.out.below hbk)
  replace HV4 := hid (HV4.out.below hbk)
  replace HBW := hid (HBW.out.trans (hbk.mono HBW.out.size))
  clear hc hb hbk HC HAL
  have hal : Below w5.heap.size w5 (w5.alloc (.cells #[.int .i64 2, .int .i64 20, .int .i64 1000, .int .i64 1000, .int .i64 7, .int .i64 0, .int .i64 1] 23)) := ((Below.refl w5.heap.size w5).alloc (by simp <;> omega) _)
  have hal0 : Blk (w5.alloc (.cells #[.int .i64 2, .int .i64 20, .int .i64 1000, .int .i64 1000, .int .i64 7, .int .i64 0, .int .i64 1] 23)) (w5.heap.size) 23 #[.int .i64 2, .int .i64 20, .int .i64 1000, .int .i64 1000, .int .i64 7, .int .i64 0, .int .i64 1] := (Blk.of_size (w := w5) (w5.heap.size) (by simp) 23 #[.int .i64 2, .int .i64 20, .int .i64 1000, .int .i64 1000, .int .i64 7, .int .i64 0, .int .i64 1])
  go_upto_region 6 with fail
  replace HR1 := hid (HR1.out.below hal HR1.out.lt)
  replace HV2 := hid (HV2.out.below hal)
  replace HV4 := hid (HV4.out.below hal)
  replace HBW := hid (HBW.out.trans (hal.mono HBW.out.size))
  have HR6 := hid hal0
  obtain ⟨w6, hnw⟩ : ∃ W, (w5.alloc (.cells #[.int .i64 2, .int .i64 20, .int .i64 1000, .int .i64 1000, .int .i64 7, .int .i64 0, .int .i64 1] 23)) = W := ⟨_, rfl⟩
  rw [hnw] at HR1 HV2 HV4 HR6 HBW ⊢
  obtain ⟨g6, hg⟩ : ∃ g, w5.heap.size = g := ⟨_, rfl⟩
  rw [hg] at HR6 ⊢
  clear hg
  clear hnw hal
  clear hal0
  have x0 := HR6.out.at 0 rfl
  have x1 := HR6.out.at 1 rfl
  have x2 := HR6.out.at 2 rfl
  have x3 := HR6.out.at 3 rfl
  have x4 := HR6.out.at 4 rfl
  have x5 := HR6.out.at 5 rfl
  have x6 := HR6.out.at 6 rfl
  have hal : Below w6.heap.size w6 (w6.alloc (.cells #[.int .i64 1, .int .i64 0, .int .i64 10, .int .i64 0, .int .i64 0, .int .i64 0, .int .i64 0, .int .i64 2, .int .i64 0, .int .i64 10, .int .i64 0, .int .i64 0, .int .i64 0, .int .i64 0, .int .i64 3, .int .i64 0, .int .i64 10, .int .i64 0, .int .i64 0, .int .i64 0, .int .i64 0, .int .i64 4, .int .i64 1, .int .i64 10, .int .i64 0, .int .i64 0, .int .i64 0, .int .i64 0] 33)) := ((Below.refl w6.heap.size w6).alloc (by simp <;> omega) _)
  have HAL := hid hal
  have hal0 : Blk (w6.alloc (.cells #[.int .i64 1, .int .i64 0, .int .i64 10, .int .i64 0, .int .i64 0, .int .i64 0, .int .i64 0, .int .i64 2, .int .i64 0, .int .i64 10, .int .i64 0, .int .i64 0, .int .i64 0, .int .i64 0, .int .i64 3, .int .i64 0, .int .i64 10, .int .i64 0, .int .i64 0, .int .i64 0, .int .i64 0, .int .i64 4, .int .i64 1, .int .i64 10, .int .i64 0, .int .i64 0, .int .i64 0, .int .i64 0] 33)) (w6.heap.size) 33 #[.int .i64 1, .int .i64 0, .int .i64 10, .int .i64 0, .int .i64 0, .int .i64 0, .int .i64 0, .int .i64 2, .int .i64 0, .int .i64 10, .int .i64 0, .int .i64 0, .int .i64 0, .int .i64 0, .int .i64 3, .int .i64 0, .int .i64 10, .int .i64 0, .int .i64 0, .int .i64 0, .int .i64 0, .int .i64 4, .int .i64 1, .int .i64 10, .int .i64 0, .int .i64 0, .int .i64 0, .int .i64 0] := (Blk.of_size (w := w6) (w6.heap.size) (by simp) 33 #[.int .i64 1, .int .i64 0, .int .i64 10, .int .i64 0, .int .i64 0, .int .i64 0, .int .i64 0, .int .i64 2, .int .i64 0, .int .i64 10, .int .i64 0, .int .i64 0, .int .i64 0, .int .i64 0, .int .i64 3, .int .i64 0, .int .i64 10, .int .i64 0, .int .i64 0, .int .i64 0, .int .i64 0, .int .i64 4, .int .i64 1, .int .i64 10, .int .i64 0, .int .i64 0, .int .i64 0, .int .i64 0])
  have HC := hid (classify_any rl1 lxC (some ⟨w6.heap.size, 0, none⟩) 4 (w6.alloc (.cells #[.int .i64 1, .int .i64 0, .int .i64 10, .int .i64 0, .int .i64 0, .int .i64 0, .int .i64 0, .int .i64 2, .int .i64 0, .int .i64 10, .int .i64 0, .int .i64 0, .int .i64 0, .int .i64 0, .int .i64 3, .int .i64 0, .int .i64 10, .int .i64 0, .int .i64 0, .int .i64 0, .int .i64 0, .int .i64 4, .int .i64 1, .int .i64 10, .int .i64 0, .int .i64 0, .int .i64 0, .int .i64 0] 33)) (lit_cars lxC hal0) (ids_of (by decide +kernel)))
  clear hal hal0
  go_wp2_with fail
  refine HC.out.mono ?_
  intro e w7 hc
  obtain ⟨v7, rfl, hv, hb⟩ := (fun h => ex_cls h exC) hc
  have hbk : Below w6.heap.size w6 w7 := HAL.out.trans (hb.mono HAL.out.size)
  replace HR1 := hid (HR1.out.below hbk HR1.out.lt)
  replace HV2 := hid (HV2.out.below hbk)
  replace HV4 := hid (HV4.out.below hbk)
  replace HR6 := hid (HR6.out.below hbk HR6.out.lt)
  replace HBW := hid (HBW.out.trans (hbk.mono HBW.out.size))
  clear hc hb hbk HC HAL
  clear x0 x1 x2 x3 x4 x5 x6
  clear hv HR6
  have x0 := HR1.out.at 0 rfl
  have x1 := HR1.out.at 1 rfl
  have x2 := HR1.out.at 2 rfl
  have x3 := HR1.out.at 3 rfl
  have x4 := HR1.out.at 4 rfl
  have x5 := HR1.out.at 5 rfl
  have x6 := HR1.out.at 6 rfl
  have hal : Below w7.heap.size w7 (w7.alloc (.cells #[.int .i64 1, .int .i64 0, .int .i64 0, .int .i64 0, .int .i64 0, .int .i64 0, .int .i64 1, .int .i64 2, .int .i64 1, .int .i64 0, .int .i64 0, .int .i64 0, .int .i64 0, .int .i64 2, .int .i64 3, .int .i64 2, .int .i64 0, .int .i64 0, .int .i64 0, .int .i64 0, .int .i64 0, .int .i64 4, .int .i64 3, .int .i64 0, .int .i64 0, .int .i64 0, .int .i64 0, .int .i64 2] 33)) := ((Below.refl w7.heap.size w7).alloc (by simp <;> omega) _)
  have HAL := hid hal
  have hal0 : Blk (w7.alloc (.cells #[.int .i64 1, .int .i64 0, .int .i64 0, .int .i64 0, .int .i64 0, .int .i64 0, .int .i64 1, .int .i64 2, .int .i64 1, .int .i64 0, .int .i64 0, .int .i64 0, .int .i64 0, .int .i64 2, .int .i64 3, .int .i64 2, .int .i64 0, .int .i64 0, .int .i64 0, .int .i64 0, .int .i64 0, .int .i64 4, .int .i64 3, .int .i64 0, .int .i64 0, .int .i64 0, .int .i64 0, .int .i64 2] 33)) (w7.heap.size) 33 #[.int .i64 1, .int .i64 0, .int .i64 0, .int .i64 0, .int .i64 0, .int .i64 0, .int .i64 1, .int .i64 2, .int .i64 1, .int .i64 0, .int .i64 0, .int .i64 0, .int .i64 0, .int .i64 2, .int .i64 3, .int .i64 2, .int .i64 0, .int .i64 0, .int .i64 0, .int .i64 0, .int .i64 0, .int .i64 4, .int .i64 3, .int .i64 0, .int .i64 0, .int .i64 0, .int .i64 0, .int .i64 2] := (Blk.of_size (w := w7) (w7.heap.size) (by simp) 33 #[.int .i64 1, .int .i64 0, .int .i64 0, .int .i64 0, .int .i64 0, .int .i64 0, .int .i64 1, .int .i64 2, .int .i64 1, .int .i64 0, .int .i64 0, .int .i64 0, .int .i64 0, .int .i64 2, .int .i64 3, .int .i64 2, .int .i64 0, .int .i64 0, .int .i64 0, .int .i64 0, .int .i64 0, .int .i64 4, .int .i64 3, .int .i64 0, .int .i64 0, .int .i64 0, .int .i64 0, .int .i64 2])
  have HC := hid (select_any rl0 lxD (some ⟨w7.heap.size, 0, none⟩) 4 (w7.alloc (.cells #[.int .i64 1, .int .i64 0, .int .i64 0, .int .i64 0, .int .i64 0, .int .i64 0, .int .i64 1, .int .i64 2, .int .i64 1, .int .i64 0, .int .i64 0, .int .i64 0, .int .i64 0, .int .i64 2, .int .i64 3, .int .i64 2, .int .i64 0, .int .i64 0, .int .i64 0, .int .i64 0, .int .i64 0, .int .i64 4, .int .i64 3, .int .i64 0, .int .i64 0, .int .i64 0, .int .i64 0, .int .i64 2] 33)) (lit_cars lxD hal0) (ids_of (by decide +kernel)))
  clear hal hal0
  go_wp2_with fail
  refine HC.out.mono ?_
  intro e w8 hc
  obtain ⟨v9, rfl, hv, hb⟩ := (fun h => ex_sel h exD0 exD) hc
  have hbk : Below w7.heap.size w7 w8 := HAL.out.trans (hb.mono HAL.out.size)
  replace HR1 := hid (HR1.out.below hbk HR1.out.lt)
  replace HV2 := hid (HV2.out.below hbk)
  replace HV4 := hid (HV4.out.below hbk)
  replace HBW := hid (HBW.out.trans (hbk.mono HBW.out.size))
  have HV9 := hid hv
  clear hc hb hbk HC HAL hv
  clear x0 x1 x2 x3 x4 x5 x6
  have hal : Below w8.heap.size w8 w8 := (Below.refl w8.heap.size w8)
  have HAL := hid hal
  have HC := hid (HRU.out w8)
  clear hal
  go_wp2_with fail
  refine HC.out.mono ?_
  intro e w9 hc
  obtain ⟨rfl, hb⟩ := id hc
  have hbk : Below w8.heap.size w8 w9 := HAL.out.trans (hb.mono HAL.out.size)
  replace HR1 := hid (HR1.out.below hbk HR1.out.lt)
  replace HV2 := hid (HV2.out.below hbk)
  replace HV4 := hid (HV4.out.below hbk)
  replace HV9 := hid (HV9.out.below hbk)
  replace HBW := hid (HBW.out.trans (hbk.mono HBW.out.size))
  clear hc hb hbk HC HAL
  have hal : Below w9.heap.size w9 (w9.alloc (.cells #[.int .i64 2, .int .i64 100, .int .i64 1000, .int .i64 5, .int .i64 7, .int .i64 0, .int .i64 1] 23)) := ((Below.refl w9.heap.size w9).alloc (by simp <;> omega) _)
  have hal0 : Blk (w9.alloc (.cells #[.int .i64 2, .int .i64 100, .int .i64 1000, .int .i64 5, .int .i64 7, .int .i64 0, .int .i64 1] 23)) (w9.heap.size) 23 #[.int .i64 2, .int .i64 100, .int .i64 1000, .int .i64 5, .int .i64 7, .int .i64 0, .int .i64 1] := (Blk.of_size (w := w9) (w9.heap.size) (by simp) 23 #[.int .i64 2, .int .i64 100, .int .i64 1000, .int .i64 5, .int .i64 7, .int .i64 0, .int .i64 1])
  go_upto_region 10 with fail
  replace HR1 := hid (HR1.out.below hal HR1.out.lt)
  replace HV2 := hid (HV2.out.below hal)
  replace HV4 := hid (HV4.out.below hal)
  replace HV9 := hid (HV9.out.below hal)
  replace HBW := hid (HBW.out.trans (hal.mono HBW.out.size))
  have HR11 := hid hal0
  obtain ⟨w10, hnw⟩ : ∃ W, (w9.alloc (.cells #[.int .i64 2, .int .i64 100, .int .i64 1000, .int .i64 5, .int .i64 7, .int .i64 0, .int .i64 1] 23)) = W := ⟨_, rfl⟩
  rw [hnw] at HR1 HV2 HV4 HV9 HR11 HBW ⊢
  obtain ⟨g11, hg⟩ : ∃ g, w9.heap.size = g := ⟨_, rfl⟩
  rw [hg] at HR11 ⊢
  clear hg
  clear hnw hal
  clear hal0
  have x0 := HR11.out.at 0 rfl
  have x1 := HR11.out.at 1 rfl
  have x2 := HR11.out.at 2 rfl
  have x3 := HR11.out.at 3 rfl
  have x4 := HR11.out.at 4 rfl
  have x5 := HR11.out.at 5 rfl
  have x6 := HR11.out.at 6 rfl
  have hal : Below w10.heap.size w10 (w10.alloc (.cells #[.int .i64 0, .int .i64 0, .int .i64 0, .int .i64 6, .int .i64 0, .int .i64 0, .int .i64 0] 33)) := ((Below.refl w10.heap.size w10).alloc (by simp <;> omega) _)
  have HAL := hid hal
  have hal0 : Blk (w10.alloc (.cells #[.int .i64 0, .int .i64 0, .int .i64 0, .int .i64 6, .int .i64 0, .int .i64 0, .int .i64 0] 33)) (w10.heap.size) 33 #[.int .i64 0, .int .i64 0, .int .i64 0, .int .i64 6, .int .i64 0, .int .i64 0, .int .i64 0] := (Blk.of_size (w := w10) (w10.heap.size) (by simp) 33 #[.int .i64 0, .int .i64 0, .int .i64 0, .int .i64 6, .int .i64 0, .int .i64 0, .int .i64 0])
  have HC := hid (build_any rl2 lxE _ (w10.alloc (.cells #[.int .i64 0, .int .i64 0, .int .i64 0, .int .i64 6, .int .i64 0, .int .i64 0, .int .i64 0] 33)) (lit_cars lxE hal0) (ids_of (by decide +kernel)))
  clear hal hal0
  go_wp2_with fail
  refine HC.out.mono ?_
  intro e w11 hc
  obtain ⟨vc, vs, rfl, hv, hv2, hb⟩ := (fun h => ex_bld h exE) hc
  have hbk : Below w10.heap.size w10 w11 := HAL.out.trans (hb.mono HAL.out.size)
  replace HR1 := hid (HR1.out.below hbk HR1.out.lt)
  replace HV2 := hid (HV2.out.below hbk)
  replace HV4 := hid (HV4.out.below hbk)
  replace HV9 := hid (HV9.out.below hbk)
  replace HR11 := hid (HR11.out.below hbk HR11.out.lt)
  replace HBW := hid (HBW.out.trans (hbk.mono HBW.out.size))
  clear hc hb hbk HC HAL
  clear x0 x1 x2 x3 x4 x5 x6
  clear HR11
  obtain ⟨Ax, cx, ex, _, _⟩ := hv
  obtain ⟨Ay, cy, _, ey, _, _, _, _⟩ := hv2
  replace ex : vc = .slice Ax 0 cx := ex
  replace ey : vs = .slice Ay 0 cy := ey
  subst ex ey
  have hal : Below w11.heap.size w11 (w11.alloc (.cells #[.slice Ax 0 cx, .slice Ay 0 cy] 28)) := ((Below.refl w11.heap.size w11).alloc (by simp <;> omega) _)
  have hal0 : Blk (w11.alloc (.cells #[.slice Ax 0 cx, .slice Ay 0 cy] 28)) (w11.heap.size) 28 #[.slice Ax 0 cx, .slice Ay 0 cy] := (Blk.of_size (w := w11) (w11.heap.size) (by simp) 28 #[.slice Ax 0 cx, .slice Ay 0 cy])
  go_upto_region 11 with fail
  clear hal0
  replace HR1 := hid (HR1.out.below hal HR1.out.lt)
  replace HV2 := hid (HV2.out.below hal)
  replace HV4 := hid (HV4.out.below hal)
  replace HV9 := hid (HV9.out.below hal)
  replace HBW := hid (HBW.out.trans (hal.mono HBW.out.size))
  obtain ⟨w12, hnw⟩ : ∃ W, (w11.alloc (.cells #[.slice Ax 0 cx, .slice Ay 0 cy] 28)) = W := ⟨_, rfl⟩
  rw [hnw] at HR1 HV2 HV4 HV9 HBW ⊢
  clear hnw hal
  have x0 := HR1.out.at 0 rfl
  have x1 := HR1.out.at 1 rfl
  have x2 := HR1.out.at 2 rfl
  have x3 := HR1.out.at 3 rfl
  have x4 := HR1.out.at 4 rfl
  have x5 := HR1.out.at 5 rfl
  have x6 := HR1.out.at 6 rfl
  have hal : Below w12.heap.size w12 (w12.alloc (.cells #[.int .i64 1, .int .i64 1, .int .i64 0, .int .i64 0, .int .i64 0, .int .i64 0, .int .i64 0, .int .i64 2, .int .i64 0, .int .i64 0, .int .i64 0, .int .i64 0, .int .i64 0, .int .i64 0] 33)) := ((Below.refl w12.heap.size w12).alloc (by simp <;> omega) _)
  have HAL := hid hal
  have hal0 : Blk (w12.alloc (.cells #[.int .i64 1, .int .i64 1, .int .i64 0, .int .i64 0, .int .i64 0, .int .i64 0, .int .i64 0, .int .i64 2, .int .i64 0, .int .i64 0, .int .i64 0, .int .i64 0, .int .i64 0, .int .i64 0] 33)) (w12.heap.size) 33 #[.int .i64 1, .int .i64 1, .int .i64 0, .int .i64 0, .int .i64 0, .int .i64 0, .int .i64 0, .int .i64 2, .int .i64 0, .int .i64 0, .int .i64 0, .int .i64 0, .int .i64 0, .int .i64 0] := (Blk.of_size (w := w12) (w12.heap.size) (by simp) 33 #[.int .i64 1, .int .i64 1, .int .i64 0, .int .i64 0, .int .i64 0, .int .i64 0, .int .i64 0, .int .i64 2, .int .i64 0, .int .i64 0, .int .i64 0, .int .i64 0, .int .i64 0, .int .i64 0])
  have HC := hid (build_any rl0 lxF _ (w12.alloc (.cells #[.int .i64 1, .int .i64 1, .int .i64 0, .int .i64 0, .int .i64 0, .int .i64 0, .int .i64 0, .int .i64 2, .int .i64 0, .int .i64 0, .int .i64 0, .int .i64 0, .int .i64 0, .int .i64 0] 33)) (lit_cars lxF hal0) (ids_of (by decide +kernel)))
  clear hal hal0
  go_wp2_with fail
  refine HC.out.mono ?_
  intro e w13 hc
  obtain ⟨vc, vs, rfl, hv, hv2, hb⟩ := (fun h => ex_bld h exF) hc
  have hbk : Below w12.heap.size w12 w13 := HAL.out.trans (hb.mono HAL.out.size)
  replace HR1 := hid (HR1.out.below hbk HR1.out.lt)
  replace HV2 := hid (HV2.out.below hbk)
  replace HV4 := hid (HV4.out.below hbk)
  replace HV9 := hid (HV9.out.below hbk)
  replace HBW := hid (HBW.out.trans (hbk.mono HBW.out.size))
  clear hc hb hbk HC HAL
  clear x0 x1 x2 x3 x4 x5 x6
  have hvc := hv
  have hvs := hv2
  obtain ⟨Ax, cx, ex, _, _⟩ := hv
  obtain ⟨Ay, cy, _, ey, _, _, _, _⟩ := hv2
  replace ex : vc = .slice Ax 2 cx := ex
  replace ey : vs = .slice Ay 1 cy := ey
  subst ex ey
  have HVC := hid hvc
  have HVS := hid hvs
  clear hvc hvs
  have hal : Below w13.heap.size w13 (w13.alloc (.cells #[.slice Ax 2 cx, .slice Ay 1 cy] 28)) := ((Below.refl w13.heap.size w13).alloc (by simp <;> omega) _)
  have hal0 : Blk (w13.alloc (.cells #[.slice Ax 2 cx, .slice Ay 1 cy] 28)) (w13.heap.size) 28 #[.slice Ax 2 cx, .slice Ay 1 cy] := (Blk.of_size (w := w13) (w13.heap.size) (by simp) 28 #[.slice Ax 2 cx, .slice Ay 1 cy])
  go_upto_region 12 with fail
  replace HR1 := hid (HR1.out.below hal HR1.out.lt)
  replace HV2 := hid (HV2.out.below hal)
  replace HV4 := hid (HV4.out.below hal)
  replace HV9 := hid (HV9.out.below hal)
  replace HVC := hid (HVC.out.below hal)
  replace HVS := hid (HVS.out.below hal)
  replace HBW := hid (HBW.out.trans (hal.mono HBW.out.size))
  have HT14 := hid hal0
  obtain ⟨w14, hnw⟩ : ∃ W, (w13.alloc (.cells #[.slice Ax 2 cx, .slice Ay 1 cy] 28)) = W := ⟨_, rfl⟩
  rw [hnw] at HR1 HV2 HV4 HV9 HVC HVS HT14 HBW ⊢
  obtain ⟨g14, hg⟩ : ∃ g, w13.heap.size = g := ⟨_, rfl⟩
  rw [hg] at HT14 ⊢
  clear hg
  clear hnw hal
  clear hal0
  have hal : Below w14.heap.size w14 (w14.alloc (.cells #[.int .i64 2, .int .i64 0, .int .i64 0, .int .i64 0, .int .i64 0, .int .i64 0, .int .i64 0, .int .i64 1, .int .i64 0, .int .i64 0, .int .i64 0, .int .i64 0, .int .i64 0, .int .i64 0, .int .i64 3, .int .i64 0, .int .i64 0, .int .i64 0, .int .i64 0, .int .i64 0, .int .i64 0] 33)) := ((Below.refl w14.heap.size w14).alloc (by simp <;> omega) _)
  have HAL := hid hal
  have hal0 : Blk (w14.alloc (.cells #[.int .i64 2, .int .i64 0, .int .i64 0, .int .i64 0, .int .i64 0, .int .i64 0, .int .i64 0, .int .i64 1, .int .i64 0, .int .i64 0, .int .i64 0, .int .i64 0, .int .i64 0, .int .i64 0, .int .i64 3, .int .i64 0, .int .i64 0, .int .i64 0, .int .i64 0, .int .i64 0, .int .i64 0] 33)) (w14.heap.size) 33 #[.int .i64 2, .int .i64 0, .int .i64 0, .int .i64 0, .int .i64 0, .int .i64 0, .int .i64 0, .int .i64 1, .int .i64 0, .int .i64 0, .int .i64 0, .int .i64 0, .int .i64 0, .int .i64 0, .int .i64 3, .int .i64 0, .int .i64 0, .int .i64 0, .int .i64 0, .int .i64 0, .int .i64 0] := (Blk.of_size (w := w14) (w14.heap.size) (by simp) 33 #[.int .i64 2, .int .i64 0, .int .i64 0, .int .i64 0, .int .i64 0, .int .i64 0, .int .i64 0, .int .i64 1, .int .i64 0, .int .i64 0, .int .i64 0, .int .i64 0, .int .i64 0, .int .i64 0, .int .i64 3, .int .i64 0, .int .i64 0, .int .i64 0, .int .i64 0, .int .i64 0, .int .i64 0])
  have HC := hid (sameC_val (w := (w14.alloc (.cells #[.int .i64 2, .int .i64 0, .int .i64 0, .int .i64 0, .int .i64 0, .int .i64 0, .int .i64 0, .int .i64 1, .int .i64 0, .int .i64 0, .int .i64 0, .int .i64 0, .int .i64 0, .int .i64 0, .int .i64 3, .int .i64 0, .int .i64 0, .int .i64 0, .int .i64 0, .int .i64 0, .int .i64 0] 33))) (v2 := .slice (some ⟨w14.heap.size, 0, none⟩) 3 3) (HV2.out.below hal) (lit_cars lxA2 hal0) (by decide))
  clear hal hal0
  go_wp2_with fail
  refine HC.out.mono ?_
  intro e w15 hc
  obtain ⟨rfl, hb⟩ := (fun h => ex_same h (by simp)) hc
  have hbk : Below w14.heap.size w14 w15 := HAL.out.trans (hb.mono HAL.out.size)
  replace HR1 := hid (HR1.out.below hbk HR1.out.lt)
  replace HV2 := hid (HV2.out.below hbk)
  replace HV4 := hid (HV4.out.below hbk)
  replace HV9 := hid (HV9.out.below hbk)
  replace HVC := hid (HVC.out.below hbk)
  replace HVS := hid (HVS.out.below hbk)
  replace HT14 := hid (HT14.out.below hbk HT14.out.lt)
  replace HBW := hid (HBW.out.trans (hbk.mono HBW.out.size))
  clear hc hb hbk HC HAL
  have a0 := HT14.out.at 0 rfl
  have a1 := HT14.out.at 1 rfl
  have hal : Below w15.heap.size w15 (w15.alloc (.cells #[.int .i64 2, .int .i64 0, .int .i64 0, .int .i64 0, .int .i64 0, .int .i64 0, .int .i64 0, .int .i64 1, .int .i64 1, .int .i64 0, .int .i64 0, .int .i64 0, .int .i64 0, .int .i64 0] 33)) := ((Below.refl w15.heap.size w15).alloc (by simp <;> omega) _)
  have HAL := hid hal
  have hal0 : Blk (w15.alloc (.cells #[.int .i64 2, .int .i64 0, .int .i64 0, .int .i64 0, .int .i64 0, .int .i64 0, .int .i64 0, .int .i64 1, .int .i64 1, .int .i64 0, .int .i64 0, .int .i64 0, .int .i64 0, .int .i64 0] 33)) (w15.heap.size) 33 #[.int .i64 2, .int .i64 0, .int .i64 0, .int .i64 0, .int .i64 0, .int .i64 0, .int .i64 0, .int .i64 1, .int .i64 1, .int .i64 0, .int .i64 0, .int .i64 0, .int .i64 0, .int .i64 0] := (Blk.of_size (w := w15) (w15.heap.size) (by simp) 33 #[.int .i64 2, .int .i64 0, .int .i64 0, .int .i64 0, .int .i64 0, .int .i64 0, .int .i64 0, .int .i64 1, .int .i64 1, .int .i64 0, .int .i64 0, .int .i64 0, .int .i64 0, .int .i64 0])
  have HC := hid (sameC_val (w := (w15.alloc (.cells #[.int .i64 2, .int .i64 0, .int .i64 0, .int .i64 0, .int .i64 0, .int .i64 0, .int .i64 0, .int .i64 1, .int .i64 1, .int .i64 0, .int .i64 0, .int .i64 0, .int .i64 0, .int .i64 0] 33))) (v2 := .slice (some ⟨w15.heap.size, 0, none⟩) 2 2) (HVC.out.below hal) (lit_cars lxF2 hal0) (by decide))
  clear hal hal0
  go_wp2_with fail
  refine HC.out.mono ?_
  intro e w16 hc
  obtain ⟨rfl, hb⟩ := (fun h => ex_same h (by simp)) hc
  have hbk : Below w15.heap.size w15 w16 := HAL.out.trans (hb.mono HAL.out.size)
  replace HR1 := hid (HR1.out.below hbk HR1.out.lt)
  replace HV2 := hid (HV2.out.below hbk)
  replace HV4 := hid (HV4.out.below hbk)
  replace HV9 := hid (HV9.out.below hbk)
  replace HVC := hid (HVC.out.below hbk)
  replace HVS := hid (HVS.out.below hbk)
  replace HT14 := hid (HT14.out.below hbk HT14.out.lt)
  replace HBW := hid (HBW.out.trans (hbk.mono HBW.out.size))
  clear hc hb hbk HC HAL
  clear a0 a1
  have x0 := HR1.out.at 0 rfl
  have x1 := HR1.out.at 1 rfl
  have x2 := HR1.out.at 2 rfl
  have x3 := HR1.out.at 3 rfl
  have x4 := HR1.out.at 4 rfl
  have x5 := HR1.out.at 5 rfl
  have x6 := HR1.out.at 6 rfl
  have a0 := (HT14.out.alloc (.cells #[.int .i64 1, .int .i64 1, .int .i64 0, .int .i64 0, .int .i64 0, .int .i64 0, .int .i64 0, .int .i64 2, .int .i64 0, .int .i64 0, .int .i64 0, .int .i64 0, .int .i64 0, .int .i64 0] 33)).at 0 rfl
  have a1 := (HT14.out.alloc (.cells #[.int .i64 1, .int .i64 1, .int .i64 0, .int .i64 0, .int .i64 0, .int .i64 0, .int .i64 0, .int .i64 2, .int .i64 0, .int .i64 0, .int .i64 0, .int .i64 0, .int .i64 0, .int .i64 0] 33)).at 1 rfl
  have hal : Below w16.heap.size w16 (w16.alloc (.cells #[.int .i64 1, .int .i64 1, .int .i64 0, .int .i64 0, .int .i64 0, .int .i64 0, .int .i64 0, .int .i64 2, .int .i64 0, .int .i64 0, .int .i64 0, .int .i64 0, .int .i64 0, .int .i64 0] 33)) := ((Below.refl w16.heap.size w16).alloc (by simp <;> omega) _)
  have HAL := hid hal
  have hal0 : Blk (w16.alloc (.cells #[.int .i64 1, .int .i64 1, .int .i64 0, .int .i64 0, .int .i64 0, .int .i64 0, .int .i64 0, .int .i64 2, .int .i64 0, .int .i64 0, .int .i64 0, .int .i64 0, .int .i64 0, .int .i64 0] 33)) (w16.heap.size) 33 #[.int .i64 1, .int .i64 1, .int .i64 0, .int .i64 0, .int .i64 0, .int .i64 0, .int .i64 0, .int .i64 2, .int .i64 0, .int .i64 0, .int .i64 0, .int .i64 0, .int .i64 0, .int .i64 0] := (Blk.of_size (w := w16) (w16.heap.size) (by simp) 33 #[.int .i64 1, .int .i64 1, .int .i64 0, .int .i64 0, .int .i64 0, .int .i64 0, .int .i64 0, .int .i64 2, .int .i64 0, .int .i64 0, .int .i64 0, .int .i64 0, .int .i64 0, .int .i64 0])
  have HC := hid (accept_any rl0 lxF lxF2 [[1, 0]] _ _ _ (w16.alloc (.cells #[.int .i64 1, .int .i64 1, .int .i64 0, .int .i64 0, .int .i64 0, .int .i64 0, .int .i64 0, .int .i64 2, .int .i64 0, .int .i64 0, .int .i64 0, .int .i64 0, .int .i64 0, .int .i64 0] 33)) (lit_cars lxF hal0) (HVC.out.below hal) (HVS.out.below hal) (ids_of (by decide +kernel)) (by decide) (by decide))
  clear hal hal0
  go_wp2_with fail
  refine HC.out.mono ?_
  intro e w17 hc
  obtain ⟨rfl, hb⟩ := id hc
  have hbk : Below w16.heap.size w16 w17 := HAL.out.trans (hb.mono HAL.out.size)
  replace HR1 := hid (HR1.out.below hbk HR1.out.lt)
  replace HV2 := hid (HV2.out.below hbk)
  replace HV4 := hid (HV4.out.below hbk)
  replace HV9 := hid (HV9.out.below hbk)
  replace HVC := hid (HVC.out.below hbk)
  replace HVS := hid (HVS.out.below hbk)
  replace HT14 := hid (HT14.out.below hbk HT14.out.lt)
  replace HBW := hid (HBW.out.trans (hbk.mono HBW.out.size))
  clear hc hb hbk HC HAL
  rw [exF1]
  clear x0 x1 x2 x3 x4 x5 x6
  clear a0 a1
  have x0 := HR1.out.at 0 rfl
  have x1 := HR1.out.at 1 rfl
  have x2 := HR1.out.at 2 rfl
  have x3 := HR1.out.at 3 rfl
  have x4 := HR1.out.at 4 rfl
  have x5 := HR1.out.at 5 rfl
  have x6 := HR1.out.at 6 rfl
  have a0 := (HT14.out.alloc (.cells #[.int .i64 2, .int .i64 0, .int .i64 0, .int .i64 0, .int .i64 0, .int .i64 0, .int .i64 0] 33)).at 0 rfl
  have a1 := (HT14.out.alloc (.cells #[.int .i64 2, .int .i64 0, .int .i64 0, .int .i64 0, .int .i64 0, .int .i64 0, .int .i64 0] 33)).at 1 rfl
  have hal : Below w17.heap.size w17 (w17.alloc (.cells #[.int .i64 2, .int .i64 0, .int .i64 0, .int .i64 0, .int .i64 0, .int .i64 0, .int .i64 0] 33)) := ((Below.refl w17.heap.size w17).alloc (by simp <;> omega) _)
  have HAL := hid hal
  have hal0 : Blk (w17.alloc (.cells #[.int .i64 2, .int .i64 0, .int .i64 0, .int .i64 0, .int .i64 0, .int .i64 0, .int .i64 0] 33)) (w17.heap.size) 33 #[.int .i64 2, .int .i64 0, .int .i64 0, .int .i64 0, .int .i64 0, .int .i64 0, .int .i64 0] := (Blk.of_size (w := w17) (w17.heap.size) (by simp) 33 #[.int .i64 2, .int .i64 0, .int .i64 0, .int .i64 0, .int .i64 0, .int .i64 0, .int .i64 0])
  have HC := hid (accept_any rl0 lxG lxF2 [[1, 0]] _ _ _ (w17.alloc (.cells #[.int .i64 2, .int .i64 0, .int .i64 0, .int .i64 0, .int .i64 0, .int .i64 0, .int .i64 0] 33)) (lit_cars lxG hal0) (HVC.out.below hal) (HVS.out.below hal) (ids_of (by decide +kernel)) (by decide) (by decide))
  clear hal hal0
  go_wp2_with fail
  refine HC.out.mono ?_
  intro e w18 hc
  obtain ⟨rfl, hb⟩ := id hc
  have hbk : Below w17.heap.size w17 w18 := HAL.out.trans (hb.mono HAL.out.size)
  replace HR1 := hid (HR1.out.below hbk HR1.out.lt)
  replace HV2 := hid (HV2.out.below hbk)
  replace HV4 := hid (HV4.out.below hbk)
  replace HV9 := hid (HV9.out.below hbk)
  replace HVC := hid (HVC.out.below hbk)
  replace HVS := hid (HVS.out.below hbk)
  replace HT14 := hid (HT14.out.below hbk HT14.out.lt)
  replace HBW := hid (HBW.out.trans (hbk.mono HBW.out.size))
  clear hc hb hbk HC HAL
  rw [exF2]
  clear x0 x1 x2 x3 x4 x5 x6
  clear a0 a1
  have hal : Below w18.heap.size w18 (((w18.alloc (.cells #[.int .i64 1, .int .i64 0, .int .i64 0, .int .i64 0] 3)).alloc (.cells #[.int .i64 0, .int .i64 1, .int .i64 0, .int .i64 0] 3)).alloc (.cells #[.slice (some ⟨w18.heap.size, 0, none⟩) 4 4, .slice (some ⟨w18.heap.size + 1, 0, none⟩) 4 4] 37)) := ((((Below.refl w18.heap.size w18).alloc (by simp <;> omega) _).alloc (by simp <;> omega) _).alloc (by simp <;> omega) _)
  have HAL := hid hal
  have hal0 : Blk (((w18.alloc (.cells #[.int .i64 1, .int .i64 0, .int .i64 0, .int .i64 0] 3)).alloc (.cells #[.int .i64 0, .int .i64 1, .int .i64 0, .int .i64 0] 3)).alloc (.cells #[.slice (some ⟨w18.heap.size, 0, none⟩) 4 4, .slice (some ⟨w18.heap.size + 1, 0, none⟩) 4 4] 37)) (w18.heap.size) 3 #[.int .i64 1, .int .i64 0, .int .i64 0, .int .i64 0] := (((Blk.of_size (w := w18) (w18.heap.size) (by simp) 3 #[.int .i64 1, .int .i64 0, .int .i64 0, .int .i64 0]).alloc _).alloc _)
  have hal1 : Blk (((w18.alloc (.cells #[.int .i64 1, .int .i64 0, .int .i64 0, .int .i64 0] 3)).alloc (.cells #[.int .i64 0, .int .i64 1, .int .i64 0, .int .i64 0] 3)).alloc (.cells #[.slice (some ⟨w18.heap.size, 0, none⟩) 4 4, .slice (some ⟨w18.heap.size + 1, 0, none⟩) 4 4] 37)) (w18.heap.size + 1) 3 #[.int .i64 0, .int .i64 1, .int .i64 0, .int .i64 0] := ((Blk.of_size (w := (w18.alloc (.cells #[.int .i64 1, .int .i64 0, .int .i64 0, .int .i64 0] 3))) (w18.heap.size + 1) (by simp) 3 #[.int .i64 0, .int .i64 1, .int .i64 0, .int .i64 0]).alloc _)
  have hal2 : Blk (((w18.alloc (.cells #[.int .i64 1, .int .i64 0, .int .i64 0, .int .i64 0] 3)).alloc (.cells #[.int .i64 0, .int .i64 1, .int .i64 0, .int .i64 0] 3)).alloc (.cells #[.slice (some ⟨w18.heap.size, 0, none⟩) 4 4, .slice (some ⟨w18.heap.size + 1, 0, none⟩) 4 4] 37)) (w18.heap.size + 1 + 1) 37 #[.slice (some ⟨w18.heap.size, 0, none⟩) 4 4, .slice (some ⟨w18.heap.size + 1, 0, none⟩) 4 4] := (Blk.of_size (w := ((w18.alloc (.cells #[.int .i64 1, .int .i64 0, .int .i64 0, .int .i64 0] 3)).alloc (.cells #[.int .i64 0, .int .i64 1, .int .i64 0, .int .i64 0] 3))) (w18.heap.size + 1 + 1) (by simp) 37 #[.slice (some ⟨w18.heap.size, 0, none⟩) 4 4, .slice (some ⟨w18.heap.size + 1, 0, none⟩) 4 4])
  have HC := hid (sameT_val (w := (((w18.alloc (.cells #[.int .i64 1, .int .i64 0, .int .i64 0, .int .i64 0] 3)).alloc (.cells #[.int .i64 0, .int .i64 1, .int .i64 0, .int .i64 0] 3)).alloc (.cells #[.slice (some ⟨w18.heap.size, 0, none⟩) 4 4, .slice (some ⟨w18.heap.size + 1, 0, none⟩) 4 4] 37))) (v2 := .slice (some ⟨w18.heap.size + 1 + 1, 0, none⟩) 2 2) (HV4.out.below hal) (lit_stgs [1, 0, 0, 0] [0, 1, 0, 0] hal2 hal0 hal1) (by decide) (by decide))
  clear hal hal0 hal1 hal2
  go_wp2_with fail
  refine HC.out.mono ?_
  intro e w19 hc
  obtain ⟨rfl, hb⟩ := (fun h => ex_same h (by simp)) hc
  have hbk : Below w18.heap.size w18 w19 := HAL.out.trans (hb.mono HAL.out.size)
  replace HR1 := hid (HR1.out.below hbk HR1.out.lt)
  replace HV2 := hid (HV2.out.below hbk)
  replace HV4 := hid (HV4.out.below hbk)
  replace HV9 := hid (HV9.out.below hbk)
  replace HVC := hid (HVC.out.below hbk)
  replace HVS := hid (HVS.out.below hbk)
  replace HT14 := hid (HT14.out.below hbk HT14.out.lt)
  replace HBW := hid (HBW.out.trans (hbk.mono HBW.out.size))
  clear hc hb hbk HC HAL
  have hal : Below w19.heap.size w19 (w19.alloc (.cells #[.int .i64 0, .int .i64 2, .int .i64 3] 3)) := ((Below.refl w19.heap.size w19).alloc (by simp <;> omega) _)
  have HAL := hid hal
  have hal0 : Blk (w19.alloc (.cells #[.int .i64 0, .int .i64 2, .int .i64 3] 3)) (w19.heap.size) 3 #[.int .i64 0, .int .i64 2, .int .i64 3] := (Blk.of_size (w := w19) (w19.heap.size) (by simp) 3 #[.int .i64 0, .int .i64 2, .int .i64 3])
  have HC := hid (sameI_val (w := (w19.alloc (.cells #[.int .i64 0, .int .i64 2, .int .i64 3] 3))) (v2 := .slice (some ⟨w19.heap.size, 0, none⟩) 3 3) (HV9.out.below hal) (lit_ints [0, 2, 3] hal0) (by decide))
  clear hal hal0
  go_wp2_with fail
  refine HC.out.mono ?_
  intro e w20 hc
  obtain ⟨rfl, hb⟩ := (fun h => ex_same h (by simp)) hc
  have hbk : Below w19.heap.size w19 w20 := HAL.out.trans (hb.mono HAL.out.size)
  replace HR1 := hid (HR1.out.below hbk HR1.out.lt)
  replace HV2 := hid (HV2.out.below hbk)
  replace HV4 := hid (HV4.out.below hbk)
  replace HV9 := hid (HV9.out.below hbk)
  replace HVC := hid (HVC.out.below hbk)
  replace HVS := hid (HVS.out.below hbk)
  replace HT14 := hid (HT14.out.below hbk HT14.out.lt)
  replace HBW := hid (HBW.out.trans (hbk.mono HBW.out.size))
  clear hc hb hbk HC HAL
  have x0 := HR1.out.at 0 rfl
  have x1 := HR1.out.at 1 rfl
  have x2 := HR1.out.at 2 rfl
  have x3 := HR1.out.at 3 rfl
  have x4 := HR1.out.at 4 rfl
  have x5 := HR1.out.at 5 rfl
  have x6 := HR1.out.at 6 rfl
  have hal : Below w20.heap.size w20 w20 := (Below.refl w20.heap.size w20)
  have HAL := hid hal
  have HC := hid (checkR_any rl0 w20)
  clear hal
  go_wp2_with fail
  refine HC.out.mono ?_
  intro e w21 hc
  obtain ⟨rfl, hb⟩ := id hc
  have hbk : Below w20.heap.size w20 w21 := HAL.out.trans (hb.mono HAL.out.size)
  replace HR1 := hid (HR1.out.below hbk HR1.out.lt)
  replace HV2 := hid (HV2.out.below hbk)
  replace HV4 := hid (HV4.out.below hbk)
  replace HV9 := hid (HV9.out.below hbk)
  replace HVC := hid (HVC.out.below hbk)
  replace HVS := hid (HVS.out.below hbk)
  replace HT14 := hid (HT14.out.below hbk HT14.out.lt)
  replace HBW := hid (HBW.out.trans (hbk.mono HBW.out.size))
  clear hc hb hbk HC HAL
  rw [exR]
  clear x0 x1 x2 x3 x4 x5 x6
  have hal : Below w21.heap.size w21 w21 := (Below.refl w21.heap.size w21)
  have HAL := hid hal
  have HC := hid (checkR_any rlz w21)
  clear hal
  go_wp2_with fail
  refine HC.out.mono ?_
  intro e w22 hc
  obtain ⟨rfl, hb⟩ := id hc
  have hbk : Below w21.heap.size w21 w22 := HAL.out.trans (hb.mono HAL.out.size)
  replace HR1 := hid (HR1.out.below hbk HR1.out.lt)
  replace HV2 := hid (HV2.out.below hbk)
  replace HV4 := hid (HV4.out.below hbk)
  replace HV9 := hid (HV9.out.below hbk)
  replace HVC := hid (HVC.out.below hbk)
  replace HVS := hid (HVS.out.below hbk)
  replace HT14 := hid (HT14.out.below hbk HT14.out.lt)
  replace HBW := hid (HBW.out.trans (hbk.mono HBW.out.size))
  clear hc hb hbk HC HAL
  rw [exZ]
  go_wp2_with fail
  go_ret
  exact ⟨rfl, HBW.out⟩
end Go.Proofs.Ythfoggbaoafpjaa
