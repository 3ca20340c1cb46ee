/-
  The walk of CalendarMatches: it answers true. Condition: the table lies in block 0, the holidays lie in memory as a list reads.
-/
import Derived.Test.YthkmnoobajaooaaDoorSane
import Derived.Test.YthkmnoobajaooaaDoorFew
import Derived.Test.YthkmnoobajaooaaDoorRaft
import Derived.Test.YthkmnoobajaooaaDoorLaw7
import Derived.Deep.RegionHeld3
namespace Go.Proofs.YthkmnoobajaooaaDoor
open Go.RowKit Go.Shelf Go.Sort
set_option maxHeartbeats 2000000 in
set_option maxRecDepth 100000 in
theorem matches_many (O : List Int) (hO : O.length = 14) (A : Option Addr) (len cap : Nat) (w : World) (a b n : Int) (hB : Bef w) (hf : fewB len a b = false) :
    Calls Tryd.prog 6 #[calV O A len cap, .int .i64 a, .int .i64 b, .int .i64 n] w fun e w' => e = .returned (.bool true) ∧ Below w.heap.size w w' := by
  have CS := hid sane_any
  have CF := hid (fun W => few_any O hO A len cap W a b)
  rw [hf] at CF
  have hs15 : (Tryd.prog.info? 43).map (·.size) = some (calC O A len cap).toArray.size := by rw [calC_size O hO]; exact size43
  have HS := hid hs15
  unfold calV at *
  clear hO hs15 hf
  generalize (calC O A len cap).toArray = cs at *
  have B00 := hid (Blk.new w 43 cs)
  have HB0 := hid (hB.alloc (.cells cs 43))
  have HE0 := hid ((Below.refl w.heap.size w).alloc (Nat.le_refl _) (.cells cs 43))
  clear hB
  go_enter Tryd.func6, Tryd.ntmps6
  go_wp2_with fail
  refine (CS.out _ HB0.out).mono ?_
  rintro e w1 ⟨rfl, hb⟩
  have HE1 := hid (HE0.out.trans (hb.mono HE0.out.size))
  have B1 := hid (B00.out.below hb B00.out.lt)
  clear hb
  go_wp2_with (refine wpList_load_row rfl 43 _ rfl w.heap.size rfl 43 cs (0, 0) _ B1.out Tryd.underlying43 rfl HS.out ?_)
  refine (CF.out _).mono ?_
  rintro e w2 ⟨rfl, hb⟩
  have HE2 := hid (HE1.out.trans (hb.mono HE1.out.size))
  clear hb
  go_wp2_with fail
  go_ret
  exact ⟨rfl, HE2.out⟩
theorem below_drew6 {W w' : World} (h : ∃ q, w' = W.drewN q) : Below W.heap.size W w' := by
  obtain ⟨q, rfl⟩ := h; exact below_drewN (Below.refl _ _) q
theorem array15 {α : Type} {cs : Array α} (h : cs.size = 15) : ∃ c0 c1 c2 c3 c4 c5 c6 c7 c8 c9 c10 c11 c12 c13 c14, cs = #[c0, c1, c2, c3, c4, c5, c6, c7, c8, c9, c10, c11, c12, c13, c14] := by
  obtain ⟨l⟩ := cs
  match l, h with
  | [c0, c1, c2, c3, c4, c5, c6, c7, c8, c9, c10, c11, c12, c13, c14], _ => exact ⟨c0, c1, c2, c3, c4, c5, c6, c7, c8, c9, c10, c11, c12, c13, c14, rfl⟩
theorem full6 {W w : World} {g : Nat} {c0 c1 c2 c3 c4 c5 c6 c7 c8 c9 c10 c11 c12 c13 c14 : Value} {A A1 A2 : Option Addr} {len : Nat} {H : List Int} {L : List Sp} (h : Blk W g 43 #[c0, c1, c2, c3, c4, c5, c6, c7, c8, c9, c10, c11, c12, c13, c14] ∧ Hol W A len H ∧ SpR W A1 L ∧ SpR W A2 L ∧ Below w.heap.size w W) :
    W.cell? ⟨g, 0, none⟩ = some c0 ∧ W.cell? ⟨g, 1, none⟩ = some c1 ∧ W.cell? ⟨g, 2, none⟩ = some c2 ∧ W.cell? ⟨g, 3, none⟩ = some c3 ∧ W.cell? ⟨g, 4, none⟩ = some c4 ∧ W.cell? ⟨g, 5, none⟩ = some c5 ∧ W.cell? ⟨g, 6, none⟩ = some c6 ∧ W.cell? ⟨g, 7, none⟩ = some c7 ∧ W.cell? ⟨g, 8, none⟩ = some c8 ∧ W.cell? ⟨g, 9, none⟩ = some c9 ∧ W.cell? ⟨g, 10, none⟩ = some c10 ∧ W.cell? ⟨g, 11, none⟩ = some c11 ∧ W.cell? ⟨g, 12, none⟩ = some c12 ∧ W.cell? ⟨g, 13, none⟩ = some c13 ∧ W.cell? ⟨g, 14, none⟩ = some c14 ∧ Blk W g 43 #[c0, c1, c2, c3, c4, c5, c6, c7, c8, c9, c10, c11, c12, c13, c14] ∧ Hol W A len H ∧ SpR W A1 L ∧ SpR W A2 L ∧ Below w.heap.size w W :=
  ⟨h.1.at 0 rfl, h.1.at 1 rfl, h.1.at 2 rfl, h.1.at 3 rfl, h.1.at 4 rfl, h.1.at 5 rfl, h.1.at 6 rfl, h.1.at 7 rfl, h.1.at 8 rfl, h.1.at 9 rfl, h.1.at 10 rfl, h.1.at 11 rfl, h.1.at 12 rfl, h.1.at 13 rfl, h.1.at 14 rfl, h⟩
theorem keep6 {W w' w : World} {g : Nat} {cs : Array Value} {A A1 A2 : Option Addr} {len : Nat} {H : List Int} {L : List Sp} (h : Blk W g 43 cs ∧ Hol W A len H ∧ SpR W A1 L ∧ SpR W A2 L ∧ Below w.heap.size w W) (hb : Below W.heap.size W w') :
    Blk w' g 43 cs ∧ Hol w' A len H ∧ SpR w' A1 L ∧ SpR w' A2 L ∧ Below w.heap.size w w' :=
  ⟨h.1.below hb h.1.lt, h.2.1.below hb, h.2.2.1.below hb, h.2.2.2.1.below hb, h.2.2.2.2.trans (hb.mono h.2.2.2.2.size)⟩
theorem hold6 {W w : World} {g : Nat} {c0 c1 c2 c3 c4 c5 c6 c7 c8 c9 c10 c11 c12 c13 c14 : Value} {A A1 A2 : Option Addr} {len : Nat} {H : List Int} {L : List Sp} (h : W.cell? ⟨g, 0, none⟩ = some c0 ∧ W.cell? ⟨g, 1, none⟩ = some c1 ∧ W.cell? ⟨g, 2, none⟩ = some c2 ∧ W.cell? ⟨g, 3, none⟩ = some c3 ∧ W.cell? ⟨g, 4, none⟩ = some c4 ∧ W.cell? ⟨g, 5, none⟩ = some c5 ∧ W.cell? ⟨g, 6, none⟩ = some c6 ∧ W.cell? ⟨g, 7, none⟩ = some c7 ∧ W.cell? ⟨g, 8, none⟩ = some c8 ∧ W.cell? ⟨g, 9, none⟩ = some c9 ∧ W.cell? ⟨g, 10, none⟩ = some c10 ∧ W.cell? ⟨g, 11, none⟩ = some c11 ∧ W.cell? ⟨g, 12, none⟩ = some c12 ∧ W.cell? ⟨g, 13, none⟩ = some c13 ∧ W.cell? ⟨g, 14, none⟩ = some c14 ∧ Blk W g 43 #[c0, c1, c2, c3, c4, c5, c6, c7, c8, c9, c10, c11, c12, c13, c14] ∧ Hol W A len H ∧ SpR W A1 L ∧ SpR W A2 L ∧ Below w.heap.size w W) : Blk W g 43 #[c0, c1, c2, c3, c4, c5, c6, c7, c8, c9, c10, c11, c12, c13, c14] ∧ Hol W A len H ∧ SpR W A1 L ∧ SpR W A2 L ∧ Below w.heap.size w W :=
  h.2.2.2.2.2.2.2.2.2.2.2.2.2.2.2
theorem keep7 {W w' w : World} {g : Nat} {c0 c1 c2 c3 c4 c5 c6 c7 c8 c9 c10 c11 c12 c13 c14 : Value} {A A1 A2 : Option Addr} {len : Nat} {H : List Int} {L : List Sp} (hb : Below W.heap.size W w') (h : W.cell? ⟨g, 0, none⟩ = some c0 ∧ W.cell? ⟨g, 1, none⟩ = some c1 ∧ W.cell? ⟨g, 2, none⟩ = some c2 ∧ W.cell? ⟨g, 3, none⟩ = some c3 ∧ W.cell? ⟨g, 4, none⟩ = some c4 ∧ W.cell? ⟨g, 5, none⟩ = some c5 ∧ W.cell? ⟨g, 6, none⟩ = some c6 ∧ W.cell? ⟨g, 7, none⟩ = some c7 ∧ W.cell? ⟨g, 8, none⟩ = some c8 ∧ W.cell? ⟨g, 9, none⟩ = some c9 ∧ W.cell? ⟨g, 10, none⟩ = some c10 ∧ W.cell? ⟨g, 11, none⟩ = some c11 ∧ W.cell? ⟨g, 12, none⟩ = some c12 ∧ W.cell? ⟨g, 13, none⟩ = some c13 ∧ W.cell? ⟨g, 14, none⟩ = some c14 ∧ Blk W g 43 #[c0, c1, c2, c3, c4, c5, c6, c7, c8, c9, c10, c11, c12, c13, c14] ∧ Hol W A len H ∧ SpR W A1 L ∧ SpR W A2 L ∧ Below w.heap.size w W) : w'.cell? ⟨g, 0, none⟩ = some c0 ∧ w'.cell? ⟨g, 1, none⟩ = some c1 ∧ w'.cell? ⟨g, 2, none⟩ = some c2 ∧ w'.cell? ⟨g, 3, none⟩ = some c3 ∧ w'.cell? ⟨g, 4, none⟩ = some c4 ∧ w'.cell? ⟨g, 5, none⟩ = some c5 ∧ w'.cell? ⟨g, 6, none⟩ = some c6 ∧ w'.cell? ⟨g, 7, none⟩ = some c7 ∧ w'.cell? ⟨g, 8, none⟩ = some c8 ∧ w'.cell? ⟨g, 9, none⟩ = some c9 ∧ w'.cell? ⟨g, 10, none⟩ = some c10 ∧ w'.cell? ⟨g, 11, none⟩ = some c11 ∧ w'.cell? ⟨g, 12, none⟩ = some c12 ∧ w'.cell? ⟨g, 13, none⟩ = some c13 ∧ w'.cell? ⟨g, 14, none⟩ = some c14 ∧ Blk w' g 43 #[c0, c1, c2, c3, c4, c5, c6, c7, c8, c9, c10, c11, c12, c13, c14] ∧ Hol w' A len H ∧ SpR w' A1 L ∧ SpR w' A2 L ∧ Below w.heap.size w w' :=
  full6 (keep6 (hold6 h) hb)
set_option maxHeartbeats 4000000 in
set_option maxRecDepth 100000 in
theorem matches_few (O : List Int) (hO : O.length = 14) (A : Option Addr) (len cap : Nat) (H : List Int) (w : World) (hH : Hol w A len H) (hlen : len < 4611686018427387904) (a b n : Int) (hn : n ≤ 9223372036854775807) (hB : Bef w) (hf : fewB len a b = true) :
    Calls Tryd.prog 6 #[calV O A len cap, .int .i64 a, .int .i64 b, .int .i64 n] w fun e w' => e = .returned (.bool true) ∧ Below w.heap.size w w' := by
  have CS := hid sane_any
  have CF := hid (fun W => few_any O hO A len cap W a b)
  rw [hf] at CF
  have C1 := hid (fun W (h : Hol W A len H) => open_any O hO A len cap H W h hlen a b)
  have C2 := hid (fun W (h : Hol W A len H) => ropen_any O hO A len cap H W h hlen a b)
  have C3 := hid (fun W (h : Hol W A len H) => work_any O hO A len cap H W h hlen a b)
  have C4 := hid (fun W (h : Hol W A len H) => rwork_any O hO A len cap H W h hlen a b)
  have C5 := hid (fun W (h : Hol W A len H) => after_any O hO A len cap H W h hlen a n hn)
  have C6 := hid (fun W (h : Hol W A len H) => rafter_any O hO A len cap H W h hlen a n hn)
  have C7 := hid (fun W (h : Hol W A len H) => check_any O hO A len cap H W h)
  have C8 := hid (fun W (h : Hol W A len H) => rcheck_any O hO A len cap H W h)
  have hlo := opL_len O H a b
  have C9 := hid (fun W A1 A2 c1 c2 h1 h2 => lists_any A1 A2 c1 c2 (opL O H a b) (opL O H a b) W h1 h2 (by omega))
  simp only [decide_true] at C9
  have hs15 : (Tryd.prog.info? 43).map (·.size) = some (calC O A len cap).toArray.size := by rw [calC_size O hO]; exact size43
  have hsz15 := calC_size O hO A len cap
  have HS := hid hs15
  unfold calV at *
  clear hO hs15 hf
  generalize (calC O A len cap).toArray = cs at *
  obtain ⟨c0, c1, c2, c3, c4, c5, c6, c7, c8, c9, c10, c11, c12, c13, c14, rfl⟩ := array15 hsz15
  clear hsz15
  generalize opL O H a b = L at *
  generalize opE O H a b = e1 at *
  generalize wkN O H a b = n2 at *
  generalize wkE O H a b = e2 at *
  generalize afN O H a n = n3 at *
  generalize afE O H a n = e3 at *
  generalize calE O H = e4 at *
  have B00 := hid (Blk.new w 43 #[c0, c1, c2, c3, c4, c5, c6, c7, c8, c9, c10, c11, c12, c13, c14])
  have HB0 := hid (hB.alloc (.cells #[c0, c1, c2, c3, c4, c5, c6, c7, c8, c9, c10, c11, c12, c13, c14] 43))
  have HE0 := hid ((Below.refl w.heap.size w).alloc (Nat.le_refl _) (.cells #[c0, c1, c2, c3, c4, c5, c6, c7, c8, c9, c10, c11, c12, c13, c14] 43))
  have HH := hid hH
  clear hB hH
  go_enter Tryd.func6, Tryd.ntmps6
  go_wp2_with fail
  refine (CS.out _ HB0.out).mono ?_
  rintro e w1 ⟨rfl, hb⟩
  have HE1 := hid (HE0.out.trans (hb.mono HE0.out.size))
  have B1 := hid (B00.out.below hb B00.out.lt)
  clear hb
  go_wp2_with (refine wpList_load_row rfl 43 _ rfl w.heap.size rfl 43 #[c0, c1, c2, c3, c4, c5, c6, c7, c8, c9, c10, c11, c12, c13, c14] (0, 0) _ B1.out Tryd.underlying43 rfl HS.out ?_)
  refine (CF.out _).mono ?_
  rintro e w2 ⟨rfl, hb⟩
  have HE2 := hid (HE1.out.trans (hb.mono HE1.out.size))
  have B2 := hid (B1.out.below hb B1.out.lt)
  clear hb B1 HE1
  go_wp2_with (refine wpList_load_row rfl 43 _ rfl w.heap.size rfl 43 #[c0, c1, c2, c3, c4, c5, c6, c7, c8, c9, c10, c11, c12, c13, c14] (0, 0) _ B2.out Tryd.underlying43 rfl HS.out ?_)
  refine (C1.out _ (HH.out.below HE2.out)).mono ?_
  rintro e w3 ⟨A1, cp1, rfl, hs, hb⟩
  have HE3 := hid (HE2.out.trans (hb.mono HE2.out.size))
  have B3 := hid (B2.out.below hb B2.out.lt)
  have S3 := hid hs
  clear hb hs B2 HE2
  go_wp2_with (refine wpList_load_row rfl 43 _ rfl w.heap.size rfl 43 #[c0, c1, c2, c3, c4, c5, c6, c7, c8, c9, c10, c11, c12, c13, c14] (0, 0) _ B3.out Tryd.underlying43 rfl HS.out ?_)
  refine (C2.out _ (HH.out.below HE3.out)).mono ?_
  rintro e w4 ⟨A2, cp2, rfl, hs, hb⟩
  have HE4 := hid (HE3.out.trans (hb.mono HE3.out.size))
  have B4 := hid (B3.out.below hb B3.out.lt)
  have S4 := hid (S3.out.below hb)
  have T4 := hid hs
  clear hb hs B3 HE3 S3
  go_wp2_with (refine wpList_load_row rfl 43 _ rfl w.heap.size rfl 43 #[c0, c1, c2, c3, c4, c5, c6, c7, c8, c9, c10, c11, c12, c13, c14] (0, 0) _ B4.out Tryd.underlying43 rfl HS.out ?_)
  refine (C3.out _ (HH.out.below HE4.out)).mono ?_
  rintro e w5 ⟨rfl, hb⟩
  have HE5 := hid (HE4.out.trans (hb.mono HE4.out.size))
  have B5 := hid (B4.out.below hb B4.out.lt)
  have S5 := hid (S4.out.below hb)
  have T5 := hid (T4.out.below hb)
  clear hb B4 HE4 S4 T4
  go_wp2_with (refine wpList_load_row rfl 43 _ rfl w.heap.size rfl 43 #[c0, c1, c2, c3, c4, c5, c6, c7, c8, c9, c10, c11, c12, c13, c14] (0, 0) _ B5.out Tryd.underlying43 rfl HS.out ?_)
  refine (C4.out _ (HH.out.below HE5.out)).mono ?_
  rintro e w6 ⟨rfl, hb⟩
  have HE6 := hid (HE5.out.trans (hb.mono HE5.out.size))
  have B6 := hid (B5.out.below hb B5.out.lt)
  have S6 := hid (S5.out.below hb)
  have T6 := hid (T5.out.below hb)
  clear hb B5 HE5 S5 T5
  go_wp2_with (refine wpList_load_row rfl 43 _ rfl w.heap.size rfl 43 #[c0, c1, c2, c3, c4, c5, c6, c7, c8, c9, c10, c11, c12, c13, c14] (0, 0) _ B6.out Tryd.underlying43 rfl HS.out ?_)
  refine (C5.out _ (HH.out.below HE6.out)).mono ?_
  rintro e w7 ⟨rfl, hb⟩
  have HE7 := hid (HE6.out.trans (hb.mono HE6.out.size))
  have B7 := hid (B6.out.below hb B6.out.lt)
  have S7 := hid (S6.out.below hb)
  have T7 := hid (T6.out.below hb)
  clear hb B6 HE6 S6 T6
  go_wp2_with (refine wpList_load_row rfl 43 _ rfl w.heap.size rfl 43 #[c0, c1, c2, c3, c4, c5, c6, c7, c8, c9, c10, c11, c12, c13, c14] (0, 0) _ B7.out Tryd.underlying43 rfl HS.out ?_)
  refine (C6.out _ (HH.out.below HE7.out)).mono ?_
  rintro e w8 ⟨rfl, hb⟩
  have HE8 := hid (HE7.out.trans (hb.mono HE7.out.size))
  have B8 := hid (B7.out.below hb B7.out.lt)
  have S8 := hid (S7.out.below hb)
  have T8 := hid (T7.out.below hb)
  clear hb B7 HE7 S7 T7
  go_wp2_with fail
  have hd : decide (e4 = e4) = true := by simp
  have hH8 := HH.out.below HE8.out
  have hb8 := B8.out
  have hs8 := S8.out
  have ht8 := T8.out
  have he8 := HE8.out
  go_region_held3 (fun w' => w'.cell? ⟨w.heap.size, 0, none⟩ = some c0 ∧ w'.cell? ⟨w.heap.size, 1, none⟩ = some c1 ∧ w'.cell? ⟨w.heap.size, 2, none⟩ = some c2 ∧ w'.cell? ⟨w.heap.size, 3, none⟩ = some c3 ∧ w'.cell? ⟨w.heap.size, 4, none⟩ = some c4 ∧ w'.cell? ⟨w.heap.size, 5, none⟩ = some c5 ∧ w'.cell? ⟨w.heap.size, 6, none⟩ = some c6 ∧ w'.cell? ⟨w.heap.size, 7, none⟩ = some c7 ∧ w'.cell? ⟨w.heap.size, 8, none⟩ = some c8 ∧ w'.cell? ⟨w.heap.size, 9, none⟩ = some c9 ∧ w'.cell? ⟨w.heap.size, 10, none⟩ = some c10 ∧ w'.cell? ⟨w.heap.size, 11, none⟩ = some c11 ∧ w'.cell? ⟨w.heap.size, 12, none⟩ = some c12 ∧ w'.cell? ⟨w.heap.size, 13, none⟩ = some c13 ∧ w'.cell? ⟨w.heap.size, 14, none⟩ = some c14 ∧ Blk w' w.heap.size 43 #[c0, c1, c2, c3, c4, c5, c6, c7, c8, c9, c10, c11, c12, c13, c14] ∧ Hol w' A len H ∧ SpR w' A1 L ∧ SpR w' A2 L ∧ Below w.heap.size w w') (first | exact full6 ⟨hb8, hH8, hs8, ht8, he8.drew⟩ | exact keep7 (by assumption) (by assumption))
    (first | (go_at_call 29; refine (C7.out _ (hold6 (by assumption)).2.1).mono ?_; rintro e w' ⟨rfl, hb⟩) | (go_at_call 30; refine (C8.out _ (hold6 (by assumption)).2.1).mono ?_; rintro e w' ⟨rfl, hb⟩) | (go_at_call 31; refine (C9.out _ _ _ _ _ (hold6 (by assumption)).2.2.1 (hold6 (by assumption)).2.2.2.1).mono ?_; rintro e w' ⟨rfl, hq⟩; have hb := below_drew6 hq))
  rename_i hfin
  have HFIN := hid (hold6 hfin).2.2.2.2
  clear hfin
  go_wp2_with fail
  go_ret
  exact ⟨rfl, HFIN.out⟩
theorem matches_walk (O : List Int) (hO : O.length = 14) (A : Option Addr) (len cap : Nat) (H : List Int) (w : World) (hH : Hol w A len H) (a b n : Int) (hn : n ≤ 9223372036854775807) (hB : Bef w) :
    Calls Tryd.prog 6 #[calV O A len cap, .int .i64 a, .int .i64 b, .int .i64 n] w fun e w' => e = .returned (.bool true) ∧ Below w.heap.size w w' := by
  cases hf : fewB len a b with
  | true => exact matches_few O hO A len cap H w hH (by have := fewB_len hf; omega) a b n hn hB hf
  | false => exact matches_many O hO A len cap w a b n hB hf
end Go.Proofs.YthkmnoobajaooaaDoor
