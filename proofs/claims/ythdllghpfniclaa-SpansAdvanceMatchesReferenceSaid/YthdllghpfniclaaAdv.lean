/-
  The walk of spans.Advance. Conditions: the list lies in memory as it reads, and has at most a hundred thousand spans.
-/
import Derived.Test.YthdllghpfniclaaInt
namespace Go.Proofs.Ythdllghpfniclaa
open Go.RowKit
attribute [local go_sem] Oper.semAt_some
/-- The minute at which n minutes of a list have passed. -/
def advL : Int → List Sp → Option Int
  | _, [] => none
  | n, s :: X => if n ≤ s.2 - s.1 then some (s.1 + n) else advL (n - (s.2 - s.1)) X
/-- The list over which Advance goes. -/
def FrmC (L : List Sp) (fr : Int) (X : List Sp) : Prop := Nrm X ∧ (∀ m, mem X m ↔ 0 ≤ m ∧ m < MX ∧ mem L m ∧ fr ≤ m) ∧ X.length ≤ L.length + 1
theorem cmnL_none {n : Nat} {a : List Sp} {e f g : Int} (ha : nrmF e a) (h : g ≤ f) (hg : ∀ s ∈ a, s.2 ≤ g) : cmnL n a [(f, g)] = [] := by
  induction n generalizing a e with
  | zero => cases a <;> rfl
  | succ n ih =>
    cases a with
    | nil => rfl
    | cons s a =>
      have hs := hg s (List.mem_cons_self ..)
      obtain ⟨a1, a2, a3, a4⟩ := ha
      show (if max s.1 f < min s.2 g then _ else []) ++ (if s.2 < g then cmnL n a [(f, g)] else cmnL n (s :: a) []) = []
      rw [if_neg (by omega), List.nil_append]
      split
      · exact ih a4 (fun t ht => hg t (List.mem_cons_of_mem _ ht))
      · cases n <;> rfl
theorem nrmF.all {e : Int} {l : List Sp} (h : nrmF e l) : ∀ s ∈ l, e < s.1 ∧ s.1 < s.2 ∧ s.2 ≤ MX := by
  induction l generalizing e with
  | nil => intro s hs; cases hs
  | cons t l ih =>
    obtain ⟨a1, a2, a3, a4⟩ := h
    intro s hs
    rcases List.mem_cons.1 hs with rfl | hs
    · exact ⟨a1, a2, a3⟩
    · have := ih a4 s hs; exact ⟨by omega, this.2.1, this.2.2⟩
theorem FrmC.of {L X : List Sp} {fr : Int} (hX : IsN L X) (hl : X.length ≤ L.length) : FrmC L fr (cmnL (X.length + 1) X [(max fr 0, 1073741824)]) := by
  have hlen := cmnL_len (X.length + 1) X [(max fr 0, 1073741824)]
  by_cases h : max fr 0 < 1073741824
  · have hb : nrmF (-1) [(max fr 0, 1073741824)] := ⟨by show -1 < max fr 0; omega, h, Int.le_refl _, trivial⟩
    obtain ⟨h1, h2⟩ := cmnL_ok (n := X.length + 1) (Nat.le_refl _) hX.1 hb
    refine ⟨h1.mono (by omega), fun m => ?_, by omega⟩
    rw [h2, hX.2, mem_cons]
    unfold inS
    dsimp only
    constructor
    · rintro ⟨⟨a, b, c⟩, d | d⟩
      · exact ⟨a, b, c, by omega⟩
      · exact absurd d (mem_nil m)
    · rintro ⟨a, b, c, d⟩
      exact ⟨⟨a, b, c⟩, Or.inl ⟨by omega, b⟩⟩
  · have he : cmnL (X.length + 1) X [(max fr 0, 1073741824)] = [] := cmnL_none hX.1 (by omega) (fun s hs => (nrmF.all hX.1 s hs).2.2)
    rw [he]
    refine ⟨trivial, fun m => ⟨fun h => absurd h (mem_nil m), fun ⟨a, b, c, d⟩ => ?_⟩, by simp⟩
    unfold MX at b
    omega
/-- What Advance comes to. -/
def AdvP (L : List Sp) (fr n : Int) (m : Int) (ok : Bool) : Prop :=
  (n < 0 ∧ m = 0 ∧ ok = false) ∨ (n = 0 ∧ m = fr ∧ ok = true) ∨ (0 < n ∧ ∃ X, FrmC L fr X ∧ ((advL n X = some m ∧ ok = true) ∨ (advL n X = none ∧ m = 0 ∧ ok = false)))
def AdvE (L : List Sp) (fr n : Int) (w : World) (e : Ending) (w' : World) : Prop := ∃ m ok, e = .returned (.tuple #[.int .i64 m, .bool ok]) ∧ AdvP L fr n m ok ∧ Below w.heap.size w w'
theorem SpR.ne_cell {w w2 : World} {b off g : Nat} {t : TypeId} {v : Value} {L : List Sp} (h : SpR w (some ⟨b, off, none⟩) L) (hp : 0 < L.length) (hg : Blk w2 g t #[v]) (he : Below w2.heap.size w2 w) : b ≠ g := by
  rintro rfl
  obtain ⟨b', off', e, hb, hc⟩ := h.at2 (Below.refl _ _) hp
  injection e with e
  injection e with e1 e2
  subst e1 e2
  obtain ⟨_, h0⟩ := hc 0 _ (List.getElem?_eq_getElem hp)
  have h1 := (hg.below he hg.lt).cell (off + 0 * 2 + 1)
  rw [h1, Array.getElem?_eq_none (by simp)] at h0
  cases h0
/-- Between two rounds. -/
structure AdvI (g B : Nat) (w : World) (n : Int) (R pre : List Sp) (W : World) : Prop where
  ex : ∃ nc : Int, Blk W g 3 #[.int .i64 nc] ∧ Blk W (g + 1) 3 #[.int .i64 0] ∧ Blk W (g + 1 + 1) 4 #[.bool false] ∧ Below g w W ∧ B ≤ W.heap.size ∧ 0 < nc ∧ nc ≤ n ∧ (∀ rest, pre ++ rest = R → advL n R = advL nc rest)
/-- Where a round has returned. -/
structure AdvX (g B : Nat) (w : World) (n : Int) (R : List Sp) (c : Code) (pre : List Sp) (W : World) : Prop where
  ret : c = .ret
  ex : ∃ (m : Int) (v : Value), Blk W g 3 #[v] ∧ Blk W (g + 1) 3 #[.int .i64 m] ∧ Blk W (g + 1 + 1) 4 #[.bool true] ∧ Below g w W ∧ B ≤ W.heap.size ∧ advL n R = some m
theorem AdvI.clo {g B : Nat} {w : World} {n : Int} {R pre : List Sp} {C : Nat → Prop} (hg : g + 1 + 1 < B) (hC : ∀ k, C k → g + 1 + 1 < k) : Clo C B (AdvI g B w n R pre) := by
  rintro W W' row ⟨nc, h1, h2, h3, h4, h5, h6⟩ hgr hr
  have key : ∀ k, k ≤ g + 1 + 1 → ∀ r, row = some r → r ≠ k ∨ ∃ o : Obj, W.heap[r]? = some o ∧ o.isCells = false := fun k hk r e => by
    rcases hr r e with h | ⟨_, h⟩
    · exact Or.inl (by have := hC r h; omega)
    · exact Or.inr h
  exact ⟨nc, h1.row hgr (key _ (by omega)), h2.row hgr (key _ (by omega)), h3.row hgr (key _ (by omega)), h4.grown hgr (by omega) (fun r e => by rcases hr r e with h | ⟨h, _⟩; have := hC r h; omega; omega), Nat.le_trans h5 hgr.size, h6⟩
theorem AdvX.clo {g B : Nat} {w : World} {n : Int} {R pre : List Sp} {c : Code} {C : Nat → Prop} (hg : g + 1 + 1 < B) (hC : ∀ k, C k → g + 1 + 1 < k) : Clo C B (AdvX g B w n R c pre) := by
  rintro W W' row ⟨hc, m, v, h1, h2, h3, h4, h5, h6⟩ hgr hr
  have key : ∀ k, k ≤ g + 1 + 1 → ∀ r, row = some r → r ≠ k ∨ ∃ o : Obj, W.heap[r]? = some o ∧ o.isCells = false := fun k hk r e => by
    rcases hr r e with h | ⟨_, h⟩
    · exact Or.inl (by have := hC r h; omega)
    · exact Or.inr h
  exact ⟨hc, m, v, h1.row hgr (key _ (by omega)), h2.row hgr (key _ (by omega)), h3.row hgr (key _ (by omega)), h4.grown hgr (by omega) (fun r e => by rcases hr r e with h | ⟨h, _⟩; have := hC r h; omega; omega), Nat.le_trans h5 hgr.size, h6⟩
theorem AdvI.big {g B : Nat} {w : World} {n : Int} {R pre : List Sp} {W : World} (h : AdvI g B w n R pre W) : B ≤ W.heap.size := by
  obtain ⟨nc, h1, h2, h3, h4, h5, h6⟩ := h; exact h5
theorem AdvI.grow {g B : Nat} {w : World} {n : Int} {R pre : List Sp} {W W' : World} (h : AdvI g B w n R pre W) (hb : Below W.heap.size W W') (hg : g ≤ W.heap.size) : AdvI g B w n R pre W' := by
  obtain ⟨nc, h1, h2, h3, h4, h5, h6⟩ := h
  exact ⟨nc, h1.below hb h1.lt, h2.below hb h2.lt, h3.below hb h3.lt, h4.trans (hb.mono hg), Nat.le_trans h5 hb.size, h6⟩
set_option maxHeartbeats 4000000 in
theorem advance_any (L : List Sp) (fr n : Int) (A : Option Addr) (c : Nat) (w : World) (hL : SpR w A L) (hl : L.length ≤ 400000) (hn : n ≤ 9223372036854775807) (hn' : -9223372036854775808 ≤ n) :
    Calls Try.prog 10 #[.slice A L.length c, .int .i64 fr, .int .i64 n] w (AdvE L fr n w) := by
  obtain ⟨W1, hW1⟩ : ∃ W1, ((w.alloc (.cells #[.int .i64 n] 3)).alloc (.cells #[.int .i64 0] 3)).alloc (.cells #[.bool false] 4) = W1 := ⟨_, rfl⟩
  have hb1 : Below w.heap.size w W1 := by rw [← hW1]; exact (((Below.refl _ _).alloc (Nat.le_refl _) _).alloc (by simp) _).alloc (by simp; omega) _
  have hs1 : W1.heap.size = w.heap.size + 3 := by rw [← hW1]; simp
  have b5 : Blk W1 w.heap.size 3 #[.int .i64 n] := by rw [← hW1]; exact ((Blk.new _ _ _).alloc _).alloc _
  have b6 : Blk W1 (w.heap.size + 1) 3 #[.int .i64 0] := by rw [← hW1]; have := (Blk.new (w.alloc (.cells #[.int .i64 n] 3)) 3 #[.int .i64 0]).alloc (.cells #[.bool false] 4); simpa using this
  have b7 : Blk W1 (w.heap.size + 1 + 1) 4 #[.bool false] := by rw [← hW1]; have := Blk.new ((w.alloc (.cells #[.int .i64 n] 3)).alloc (.cells #[.int .i64 0] 3)) 4 #[.bool false]; simpa using this
  have CN := hid (normal_any L A c W1 (hL.below hb1) (by omega))
  have CC := hid (common_any)
  have HW1 := hid hW1
  have HB1 := hid hb1
  have H5 := hid b5
  have H6 := hid b6
  have H7 := hid b7
  have hw1 : w.heap.size + 3 ≤ W1.heap.size := by omega
  clear hL hb1 hW1 hs1
  refine (callsIn_wide (n := 3)).1 ?_
  refine callsIn_of_wp_marks Try.func10 rfl trivial ?_ rfl
  simp only [Try.ntmps10, List.size_toArray, List.length_cons, List.length_nil, Nat.reduceAdd, Nat.reduceSub, Array.replicate_succ, Array.replicate_zero, List.push_toArray, List.append_toArray, List.nil_append, List.cons_append]
  refine wpIn_wide.2 ?_
  go_upto_region 1 with fail
  rw [HW1.out]
  have p5 := b5.at 0 rfl
  have f6 := b6.frozen 0
  have f7 := b7.frozen 0
  have p6 := b6.at 0 rfl
  have p7 := b7.at 0 rfl
  clear b5 b6 b7 HW1
  by_cases h0 : n < 0
  · have k0 : decide (n < 0) = true := by simpa using h0
    go_wp2_with fail
    have r6 : Blk ((W1.setCell ⟨w.heap.size + 1, 0, none⟩ (.int .i64 0)).setCell ⟨w.heap.size + 1 + 1, 0, none⟩ (.bool false)) (w.heap.size + 1) 3 #[.int .i64 0] := (H6.out.set_ 0 _).far (by show w.heap.size + 1 ≠ w.heap.size + 1 + 1; omega) _
    have r7 : Blk ((W1.setCell ⟨w.heap.size + 1, 0, none⟩ (.int .i64 0)).setCell ⟨w.heap.size + 1 + 1, 0, none⟩ (.bool false)) (w.heap.size + 1 + 1) 4 #[.bool false] := (H7.out.far (by show w.heap.size + 1 + 1 ≠ w.heap.size + 1; omega) _).set_ 0 _
    have k6 := r6.at 0 rfl
    have k7 := r7.at 0 rfl
    exact ⟨.tuple #[.int .i64 0, .bool false], by simp [results, Try.results10, go_sem, k6, k7], 0, false, rfl, Or.inl ⟨h0, rfl, rfl⟩, (HB1.out.setCell (by show w.heap.size ≤ w.heap.size + 1; omega) _).setCell (by show w.heap.size ≤ w.heap.size + 1 + 1; omega) _⟩
  · have k0 : decide (n < 0) = false := by simpa using h0
    by_cases hz : n = 0
    · have k1 : (n == 0) = true := by simpa using hz
      subst hz
      go_wp2_with fail
      have r6 : Blk ((W1.setCell ⟨w.heap.size + 1, 0, none⟩ (.int .i64 fr)).setCell ⟨w.heap.size + 1 + 1, 0, none⟩ (.bool true)) (w.heap.size + 1) 3 #[.int .i64 fr] := (H6.out.set_ 0 _).far (by show w.heap.size + 1 ≠ w.heap.size + 1 + 1; omega) _
      have r7 : Blk ((W1.setCell ⟨w.heap.size + 1, 0, none⟩ (.int .i64 fr)).setCell ⟨w.heap.size + 1 + 1, 0, none⟩ (.bool true)) (w.heap.size + 1 + 1) 4 #[.bool true] := (H7.out.far (by show w.heap.size + 1 + 1 ≠ w.heap.size + 1; omega) _).set_ 0 _
      have k6 := r6.at 0 rfl
      have k7 := r7.at 0 rfl
      exact ⟨.tuple #[.int .i64 fr, .bool true], by simp [results, Try.results10, go_sem, k6, k7], fr, true, rfl, Or.inr (Or.inl ⟨rfl, rfl, rfl⟩), (HB1.out.setCell (by show w.heap.size ≤ w.heap.size + 1; omega) _).setCell (by show w.heap.size ≤ w.heap.size + 1 + 1; omega) _⟩
    · have k1 : (n == 0) = false := by simpa using hz
      go_wp2_with fail
      refine CN.out.mono ?_
      rintro e w2 ⟨X, v, rfl, ⟨hX, hXl⟩, ⟨A2, c2, rfl, hRX, hc2⟩, hb2⟩
      have HX := hid (And.intro hX hXl)
      have HRX := hid hRX
      have HB2 := hid hb2
      have HC2 := hid hc2
      clear hX hXl hRX hb2 hc2 CN p5 p6 p7 f6 f7
      go_wp2_with fail
      obtain ⟨W3, hW3⟩ : ∃ W3, w2.alloc (.cells #[.int .i64 (max fr 0), .int .i64 1073741824] 31) = W3 := ⟨_, rfl⟩
      rw [hW3]
      have hb3 : Below w2.heap.size w2 W3 := by rw [← hW3]; exact (Below.refl _ _).alloc (Nat.le_refl _) _
      have bl : Blk W3 w2.heap.size 31 #[.int .i64 (max fr 0), .int .i64 1073741824] := by rw [← hW3]; exact Blk.new _ _ _
      have HB3 := hid hb3
      have HBL := hid bl
      clear hW3 hb3 bl
      refine (CC.out A2 (some ⟨w2.heap.size, 0, none⟩) c2 1 _ _ _).mono ?_
      rintro e w4 ⟨rfl, hw4⟩
      have HW4 := hid hw4
      clear hw4 CC
      go_wp2_with fail
      have hs4 : w4.heap.size = W3.heap.size + 2 := by rw [HW4.out]; simp
      have hb4 : Below W3.heap.size W3 w4 := by rw [HW4.out]; exact ((Below.refl _ _).alloc (Nat.le_refl _) _).alloc (by simp) _
      have d3 : Blk w4 W3.heap.size 22 #[.slice A2 X.length c2] := by rw [HW4.out]; exact (Blk.new _ _ _).alloc _
      have d4 : Blk w4 (W3.heap.size + 1) 22 #[.slice (some ⟨w2.heap.size, 0, none⟩) [((max fr 0, 1073741824) : Sp)].length 1] := by rw [HW4.out]; have := Blk.new (W3.alloc (.cells #[.slice A2 X.length c2] 22)) 22 #[.slice (some ⟨w2.heap.size, 0, none⟩) 1 1]; simpa using this
      have hz2 := HB2.out.size
      have hz3 := HB3.out.size
      have hl3 := HBL.out.lt
      have hbl4 := HBL.out.below hb4 HBL.out.lt
      have hB14 : Below W1.heap.size W1 w4 := (HB2.out.trans (HB3.out.mono hz2)).trans (hb4.mono (by omega))
      have hst : StI (fun k => k < w4.heap.size ∧ k ≠ w.heap.size ∧ k ≠ w.heap.size + 1 ∧ k ≠ w.heap.size + 1 + 1) W3.heap.size (W3.heap.size + 1) w4 A2 c2 X (some ⟨w2.heap.size, 0, none⟩) 1 [(max fr 0, 1073741824)] := {
        ba := d3
        bb := d4
        ra := fun hp => by
          obtain ⟨b, off, e, hb, hc⟩ := HRX.out.at2 (HB3.out.trans (hb4.mono hz3)) hp
          subst e
          have hr := HRX.out
          have n5 : b ≠ w.heap.size := SpR.ne_cell hr hp H5.out HB2.out
          have n6 : b ≠ w.heap.size + 1 := SpR.ne_cell hr hp H6.out HB2.out
          have n7 : b ≠ w.heap.size + 1 + 1 := SpR.ne_cell hr hp H7.out HB2.out
          exact ⟨b, off, rfl, ⟨⟨by omega, n5, n6, n7⟩, by omega, by omega⟩, by omega, hc⟩
        rb := fun _ => ⟨w2.heap.size, 0, rfl, ⟨⟨by omega, by omega, by omega, by omega⟩, by omega, by omega⟩, by omega, fun i s hs => by
          have hi : i = 0 := by
            rcases Nat.eq_zero_or_pos i with h | h
            · exact h
            · rw [List.getElem?_eq_none (by simp; omega)] at hs; cases hs
          subst hi
          injection hs with hs
          subst hs
          exact ⟨hbl4.at 0 rfl, hbl4.at 1 rfl⟩⟩
        la := HC2.out.1
        lb := Nat.le_refl _ }
      have hseq := common_seq 2 (fun k => k < w4.heap.size ∧ k ≠ w.heap.size ∧ k ≠ w.heap.size + 1 ∧ k ≠ w.heap.size + 1 + 1) X [(max fr 0, 1073741824)] A2 (some ⟨w2.heap.size, 0, none⟩) c2 1 W3.heap.size (W3.heap.size + 1) w4 hst (by omega) ⟨by omega, by omega, by omega, by omega⟩ ⟨by omega, by omega, by omega, by omega⟩
      have HF := hid (FrmC.of (fr := fr) HX.out.1 HX.out.2)
      obtain ⟨R, hR⟩ : ∃ R, cmnL (X.length + [((max fr 0, 1073741824) : Sp)].length) X [(max fr 0, 1073741824)] = R := ⟨_, rfl⟩
      rw [hR] at hseq
      rw [show cmnL (X.length + 1) X [(max fr 0, 1073741824)] = R from hR] at HF
      have HBw : Hid (Below w.heap.size w w4) := hid (HB1.out.trans (hB14.mono HB1.out.size))
      have h45 := H5.out.below hB14 H5.out.lt
      have h46 := H6.out.below hB14 H6.out.lt
      have h47 := H7.out.below hB14 H7.out.lt
      have HSQ := hid hseq
      have HI := hid (And.intro h45 (And.intro h46 h47))
      have hs5 : W3.heap.size + 2 ≤ w4.heap.size := by omega
      have hs6 : w.heap.size + 3 ≤ W3.heap.size := by omega
      clear hs4 hst d3 d4 hR hseq h45 h46 h47 HC2 HX HRX HB2 HB3 H5 H6 H7 HB1 hB14 hb4 HW4 hbl4 HBL
      refine (wpIn_wide (n := 3)).1 ?_
      refine range_st (gf := 31) (lb := #[.pointer (some ⟨W3.heap.size, 0, none⟩), .pointer (some ⟨W3.heap.size + 1, 0, none⟩)]) rfl (enters_of Try.func31 (by kernel_rfl) rfl) (fun _ => rfl)
        (fun k => k = W3.heap.size ∨ k = W3.heap.size + 1) (fun k hk => by omega) HSQ.out keepK_trans (keepK_put (fun k hk => hk.1))
        (AdvI w.heap.size w4.heap.size w n R) (AdvX w.heap.size w4.heap.size w n R)
        (fun pre x a W => AdvI w.heap.size w4.heap.size w n R pre W ∧ ∃ Bx, w4.heap.size ≤ Bx ∧ Blk W Bx 31 #[.int .i64 x.1, .int .i64 x.2] ∧
          a = { tmps := #[.slice A L.length c, .int .i64 fr, .int .i64 n, undef, undef, .pointer (some ⟨w.heap.size, 0, none⟩), .pointer (some ⟨w.heap.size + 1, 0, none⟩), .pointer (some ⟨w.heap.size + 1 + 1, 0, none⟩), .pointer (some ⟨Bx, 0, none⟩), .int .i64 n, .bool false, .int .i64 n, .bool false, undef,
            .slice A L.length c, .slice A2 X.length c2, .int .i64 fr, .int .i64 (max fr 0), .agg #[.int .i64 (max fr 0), .int .i64 1073741824], .slice (some ⟨w2.heap.size, 0, none⟩) 1 1,
            .func (.func 31) #[] #[.pointer (some ⟨W3.heap.size, 0, none⟩), .pointer (some ⟨W3.heap.size + 1, 0, none⟩)], .agg #[.int .i64 x.1, .int .i64 x.2], undef, undef, undef, undef, undef, undef, undef, undef, undef, undef, undef, undef, undef, undef, undef, undef, undef, undef], defers := [] })
        ?cI ?cX ?cA ?h0 ?assign ?body ?done ?stop
      case cI => exact fun pre => AdvI.clo (by omega) (fun k hk => by omega)
      case cX => exact fun cc pre => AdvX.clo (by omega) (fun k hk => by omega)
      case cA =>
        rintro pre x a W W' row ⟨h1, Bx, h2, h3, h4⟩ hg hr
        refine ⟨AdvI.clo (C := fun k => k = W3.heap.size ∨ k = W3.heap.size + 1) (by omega) (fun k hk => by omega) W W' row h1 hg hr, Bx, h2, h3.row hg (fun r e => ?_), h4⟩
        rcases hr r e with h | ⟨_, h⟩
        · exact Or.inl (by omega)
        · exact Or.inr h
      case h0 => exact ⟨n, HI.out.1, HI.out.2.1, HI.out.2.2, HBw.out, Nat.le_refl _, by omega, Int.le_refl _, fun rest h => by rw [← h]; rfl⟩
      case assign =>
        rintro l pre x W _ _ h1 _
        gi_wp2
        exact ⟨KeepsOthers.alloc _ _, KeepK.of ((Below.refl _ _).alloc (Nat.le_refl _) _), h1.grow ((Below.refl _ _).alloc (Nat.le_refl _) _) (by omega), W.heap.size, h1.big, Blk.new _ _ _, rfl⟩
      case body =>
        rintro l pre x a1 W _ _ ⟨⟨nc, h5, h6, h7, h8, h9, hn1, hn2, hA⟩, Bx, hB, hx, rfl⟩ hpx
        obtain ⟨rest, hrest⟩ := hpx
        have hxR : x ∈ R := by rw [← hrest]; simp
        obtain ⟨x1, x2, x3⟩ := nrmF.all HF.out.1 x hxR
        have hadv := hA (x :: rest) (by rw [← hrest]; simp)
        unfold MX at x3
        have hlx := hx.lt
        have p5 := h5.at 0 rfl
        have f5 := h5.frozen 0
        have f6 := h6.frozen 0
        have f7 := h7.frozen 0
        have p6 := h6.at 0 rfl
        have p7 := h7.at 0 rfl
        have q0 := hx.at 0 rfl
        have q1 := hx.at 1 rfl
        have HA := hid hA
        have HR := hid hrest
        have HV := hid hadv
        have I5 := hid h5
        have I6 := hid h6
        have I7 := hid h7
        have I8 := hid h8
        clear hA hrest hadv hxR h5 h6 h7 h8 hx
        obtain ⟨f, t⟩ := x
        simp only at q0 q1 x1 x2 x3
        by_cases hle : nc ≤ t - f
        · have k0 : decide (nc ≤ t - f) = true := by simpa using hle
          have HS : Hid (advL n R = some (f + nc)) := hid (by rw [HV.out]; exact if_pos hle)
          gi_wp2
          refine ⟨?_, rfl, f + nc, .int .i64 nc, ?_, ?_, ?_, ?_, ?_, HS.out⟩
          · exact (KeepsOthers.setCell _ _ _).trans (KeepsOthers.setCell _ _ _)
          · exact (I5.out.far (by show w.heap.size ≠ w.heap.size + 1; omega) _).far (by show w.heap.size ≠ w.heap.size + 1 + 1; omega) _
          · exact (I6.out.set_ 0 _).far (by show w.heap.size + 1 ≠ w.heap.size + 1 + 1; omega) _
          · exact (I7.out.far (by show w.heap.size + 1 + 1 ≠ w.heap.size + 1; omega) _).set_ 0 _
          · exact (I8.out.setCell (by show w.heap.size ≤ w.heap.size + 1; omega) _).setCell (by show w.heap.size ≤ w.heap.size + 1 + 1; omega) _
          · simpa using h9
        · have k0 : decide (nc ≤ t - f) = false := by simpa using hle
          have HS : Hid (∀ rest, (pre ++ [(f, t)]) ++ rest = R → advL n R = advL (nc - (t - f)) rest) := hid (fun r hr => by
            rw [HA.out ((f, t) :: r) (by rw [← hr]; simp)]
            exact if_neg hle)
          gi_wp2
          refine ⟨?_, ?_, nc - (t - f), ?_, ?_, ?_, ?_, ?_, by omega, by omega, HS.out⟩
          · exact KeepsOthers.setCell _ _ _
          · exact ⟨by simp, fun k hk _ => Below.heap_setCell W ⟨w.heap.size, 0, none⟩ _ k hk.2.1⟩
          · exact I5.out.set_ 0 _
          · exact I6.out.far (by show w.heap.size + 1 ≠ w.heap.size; omega) _
          · exact I7.out.far (by show w.heap.size + 1 + 1 ≠ w.heap.size; omega) _
          · exact I8.out.setCell (Nat.le_refl _) _
          · simpa using h9
      case done =>
        rintro D W ⟨nc, h5, h6, h7, h8, h9, hn1, hn2, hA⟩ hD hK
        have HV : Hid (advL n R = none) := hid (hA [] (List.append_nil _))
        have f6 := h6.frozen 0
        have f7 := h7.frozen 0
        have p6 := h6.at 0 rfl
        have p7 := h7.at 0 rfl
        have I6 := hid h6
        have I7 := hid h7
        have I8 := hid h8
        clear hA h5 h6 h7 h8
        gi_wp2
        go_wp2_with fail
        have r6 : Blk ((W.setCell ⟨w.heap.size + 1, 0, none⟩ (.int .i64 0)).setCell ⟨w.heap.size + 1 + 1, 0, none⟩ (.bool false)) (w.heap.size + 1) 3 #[.int .i64 0] := (I6.out.set_ 0 _).far (by show w.heap.size + 1 ≠ w.heap.size + 1 + 1; omega) _
        have r7 : Blk ((W.setCell ⟨w.heap.size + 1, 0, none⟩ (.int .i64 0)).setCell ⟨w.heap.size + 1 + 1, 0, none⟩ (.bool false)) (w.heap.size + 1 + 1) 4 #[.bool false] := (I7.out.far (by show w.heap.size + 1 + 1 ≠ w.heap.size + 1; omega) _).set_ 0 _
        have hD2 : ((W.setCell ⟨w.heap.size + 1, 0, none⟩ (.int .i64 0)).setCell ⟨w.heap.size + 1 + 1, 0, none⟩ (.bool false)).heap[D]? = some (.deferred (some [])) :=
          (Below.heap_setCell _ ⟨w.heap.size + 1 + 1, 0, none⟩ _ D (by show D ≠ w.heap.size + 1 + 1; omega)).trans ((Below.heap_setCell W ⟨w.heap.size + 1, 0, none⟩ _ D (by show D ≠ w.heap.size + 1; omega)).trans hK)
        have hb : Below w.heap.size w ((W.setCell ⟨w.heap.size + 1, 0, none⟩ (.int .i64 0)).setCell ⟨w.heap.size + 1 + 1, 0, none⟩ (.bool false)) := (I8.out.setCell (by show w.heap.size ≤ w.heap.size + 1; omega) _).setCell (by show w.heap.size ≤ w.heap.size + 1 + 1; omega) _
        have hg1 := grownBy_putObj' ((W.setCell ⟨w.heap.size + 1, 0, none⟩ (.int .i64 0)).setCell ⟨w.heap.size + 1 + 1, 0, none⟩ (.bool false)) D (.deferred none)
        refine ⟨by simp, .inl ⟨D, _, rfl, run_takeDeferred hD2, ?_⟩⟩
        have k6 := (r6.row hg1 (fun r e => by cases e; exact Or.inl (by omega))).at 0 rfl
        have k7 := (r7.row hg1 (fun r e => by cases e; exact Or.inl (by omega))).at 0 rfl
        exact ⟨.tuple #[.int .i64 0, .bool false], by simp [results, Try.results10, go_sem, k6, k7], 0, false, rfl, Or.inr (Or.inr ⟨by omega, R, HF.out, Or.inr ⟨HV.out, rfl, rfl⟩⟩), hb.grown hg1 (by simp; omega) (fun k e => by cases e; omega)⟩
      case stop =>
        rintro D cc pre W _ ⟨rfl, m, v, h5, h6, h7, h8, h9, hA⟩ hD hK
        have HV := hid hA
        have I6 := hid h6
        have I7 := hid h7
        have I8 := hid h8
        clear hA h5 h6 h7 h8
        gi_wp2
        have hg1 := grownBy_putObj' W D (.deferred none)
        refine ⟨by simp, .inl ⟨D, _, rfl, run_takeDeferred hK, ?_⟩⟩
        have k6 := (I6.out.row hg1 (fun r e => by cases e; exact Or.inl (by omega))).at 0 rfl
        have k7 := (I7.out.row hg1 (fun r e => by cases e; exact Or.inl (by omega))).at 0 rfl
        exact ⟨.tuple #[.int .i64 m, .bool true], by simp [results, Try.results10, go_sem, k6, k7], m, true, rfl, Or.inr (Or.inr ⟨by omega, R, HF.out, Or.inl ⟨HV.out, rfl⟩⟩), I8.out.grown hg1 (by omega) (fun k e => by cases e; omega)⟩
end Go.Proofs.Ythdllghpfniclaa
