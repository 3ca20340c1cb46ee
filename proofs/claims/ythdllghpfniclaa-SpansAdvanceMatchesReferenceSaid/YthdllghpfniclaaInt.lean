/-
  The walks of spans.Intersect and spans.Minus. Conditions: the lists lie in memory as they read, and have at most a hundred thousand spans.
-/
import Derived.Test.YthdllghpfniclaaCmn
import Derived.Test.YthdllghpfniclaaRm
namespace Go.Proofs.Ythdllghpfniclaa
open Go.RowKit
attribute [local go_sem] Oper.semAt_some
theorem push_spIn {F : Fence} {n : Nat} {ops : Array Oper} {rest : List Oper} {o : Oper} {a : Act} {Q : Exit → Act → World → Prop} {w : World} (hgd : o.guard = none) (s x : Operand)
    (ho : o.op = .call { callee := .builtin .append, args := #[s, x], argTypes := #[22, 22] })
    (B : Nat) (v : Value) (X : List Sp) (hs : a.eval s = v) (hown : OwnS w B v X) (p : Nat) (f t : Int) (hx : a.eval x = .slice (some ⟨p, 0, none⟩) 1 1) (hp : Blk w p 31 #[.int .i64 f, .int .i64 t])
    (hlen : X.length ≤ 1000000) (hbase : B ≤ w.heap.size)
    (h : ∀ A' c' w', OwnS w' B (.slice A' (X.length + 1) c') (X ++ [(f, t)]) → w.grownBy w' v.ownBlock → wpListIn F n Try.prog ops Q rest (a.put o.dst (.slice A' (X.length + 1) c')) w') :
    wpListIn F n Try.prog ops Q (o :: rest) a w := by
  obtain ⟨i0, hi3, hz0, hz1, hz2⟩ := info_parts info31
  refine wpListIn_append_own w hgd s x _ ho B 31 i0 _ 2 16 Try.underlying22 hi3 hz0 hz1 hz2 rfl (by decide) v X.length (spC X) hs hown ⟨p, 0, none⟩ 1 1 [.int .i64 f, .int .i64 t] hx rfl (lit_cells w p f t hp)
    (by intro u hu; simp at hu; rcases hu with rfl | rfl <;> rfl) (by unfold maxLen; omega) (by omega) hbase ?_
  intro v' w' h1 h2 _
  have h3 : OwnS w' B v' (X ++ [(f, t)]) := by
    unfold OwnS
    rw [spC_append, List.length_append]
    exact h1
  obtain ⟨A', c', rfl, _⟩ := h3.form
  rw [List.length_append] at h3 ⊢
  exact h A' c' w' h3 h2
theorem OwnS.row {w w' : World} {B : Nat} {v : Value} {X : List Sp} {row : Option Nat} (h : OwnS w B v X) (hg : w.grownBy w' row) (hr : ∀ r, row = some r → r < B ∨ ∃ o : Obj, w.heap[r]? = some o ∧ o.isCells = false) : OwnS w' B v X := by
  refine World.ownsRow.kept h hg ?_
  rcases h.2 with ⟨h1, _⟩ | ⟨g, c, cur, h1, hb, hg, _⟩
  · exact Or.inl (by rw [h1]; rfl)
  · refine Or.inr (fun e => ?_)
    rw [h1] at e
    simp only [Value.ownBlock] at e
    rcases hr g e.symm with h2 | ⟨o, h2, h3⟩
    · omega
    · rw [hg] at h2; cases h2; cases h3
theorem Blk.row {w w' : World} {g : Nat} {t : TypeId} {cs : Array Value} {row : Option Nat} (h : Blk w g t cs) (hg : w.grownBy w' row) (hr : ∀ r, row = some r → r ≠ g ∨ ∃ o : Obj, w.heap[r]? = some o ∧ o.isCells = false) : Blk w' g t cs := by
  refine (hg.block g h.lt (fun e => ?_)).trans h
  rcases hr g e.symm with h2 | ⟨o, h2, h3⟩
  · exact h2 rfl
  · rw [show w.heap[g]? = _ from h] at h2; cases h2; cases h3
theorem keepK_put {K : Nat → Prop} {B : Nat} (hK : ∀ k, K k → k < B) (W : World) (l : Nat) (o o' : Obj) (hl : B ≤ l) (_ : W.heap[l]? = some o) : KeepK K W (W.putObj l o') :=
  ⟨by simp, fun k hk _ => World.putObj_heap_other (by have := hK k hk; omega)⟩
theorem keepK_trans {K : Nat → Prop} {A B C : World} (h : KeepK K A B) (k : KeepK K B C) : KeepK K A C :=
  ⟨Nat.le_trans h.1 k.1, fun i hi hlt => (k.2 i hi (Nat.lt_of_lt_of_le hlt h.1)).trans (h.2 i hi hlt)⟩
/-- What Intersect comes to. -/
def IntC (L M X : List Sp) : Prop := Nrm X ∧ (∀ m, mem X m ↔ 0 ≤ m ∧ m < MX ∧ mem L m ∧ mem M m) ∧ X.length ≤ L.length + M.length
theorem cmnL_len (n : Nat) (a b : List Sp) : (cmnL n a b).length ≤ n := by
  induction n generalizing a b with
  | zero => simp [cmnL]
  | succ n ih =>
    cases a with
    | nil => simp [cmnL]
    | cons s a =>
      cases b with
      | nil => simp [cmnL]
      | cons t b =>
        simp only [cmnL, List.length_append]
        have h1 := ih a (t :: b)
        have h2 := ih (s :: a) b
        split <;> split <;> simp <;> omega
theorem IntC.of {L M X Y : List Sp} (hX : IsN L X) (hY : IsN M Y) (hl : X.length ≤ L.length) (hm : Y.length ≤ M.length) : IntC L M (cmnL (X.length + Y.length) X Y) := by
  obtain ⟨h1, h2⟩ := cmnL_ok (Nat.le_refl _) hX.1 hY.1
  refine ⟨h1.mono (by omega), fun m => ?_, by have := cmnL_len (X.length + Y.length) X Y; omega⟩
  rw [h2, hX.2, hY.2]
  constructor
  · rintro ⟨⟨a, b, c⟩, _, _, d⟩; exact ⟨a, b, c, d⟩
  · rintro ⟨a, b, c, d⟩; exact ⟨⟨a, b, c⟩, a, b, d⟩
theorem SpR.ne_box {w w2 : World} {b off g : Nat} {v : Value} {L : List Sp} (h : SpR w (some ⟨b, off, none⟩) L) (hp : 0 < L.length) (hg : Blk w2 g 22 #[v]) (hv : ∀ n, v ≠ .int .i64 n) (he : Below w2.heap.size w2 w) : b ≠ g := by
  rintro rfl
  obtain ⟨b', off', e, hb, hc⟩ := h.at2 (Below.refl _ _) hp
  injection e with e
  injection e with e1 e2
  subst e1 e2
  obtain ⟨h0, _⟩ := hc 0 _ (List.getElem?_eq_getElem hp)
  have h1 := (hg.below he hg.lt).cell (off + 0 * 2)
  rw [h1] at h0
  rcases Nat.eq_zero_or_pos off with ho | ho
  · subst ho
    injection h0 with h0
    exact hv _ h0
  · rw [Array.getElem?_eq_none (by simp; omega)] at h0
    cases h0
set_option maxHeartbeats 4000000 in
theorem intersect_any (L M : List Sp) (A B : Option Addr) (c d : Nat) (w : World) (hL : SpR w A L) (hM : SpR w B M) (hl : L.length ≤ 400000) (hm : M.length ≤ 400000) :
    Calls Try.prog 18 #[.slice A L.length c, .slice B M.length d] w (RetS (IntC L M) w) := by
  have hb1 : Below w.heap.size w (w.alloc (.cells #[.slice none 0 0] 22)) := (Below.refl _ _).alloc (Nat.le_refl _) _
  obtain ⟨W1, hW1⟩ : ∃ W1, w.alloc (.cells #[.slice none 0 0] 22) = W1 := ⟨_, rfl⟩
  rw [hW1] at hb1
  have b4 : Blk W1 w.heap.size 22 #[.slice none 0 0] := by rw [← hW1]; exact Blk.new _ _ _
  have CA := hid (normal_any L A c W1 (hL.below hb1) (by omega))
  have CB := hid (fun W (h : Below w.heap.size w W) => normal_any M B d W (hM.below h) (by omega))
  have CC := hid (common_any)
  have HW1 := hid hW1
  have HB1 := hid hb1
  have HB4 := hid b4
  clear hL hM hb1 b4 hW1
  refine (callsIn_wide (n := 3)).1 ?_
  refine callsIn_of_wp_marks Try.func18 rfl trivial ?_ rfl
  simp only [Try.ntmps18, List.size_toArray, List.length_cons, List.length_nil, Nat.reduceAdd, Nat.reduceSub, Array.replicate_succ, Array.replicate_zero, List.push_toArray, List.append_toArray, List.nil_append, List.cons_append]
  refine wpIn_wide.2 ?_
  go_upto_region 1 with fail
  rw [HW1.out]
  go_wp2_with fail
  refine CA.out.mono ?_
  rintro e w2 ⟨X, v, rfl, ⟨hX, hXl⟩, ⟨A2, c2, rfl, hRX, hc2⟩, hb2⟩
  have HX := hid (And.intro hX hXl)
  have HRX := hid hRX
  have HB2 := hid hb2
  have HC2 := hid hc2
  clear hX hXl hRX hb2 hc2 CA HW1
  go_wp2_with fail
  refine (CB.out _ (HB1.out.trans (HB2.out.mono HB1.out.size))).mono ?_
  rintro e w3 ⟨Y, v, rfl, ⟨hY, hYl⟩, ⟨A3, c3, rfl, hRY, hc3⟩, hb3⟩
  have HY := hid (And.intro hY hYl)
  have HRY := hid hRY
  have HB3 := hid hb3
  have HC3 := hid hc3
  clear hY hYl hRY hb3 hc3 CB
  go_wp2_with fail
  refine (CC.out A2 A3 c2 c3 _ _ _).mono ?_
  rintro e w4 ⟨rfl, hw4⟩
  have HW4 := hid hw4
  clear hw4 CC
  go_wp2_with fail
  have hs4 : w4.heap.size = w3.heap.size + 2 := by rw [HW4.out]; simp
  have hb4 : Below w3.heap.size w3 w4 := by rw [HW4.out]; exact ((Below.refl _ _).alloc (Nat.le_refl _) _).alloc (by simp) _
  have d3 : Blk w4 w3.heap.size 22 #[.slice A2 X.length c2] := by rw [HW4.out]; exact (Blk.new _ _ _).alloc _
  have d4 : Blk w4 (w3.heap.size + 1) 22 #[.slice A3 Y.length c3] := by rw [HW4.out]; have := Blk.new (w3.alloc (.cells #[.slice A2 X.length c2] 22)) 22 #[.slice A3 Y.length c3]; simpa using this
  have hw1 : w.heap.size < W1.heap.size := HB4.out.lt
  have hz2 := HB2.out.size
  have hz3 := HB3.out.size
  have hB14 : Below W1.heap.size W1 w4 := (HB2.out.trans (HB3.out.mono hz2)).trans (hb4.mono (by omega))
  have hst : StI (fun k => k ≠ w.heap.size ∧ k < w4.heap.size) w3.heap.size (w3.heap.size + 1) w4 A2 c2 X A3 c3 Y := {
    ba := d3
    bb := d4
    ra := fun hp => by
      obtain ⟨b, off, e, hb, hc⟩ := HRX.out.at2 (HB3.out.trans (hb4.mono hz3)) hp
      subst e
      exact ⟨b, off, rfl, ⟨⟨SpR.ne_box HRX.out hp HB4.out (fun n h => by cases h) HB2.out, by omega⟩, by omega, by omega⟩, by omega, hc⟩
    rb := fun hp => by
      obtain ⟨b, off, e, hb, hc⟩ := HRY.out.at2 hb4 hp
      subst e
      exact ⟨b, off, rfl, ⟨⟨SpR.ne_box HRY.out hp HB4.out (fun n h => by cases h) (HB2.out.trans (HB3.out.mono hz2)), by omega⟩, by omega, by omega⟩, by omega, hc⟩
    la := HC2.out.1
    lb := HC3.out.1 }
  have hseq := common_seq 2 (fun k => k ≠ w.heap.size ∧ k < w4.heap.size) X Y A2 A3 c2 c3 w3.heap.size (w3.heap.size + 1) w4 hst (by omega) ⟨by omega, by omega⟩ ⟨by omega, by omega⟩
  have HN := hid (IntC.of HX.out.1 HY.out.1 HX.out.2 HY.out.2)
  obtain ⟨R, hR⟩ : ∃ R, cmnL (X.length + Y.length) X Y = R := ⟨_, rfl⟩
  rw [hR] at hseq HN
  have hRl : R.length ≤ 800000 := by have := HN.out.2.2; omega
  have HBw : Hid (Below w.heap.size w w4) := hid (HB1.out.trans (hB14.mono HB1.out.size))
  have h44 : Blk w4 w.heap.size 22 #[.slice none 0 0] := HB4.out.below hB14 HB4.out.lt
  have HSQ := hid hseq
  have H44 := hid h44
  have hs5 : w3.heap.size + 2 ≤ w4.heap.size := by omega
  clear hs4 hst d3 d4 hR hseq h44 HC2 HC3 HX HY HRX HRY HB2 HB3 HB4 HB1 hB14 hb4 HW4
  refine (wpIn_wide (n := 3)).1 ?_
  refine range_st (gf := 31) (lb := #[.pointer (some ⟨w3.heap.size, 0, none⟩), .pointer (some ⟨w3.heap.size + 1, 0, none⟩)]) rfl (enters_of Try.func31 (by kernel_rfl) rfl) (fun _ => rfl)
    (fun k => k = w3.heap.size ∨ k = w3.heap.size + 1) (fun k hk => by omega) HSQ.out keepK_trans (keepK_put (fun k hk => hk.2))
    (fun pre W => ∃ v, Blk W w.heap.size 22 #[v] ∧ OwnS W w4.heap.size v pre ∧ Below w.heap.size w W ∧ w4.heap.size ≤ W.heap.size)
    (fun _ _ _ => False)
    (fun pre x a W => ∃ v Bx, Blk W w.heap.size 22 #[v] ∧ OwnS W w4.heap.size v pre ∧ Below w.heap.size w W ∧ w4.heap.size ≤ Bx ∧ Blk W Bx 31 #[.int .i64 x.1, .int .i64 x.2] ∧
      a = { tmps := #[.slice A L.length c, .slice B M.length d, undef, undef, .pointer (some ⟨w.heap.size, 0, none⟩), .pointer (some ⟨Bx, 0, none⟩), .slice A L.length c, .slice A2 X.length c2, .slice B M.length d, .slice A3 Y.length c3,
        .func (.func 31) #[] #[.pointer (some ⟨w3.heap.size, 0, none⟩), .pointer (some ⟨w3.heap.size + 1, 0, none⟩)], .agg #[.int .i64 x.1, .int .i64 x.2], undef, undef, undef, undef, undef], defers := [] })
    ?cI (fun _ _ _ _ _ h _ _ => h) ?cA ?h0 ?assign ?body ?done (fun _ _ _ _ _ h => h.elim)
  case cI =>
    rintro pre W W' row ⟨v, h1, h2, h3, h4⟩ hg hr
    refine ⟨v, h1.row hg (fun r e => ?_), h2.row hg (fun r e => ?_), h3.grown hg (by omega) (fun r e => ?_), Nat.le_trans h4 hg.size⟩
    · rcases hr r e with h | ⟨h, _⟩
      · exact Or.inl (by omega)
      · exact Or.inl (by omega)
    · rcases hr r e with h | ⟨_, h⟩
      · exact Or.inl (by omega)
      · exact Or.inr h
    · rcases hr r e with h | ⟨h, _⟩ <;> omega
  case cA =>
    rintro pre x a W W' row ⟨v, Bx, h1, h2, h3, h4, h5, h6⟩ hg hr
    have hlt := h5.lt
    refine ⟨v, Bx, h1.row hg (fun r e => ?_), h2.row hg (fun r e => ?_), h3.grown hg (by omega) (fun r e => ?_), h4, h5.row hg (fun r e => ?_), h6⟩
    · rcases hr r e with h | ⟨h, _⟩
      · exact Or.inl (by omega)
      · exact Or.inl (by omega)
    · rcases hr r e with h | ⟨_, h⟩
      · exact Or.inl (by omega)
      · exact Or.inr h
    · rcases hr r e with h | ⟨h, _⟩ <;> omega
    · rcases hr r e with h | ⟨_, h⟩
      · exact Or.inl (by omega)
      · exact Or.inr h
  case h0 => exact ⟨_, H44.out, OwnS.nil _ _, HBw.out, Nat.le_refl _⟩
  case assign =>
    rintro l pre x W _ _ ⟨v, h1, h2, h3, h4⟩ _
    gi_wp2
    refine ⟨KeepsOthers.alloc _ _, KeepK.of ((Below.refl _ _).alloc (Nat.le_refl _) _), v, W.heap.size, h1.alloc _, h2.keep ((Below.refl _ _).alloc (Nat.le_refl _) _), h3.alloc (by omega) _, h4, Blk.new _ _ _, rfl⟩
  case body =>
    rintro l pre x a1 W _ _ ⟨v, Bx, h1, h2, h3, h4, h5, rfl⟩ hpx
    obtain ⟨A9, c9, rfl, _⟩ := h2.form
    have hpl : pre.length ≤ 800000 := by have := hpx.length_le; simp at this; omega
    have hxl := h5.lt
    have p0 := h1.at 0 rfl
    have q0 := h5.at 0 rfl
    have q1 := h5.at 1 rfl
    have H1 := hid h1
    have H2 := hid h2
    have H3 := hid h3
    clear h1 h2 h3 h5 hpx
    obtain ⟨f, t⟩ := x
    simp only at q0 q1
    gi_wp2_with (gi_at_builtin; refine push_spIn rfl (.tmp 12) (.tmp 14) rfl w4.heap.size _ pre rfl (H2.out.keep ((Below.refl _ _).alloc (Nat.le_refl _) _)) W.heap.size f t rfl (Blk.new _ _ _) (by omega) (by simp; omega) ?_)
    intro A' c' w5 hown hgrow
    have ho1 := H2.out.keep ((Below.refl W.heap.size W).alloc (Nat.le_refl _) (.cells #[.int .i64 f, .int .i64 t] 31))
    have hlo : ∀ g, (Value.slice A9 pre.length c9).ownBlock = some g → w4.heap.size ≤ g := fun g e => (World.ownsRow.lt H2.out g e).1
    have hb5 := H1.out.alloc (.cells #[.int .i64 f, .int .i64 t] 31)
    have hb5 : Blk w5 w.heap.size 22 #[.slice A9 pre.length c9] := hb5.grown hgrow (fun e => by have := hlo _ e.symm; omega)
    have hsz5 : W.heap.size ≤ w5.heap.size := by have := hgrow.size; simp at this; omega
    have hko : KeepsOthers W w5 := (KeepsOthers.alloc W _).trans (KeepsOthers.of_grownBy hgrow (fun j o e ho => by
      rcases ho1.2 with ⟨h, _⟩ | ⟨g, cc, cur, h, _, hg, _⟩
      · rw [h] at e; simp [Value.ownBlock] at e
      · rw [h] at e; simp [Value.ownBlock] at e
        subst e
        rw [hg] at ho; cases ho; rfl))
    have hkk : ∀ k, k < w4.heap.size → w5.heap[k]? = W.heap[k]? := fun k hk => (hgrow.block k (by simp; omega) (fun e => by have := hlo _ e.symm; omega)).trans (Below.heap_alloc W _ k (by omega))
    have hbw5 : Below w.heap.size w w5 := (H3.out.alloc (by omega) _).grown hgrow (by simp; omega) (fun k e => by have := hlo k e; omega)
    have p0 := hb5.at 0 rfl
    have p1 := hb5.frozen 0
    have HKO := hid hko
    have HKK := hid hkk
    have HB5 := hid hb5
    have HBW := hid hbw5
    have HOW := hid hown
    clear hown hgrow ho1 hlo hb5 hko hkk hbw5 H1 H2 H3 q0 q1
    gi_wp2
    refine ⟨HKO.out.trans (KeepsOthers.setCell _ _ _), ⟨by simpa using hsz5, fun k hk _ => ?_⟩, _, HB5.out.set_ 0 _, ?_, HBW.out.setCell (Nat.le_refl _) _, by simp; omega⟩
    · exact (Below.heap_setCell w5 ⟨w.heap.size, 0, none⟩ _ k hk.1).trans (HKK.out k hk.2)
    · exact HOW.out.row (grown_set w5 w.heap.size _) (fun r e => by cases e; exact Or.inl (by omega))
  case done =>
    rintro D W ⟨v, h1, h2, h3, h4⟩ hD hK
    obtain ⟨A9, c9, rfl, h9⟩ := h2.form
    have p0 := h1.at 0 rfl
    have p1 := h1.frozen 0
    have H2 := hid h2
    have H3 := hid h3
    have H9 := hid h9
    clear h2 h3 h9
    gi_wp2
    go_wp2_with fail
    have hD2 : (W.setCell ⟨w.heap.size, 0, none⟩ (.slice A9 R.length c9)).heap[D]? = some (.deferred (some [])) := (Below.heap_setCell W ⟨w.heap.size, 0, none⟩ _ D (by show D ≠ w.heap.size; omega)).trans hK
    refine ⟨by simp, .inl ⟨D, _, rfl, run_takeDeferred hD2, ?_⟩⟩
    have hg1 := grownBy_putObj' (W.setCell ⟨w.heap.size, 0, none⟩ (.slice A9 R.length c9)) D (.deferred none)
    have ho2 := (H2.out.row (grown_set W w.heap.size (.slice A9 R.length c9)) (fun r e => by cases e; exact Or.inl (by omega))).row hg1 (fun r e => by cases e; exact Or.inr ⟨_, hD2, rfl⟩)
    have hb2 := (H3.out.setCell (p := ⟨w.heap.size, 0, none⟩) (Nat.le_refl _) (.slice A9 R.length c9)).grown hg1 (by simp; omega) (fun k e => by cases e; omega)
    have hb4 : Blk ((W.setCell ⟨w.heap.size, 0, none⟩ (.slice A9 R.length c9)).putObj D (.deferred none)) w.heap.size 22 #[.slice A9 R.length c9] := (h1.set_ 0 (.slice A9 R.length c9)).row hg1 (fun r e => by cases e; exact Or.inl (by omega))
    obtain ⟨A8, c8, e8, h8⟩ := ho2.form
    have k4 := hb4.at 0 rfl
    refine ⟨.slice A9 R.length c9, by simp [results, Try.results18, go_sem, k4], R, _, rfl, HN.out, ⟨A8, c8, e8, h8⟩, hb2⟩
/-- What Minus comes to. -/
def MinC (L M X : List Sp) : Prop := Nrm X ∧ (∀ m, mem X m ↔ 0 ≤ m ∧ m < MX ∧ mem L m ∧ ¬ mem M m) ∧ X.length ≤ L.length + M.length + 1
set_option maxHeartbeats 1000000 in
theorem minus_any (L M : List Sp) (A B : Option Addr) (c d : Nat) (w : World) (hL : SpR w A L) (hM : SpR w B M) (hl : L.length ≤ 300000) (hm : M.length ≤ 300000) :
    Calls Try.prog 19 #[.slice A L.length c, .slice B M.length d] w (RetS (MinC L M) w) := by
  have CN := hid (normal_any M B d w hM (by omega))
  have HL := hid hL
  clear hL hM
  go_enter Try.func19, Try.ntmps19
  go_wp2_with fail
  refine CN.out.mono ?_
  rintro e w1 ⟨Y, v, rfl, ⟨hY, hYl⟩, ⟨A1, c1, rfl, hR, _⟩, hb⟩
  have CR := hid (rest_any Y A1 c1 w1 hR (by omega))
  have HB := hid hb
  have HY := hid (And.intro hY hYl)
  clear hY hYl hR hb CN
  go_wp2_with fail
  refine CR.out.mono ?_
  rintro e w2 ⟨Z, v, rfl, hZ, ⟨A2, c2, rfl, hR, _⟩, hb⟩
  have hZl : Z.length ≤ M.length + 1 := by rw [hZ]; have := rstL_len Y 0; have := HY.out.2; omega
  have CI := hid (intersect_any L Z A A2 c c2 w2 (HL.out.below (HB.out.trans (hb.mono HB.out.size))) hR (by omega) (by omega))
  have HB2 := hid (HB.out.trans (hb.mono HB.out.size))
  have HZ := hid hZ
  have HZL := hid hZl
  clear hZ hR hb CR hZl
  go_wp2_with fail
  refine CI.out.mono ?_
  rintro e w3 ⟨X, v, rfl, ⟨h1, h2, h3⟩, ⟨A3, c3, rfl, hR⟩, hb⟩
  have HF : Hid (MinC L M X) := hid (by
    refine ⟨h1, fun m => ?_, by have := HZL.out; omega⟩
    have hr := (rstL_ok (l := Y) (f := 0) (HY.out.1.1)).2 m
    rw [h2, HZ.out, hr, HY.out.1.2]
    constructor
    · rintro ⟨a, b, c, _, _, e⟩; exact ⟨a, b, c, fun h => e ⟨a, b, h⟩⟩
    · rintro ⟨a, b, c, e⟩; exact ⟨a, b, c, a, b, fun h => e h.2.2⟩)
  have HR := hid hR
  have HB3 := hid (HB2.out.trans (hb.mono HB2.out.size))
  clear h1 h2 h3 hR hb CI
  go_wp2_with fail
  go_ret
  exact ⟨X, _, rfl, HF.out, ⟨A3, c3, rfl, HR.out⟩, HB3.out⟩
end Go.Proofs.Ythdllghpfniclaa
