/-
  The walk of Open: it answers the joined list of the days' spans, in new memory, or the error. Condition: the holidays lie in memory as a list reads.
-/
import Derived.Test.YthkmnoobajaooaaDoorAft
import Derived.Maps.AppendAt
import Derived.Deep.DeepMust
namespace Go.Proofs.YthkmnoobajaooaaDoor
open Go.RowKit Go.Shelf Go.Sort
/-- The cells of a list of spans. -/
def spC (L : List Sp) : List Value := L.flatMap fun s => [.int .i64 s.1, .int .i64 s.2]
theorem spC_append (L M : List Sp) : spC (L ++ M) = spC L ++ spC M := by unfold spC; rw [List.flatMap_append]
theorem spC_length (L : List Sp) : (spC L).length = L.length * 2 := by
  induction L with
  | nil => rfl
  | cons s L ih => rw [show s :: L = [s] ++ L from rfl, spC_append, List.length_append, ih]; simp [spC]; omega
theorem spC_one (L : List Sp) : ∀ u ∈ spC L, u.oneCell' = true := by
  intro u hu
  unfold spC at hu
  obtain ⟨s, _, hs⟩ := List.mem_flatMap.1 hu
  rcases List.mem_cons.1 hs with rfl | hs
  · rfl
  · rcases List.mem_cons.1 hs with rfl | hs
    · rfl
    · cases hs
theorem spC_get (L : List Sp) (i : Nat) (s : Sp) (h : L[i]? = some s) : (spC L)[2 * i]? = some (.int .i64 s.1) ∧ (spC L)[2 * i + 1]? = some (.int .i64 s.2) := by
  induction L generalizing i with
  | nil => cases h
  | cons t L ih =>
    cases i with
    | zero => injection h with h; subst h; exact ⟨rfl, rfl⟩
    | succ i =>
      have := ih i (by simpa using h)
      rw [show t :: L = [t] ++ L from rfl, spC_append, show 2 * (i + 1) = 2 * i + 2 by omega]
      simpa [spC] using this
/-- A list of spans as it lies in memory. -/
def SpR (w : World) (A : Option Addr) (L : List Sp) : Prop :=
  L ≠ [] → ∃ b off, A = some ⟨b, off, none⟩ ∧ b < w.heap.size ∧ ∀ j u, (spC L)[j]? = some u → w.cell? ⟨b, off + j, none⟩ = some u
theorem SpR.below {w w' : World} {A : Option Addr} {L : List Sp} (h : SpR w A L) (hb : Below w.heap.size w w') : SpR w' A L := fun hne => by
  obtain ⟨b, off, e, hlt, hc⟩ := h hne
  exact ⟨b, off, e, Nat.lt_of_lt_of_le hlt hb.size, fun j u hu => (hb.cell (p := ⟨b, off + j, none⟩) hlt).trans (hc j u hu)⟩
theorem SpR.of_own {w : World} {base : Nat} {A : Option Addr} {n cap : Nat} {L : List Sp} (h : w.ownsRow base 32 2 (.slice A n cap) L.length (spC L)) : n = L.length ∧ SpR w A L := by
  rcases h.2 with ⟨hv, hn⟩ | ⟨g, c, cur, hv, hb, hg, _⟩
  · injection hv with h1 h2 h3
    exact ⟨by omega, fun hne => absurd (List.eq_nil_of_length_eq_zero hn) hne⟩
  · injection hv with h1 h2 h3
    subst h2; subst h1; subst h3
    refine ⟨rfl, fun _ => ⟨g, 0, rfl, ?_, fun j u hu => ?_⟩⟩
    · exact (h.lt g rfl).2
    · have hj : j < (spC L).length := by
        rcases Nat.lt_or_ge j (spC L).length with h' | h'
        · exact h'
        · rw [List.getElem?_eq_none h'] at hu; cases hu
      rw [Nat.zero_add, h.cellAt j (by rw [← spC_length]; exact hj)]; exact hu
theorem info32 : (Tryd.prog.info? 32).map (fun i => (i.zero, i.size, i.bytes)) = some (some (.agg #[.int .i64 0, .int .i64 0]), 2, 16) := by kernel_rfl
theorem joinS_len (L : List Sp) (s : Sp) : (joinS L s).length ≤ L.length + 1 := by
  unfold joinS
  cases h : L.getLast? with
  | none => simp
  | some l => simp only; split <;> simp
theorem joinS_touch (L : List Sp) (p q s1 s2 : Int) (h : q = s1) : joinS (L ++ [(p, q)]) (s1, s2) = L ++ [(p, s2)] := by
  unfold joinS
  simp [h]
theorem joinS_apart (L : List Sp) (p q s1 s2 : Int) (h : q ≠ s1) : joinS (L ++ [(p, q)]) (s1, s2) = L ++ [(p, q)] ++ [(s1, s2)] := by
  unfold joinS
  simp [h]
theorem set_last (L : List Sp) (p q u : Int) : (spC (L ++ [(p, q)])).set (2 * L.length + 1) (.int .i64 u) = spC (L ++ [(p, u)]) := by
  rw [spC_append, spC_append, List.set_append_right _ _ (by rw [spC_length]; omega), spC_length, show 2 * L.length + 1 - L.length * 2 = 1 by omega]
  rfl
theorem cells_new2 (W : World) (q : Nat) (hq : W.heap.size = q) (a b : Value) (t : TypeId) : ∀ (j : Nat) (u : Value), [a, b][j]? = some u → (W.alloc (.cells #[a, b] t)).cell? ((⟨q, 0, none⟩ : Addr).add j) = some u := by
  subst hq
  intro j u hj
  match j, hj with
  | 0, hj => injection hj with hj; subst hj; simp [Addr.add, go_sem]
  | 1, hj => injection hj with hj; subst hj; simp [Addr.add, go_sem]
theorem one2 (a b : Int) : ∀ u ∈ [Value.int .i64 a, Value.int .i64 b], u.oneCell' = true := by
  intro u hu; rcases List.mem_cons.1 hu with rfl | hu
  · rfl
  · rcases List.mem_cons.1 hu with rfl | hu
    · rfl
    · cases hu
set_option maxHeartbeats 1000000 in
/-- The closure of Open: a span is put behind the empty list. -/
theorem cl48_nil (s1 s2 : Int) (gB base : Nat) (W : World) (hB : Blk W gB 45 #[.slice none 0 0]) (hbase : base ≤ W.heap.size + 1) :
    Calls Tryd.prog 48 #[.agg #[.int .i64 s1, .int .i64 s2], .pointer (some ⟨gB, 0, none⟩)] W fun e W' => e = .returned (.bool true) ∧ Exc (fun k => k = gB ∨ base ≤ k) W W' ∧
      ∃ A cap, Blk W' gB 45 #[.slice A 1 cap] ∧ W'.ownsRow base 32 2 (.slice A 1 cap) 1 (spC [(s1, s2)]) := by
  obtain ⟨i0, hi, hz0, hz1, hz2⟩ := info_parts info32
  have hlt := hB.lt
  have c0 := hB.at 0 rfl
  have f0 := hB.frozen 0
  have HB := hid hB
  clear hB
  go_enter Tryd.func48, Tryd.ntmps48
  go_wp2_with fail
  go_quiet (fail)
  go_wp2_with (at_builtin; go_must (refine wpList_append_own_at _ rfl (.tmp 27) (.tmp 29) _ rfl base 32 i0 _ 2 16 Tryd.underlying45 hi hz0 hz1 hz2 rfl (by decide) _ 0 [] rfl (World.ownsRow_nil _ _ _ _) ⟨W.heap.size + 1, 0, none⟩ 1 1 [.int .i64 s1, .int .i64 s2] rfl rfl ?c1 ?c2 ?c3 ?c4 ?c5 ?_))
  case c1 => exact cells_new2 _ _ (by simp [World.drewN]) _ _ _
  case c2 => exact one2 _ _
  case c3 => unfold maxLen; omega
  case c4 => omega
  case c5 => simp; omega
  intro v' w1 hown hgrow _ hat
  have hE1 : Exc (fun k => k = gB ∨ base ≤ k) W w1 := ((((Exc.refl _ W).alloc _).drewN _).alloc _).grown hgrow (fun k e => by simp [Value.ownBlock] at e)
  have hB1 : Blk w1 gB 45 #[.slice none 0 0] := (((HB.out.alloc _).drewN _).alloc _).grown hgrow (by simp [Value.ownBlock])
  obtain ⟨g, cap, rfl⟩ : ∃ g cap, v' = .slice (some ⟨g, 0, none⟩) 1 cap := by
    rcases hown.2 with ⟨_, h⟩ | ⟨g, cap, _, h, _⟩
    · cases h
    · exact ⟨g, cap, h⟩
  have hlt1 := hB1.lt
  have k0 := hB1.at 0 rfl
  have g0 := hB1.frozen 0
  have hgne : g ≠ gB := by
    intro e
    have h1 := hown.lt g rfl
    rcases hat with h | h
    · simp [Value.ownBlock] at h
    · simp [Value.ownBlock] at h; omega
  have HO := hid hown
  have HE := hid hE1
  have HB1 := hid hB1
  clear hown hgrow hat hE1 hB1 c0 f0
  go_wp2_with fail
  go_ret
  refine ⟨rfl, HE.out.setCell (p := ⟨gB, 0, none⟩) (.inl (.inl rfl)) _, some ⟨g, 0, none⟩, cap, HB1.out.set_ 0 _, ?_⟩
  exact HO.out.kept (row := some gB) ⟨rfl, rfl, rfl, by simp [World.setCell], fun k _ hk => Below.heap_setCell _ _ _ _ (fun e => hk (by rw [e]))⟩ (.inr (by simp [Value.ownBlock]; exact hgne))
set_option maxHeartbeats 1000000 in
theorem cl48_touch (s1 s2 p q : Int) (L : List Sp) (gB base g cap : Nat) (W : World) (hB : Blk W gB 45 #[.slice (some ⟨g, 0, none⟩) (L.length + 1) cap]) (hown : W.ownsRow base 32 2 (.slice (some ⟨g, 0, none⟩) (L.length + 1) cap) (L.length + 1) (spC (L ++ [(p, q)])))
    (hlen : L.length < 1000000) (hq : q = s1) :
    Calls Tryd.prog 48 #[.agg #[.int .i64 s1, .int .i64 s2], .pointer (some ⟨gB, 0, none⟩)] W fun e W' => e = .returned (.bool true) ∧ Exc (fun k => k = gB ∨ base ≤ k) W W' ∧
      Blk W' gB 45 #[.slice (some ⟨g, 0, none⟩) (L.length + 1) cap] ∧ W'.ownsRow base 32 2 (.slice (some ⟨g, 0, none⟩) (L.length + 1) cap) (L.length + 1) (spC (L ++ [(p, s2)])) := by
  subst hq
  have hlt := hB.lt
  have c0 := hB.at 0 rfl
  have hg := hown.lt g rfl
  have hgne : gB ≠ g := by
    rcases hown.2 with ⟨h, _⟩ | ⟨g', cap', cur, h, _, hh, _⟩
    · cases h
    · injection h with h1 h2 h3; injection h1 with h1; injection h1 with h1
      subst h1
      exact hB.ne_ (t' := 32) (cs' := cur) hh (by decide)
  have c1 : W.cell? ⟨g, L.length * 2 + 1, none⟩ = some (.int .i64 q) := by
    rw [hown.cellAt _ (by omega), spC_append, List.getElem?_append_right (show (spC L).length ≤ L.length * 2 + 1 from by rw [spC_length]; omega), spC_length, show L.length * 2 + 1 - L.length * 2 = 1 by omega]; rfl
  have f1 := hown.frozenAt (L.length * 2 + 1)
  have HO := hid hown
  have HB := hid hB
  have hpos : decide ((0 : Int) < (L.length : Int) + 1) = true := by simp
  clear hB hown
  go_enter Tryd.func48, Tryd.ntmps48
  go_wp2_with fail
  go_quiet (fail)
  go_wp2_with fail
  go_ret
  have hst := World.ownsRow.stored (w := (W.alloc (.cells #[.int .i64 q, .int .i64 s2] 32)).drewN nq) (HO.out.alloc (.cells #[.int .i64 q, .int .i64 s2] 32)) (2 * L.length + 1) (.int .i64 s2)
  rw [set_last, Nat.mul_comm 2] at hst
  refine ⟨rfl, ?_, ?_, ?_⟩
  · exact (((Exc.refl (fun k => k = gB ∨ base ≤ k) W).alloc _).drewN _).setCell (p := ⟨g, L.length * 2 + 1, none⟩) (.inl (.inr hg.1)) _
  · exact ((HB.out.alloc _).drewN _).far (p := ⟨g, L.length * 2 + 1, none⟩) hgne _
  · exact hst.1
set_option maxHeartbeats 1000000 in
theorem cl48_apart (s1 s2 p q : Int) (L : List Sp) (gB base g cap : Nat) (W : World) (hB : Blk W gB 45 #[.slice (some ⟨g, 0, none⟩) (L.length + 1) cap]) (hown : W.ownsRow base 32 2 (.slice (some ⟨g, 0, none⟩) (L.length + 1) cap) (L.length + 1) (spC (L ++ [(p, q)])))
    (hlen : L.length < 1000000) (hq : q ≠ s1) (hbase : base ≤ W.heap.size + 1) :
    Calls Tryd.prog 48 #[.agg #[.int .i64 s1, .int .i64 s2], .pointer (some ⟨gB, 0, none⟩)] W fun e W' => e = .returned (.bool true) ∧ Exc (fun k => k = gB ∨ base ≤ k) W W' ∧
      ∃ A cap', Blk W' gB 45 #[.slice A (L.length + 2) cap'] ∧ W'.ownsRow base 32 2 (.slice A (L.length + 2) cap') (L.length + 2) (spC (L ++ [(p, q)] ++ [(s1, s2)])) := by
  obtain ⟨i0, hi, hz0, hz1, hz2⟩ := info_parts info32
  have hlt := hB.lt
  have c0 := hB.at 0 rfl
  have f0 := hB.frozen 0
  have hg := hown.lt g rfl
  have hgne : gB ≠ g := by
    rcases hown.2 with ⟨h, _⟩ | ⟨g', cap', cur, h, _, hh, _⟩
    · cases h
    · injection h with h1 h2 h3; injection h1 with h1; injection h1 with h1
      subst h1
      exact hB.ne_ (t' := 32) (cs' := cur) hh (by decide)
  have c1 : W.cell? ⟨g, L.length * 2 + 1, none⟩ = some (.int .i64 q) := by
    rw [hown.cellAt _ (by omega), spC_append, List.getElem?_append_right (show (spC L).length ≤ L.length * 2 + 1 from by rw [spC_length]; omega), spC_length, show L.length * 2 + 1 - L.length * 2 = 1 by omega]; rfl
  have hqb : (q == s1) = false := by simp; exact hq
  have HO := hid hown
  have HB := hid hB
  have hpos : decide ((0 : Int) < (L.length : Int) + 1) = true := by simp
  clear hB hown
  go_enter Tryd.func48, Tryd.ntmps48
  go_wp2_with fail
  go_quiet (fail)
  go_wp2_with (at_builtin; go_must (refine wpList_append_own_at _ rfl (.tmp 27) (.tmp 29) _ rfl base 32 i0 _ 2 16 Tryd.underlying45 hi hz0 hz1 hz2 rfl (by decide) _ (L.length + 1) _ rfl ((HO.out.alloc _).alloc _) ⟨W.heap.size + 1, 0, none⟩ 1 1 [.int .i64 s1, .int .i64 s2] rfl rfl ?c1 ?c2 ?c3 ?c4 ?c5 ?_))
  case c1 => exact cells_new2 _ _ (by simp [World.drewN]) _ _ _
  case c2 => exact one2 _ _
  case c3 => unfold maxLen; omega
  case c4 => omega
  case c5 => simp; omega
  intro v' w1 hown hgrow _ hat
  have hE1 : Exc (fun k => k = gB ∨ base ≤ k) W w1 := ((((Exc.refl _ W).alloc _).drewN _).alloc _).grown hgrow (fun k e => by simp [Value.ownBlock] at e; subst e; exact .inl (.inr hg.1))
  have hB1 : Blk w1 gB 45 #[.slice (some ⟨g, 0, none⟩) (L.length + 1) cap] := (((HB.out.alloc _).drewN _).alloc _).grown hgrow (by simp [Value.ownBlock]; exact hgne)
  obtain ⟨g', cap', rfl⟩ : ∃ g' cap', v' = .slice (some ⟨g', 0, none⟩) (L.length + 2) cap' := by
    rcases hown.2 with ⟨_, h⟩ | ⟨g, cap, _, h, _⟩
    · omega
    · exact ⟨g, cap, h⟩
  have hlt1 := hB1.lt
  have k0 := hB1.at 0 rfl
  have g0 := hB1.frozen 0
  have hgne' : g' ≠ gB := by
    intro e
    rcases hat with h | h
    · simp [Value.ownBlock] at h; omega
    · simp [Value.ownBlock] at h; omega
  have HO1 := hid hown
  have HE := hid hE1
  have HB1 := hid hB1
  clear hown hgrow hat hE1 hB1 c0 f0 c1
  go_wp2_with fail
  go_ret
  refine ⟨rfl, HE.out.setCell (p := ⟨gB, 0, none⟩) (.inl (.inl rfl)) _, some ⟨g', 0, none⟩, cap', HB1.out.set_ 0 _, ?_⟩
  rw [spC_append _ [(s1, s2)]]
  exact HO1.out.kept (row := some gB) ⟨rfl, rfl, rfl, by simp [World.setCell], fun k _ hk => Below.heap_setCell _ _ _ _ (fun e => hk (by rw [e]))⟩ (.inr (by simp [Value.ownBlock]; exact hgne'))

/-- What Open answers: the list and the error. -/
noncomputable def opL (O H : List Int) (a b : Int) : List Sp := open Classical in if rngOk O H a b then joinL (dsp O H a b (a / 1440) (endD (a / 1440) b)) else []
theorem op_ok {O H : List Int} {a b : Int} (h : rngOk O H a b) : opL O H a b = joinL (dsp O H a b (a / 1440) (endD (a / 1440) b)) := by unfold opL; rw [if_pos h]
theorem op_no {O H : List Int} {a b : Int} (h : ¬ rngOk O H a b) : opL O H a b = [] := by unfold opL; rw [if_neg h]
theorem dayS_len (O H : List Int) (a b d : Int) : (dayS O H a b d).length ≤ 1 := by
  unfold dayS; split
  · simp
  · split <;> simp
theorem dsp_len (O H : List Int) (a b x y : Int) (h : x ≤ y) : (dsp O H a b x y).length ≤ (y - x).toNat := by
  have key : ∀ k : Nat, (dsp O H a b x (x + k)).length ≤ k := by
    intro k; induction k with
    | zero => rw [show x + ((0 : Nat) : Int) = x by omega, dsp_nil]; simp
    | succ k ih => rw [show x + ((k + 1 : Nat) : Int) = x + k + 1 by omega, dsp_succ _ _ _ _ _ _ (by omega), List.length_append]; have := dayS_len O H a b (x + k); omega
  have := key (y - x).toNat
  rwa [show x + ((y - x).toNat : Int) = y by omega] at this
theorem joinL_len (l : List Sp) : (joinL l).length ≤ l.length := by
  have : ∀ (l out : List Sp), (l.foldl joinS out).length ≤ out.length + l.length := by
    intro l; induction l with
    | nil => intro out; simp
    | cons s l ih => intro out; have h1 := ih (joinS out s); have h2 := joinS_len out s; simp only [List.foldl_cons, List.length_cons]; omega
  have := this l []
  simpa [joinL] using this
theorem own_below {W W' : World} {base : Nat} {e : TypeId} {size : Nat} {v : Value} {n : Nat} {xs : List Value} (h : W.ownsRow base e size v n xs) (hb : Below W.heap.size W W') : W'.ownsRow base e size v n xs :=
  h.kept (row := none) ⟨hb.os, hb.tape, hb.output, hb.size, fun k hk _ => hb.block k hk⟩ (by
    cases hv : v.ownBlock with
    | none => exact .inl rfl
    | some g => exact .inr (by simp))
/-- What lies in Open's list after the spans of pre. -/
def OpI (gB base : Nat) (pre : List Sp) (W : World) : Prop :=
  (pre = [] ∧ Blk W gB 45 #[.slice none 0 0]) ∨ ∃ L p q g cap, joinL pre = L ++ [(p, q)] ∧ Blk W gB 45 #[.slice (some ⟨g, 0, none⟩) (L.length + 1 : Nat) cap] ∧ W.ownsRow base 32 2 (.slice (some ⟨g, 0, none⟩) (L.length + 1) cap) (L.length + 1) (spC (L ++ [(p, q)]))
theorem OpI.below {gB base : Nat} {pre : List Sp} {W W' : World} (h : OpI gB base pre W) (hb : Below W.heap.size W W') : OpI gB base pre W' := by
  rcases h with ⟨e, h⟩ | ⟨L, p, q, g, cap, e, h, ho⟩
  · exact .inl ⟨e, h.below hb h.lt⟩
  · exact .inr ⟨L, p, q, g, cap, e, h.below hb h.lt, own_below ho hb⟩
theorem own_some {W : World} {base : Nat} {A : Option Addr} {n cap : Nat} {xs : List Value} (h : W.ownsRow base 32 2 (.slice A n cap) n xs) (hn : 0 < n) : ∃ g, A = some ⟨g, 0, none⟩ := by
  rcases h.2 with ⟨hv, h0⟩ | ⟨g, c, cur, hv, _⟩
  · omega
  · injection hv with h1; exact ⟨g, h1⟩
theorem opn_step (gB base : Nat) (pre : List Sp) (s : Sp) (W : World) (h : OpI gB base pre W) (hbase : base ≤ W.heap.size + 1) (hlen : pre.length < 1000000) :
    Calls Tryd.prog 48 (#[.agg #[.int .i64 s.1, .int .i64 s.2]] ++ #[.pointer (some ⟨gB, 0, none⟩)]) W fun e W' => e = .returned (.bool true) ∧ Exc (fun k => k = gB ∨ base ≤ k) W W' ∧ OpI gB base (pre ++ [s]) W' := by
  rcases h with ⟨e, h⟩ | ⟨L, p, q, g, cap, e, h, ho⟩
  · subst e
    refine (cl48_nil s.1 s.2 gB base W h hbase).mono fun e W' h => ?_
    obtain ⟨h1, h2, A, cap, h3, h4⟩ := h
    obtain ⟨g, rfl⟩ := own_some h4 (by omega)
    exact ⟨h1, h2, .inr ⟨[], s.1, s.2, g, cap, rfl, h3, h4⟩⟩
  · have hl : L.length < 1000000 := by have := joinL_len pre; rw [e] at this; simp at this; omega
    by_cases hq : q = s.1
    · refine (cl48_touch s.1 s.2 p q L gB base g cap W h ho hl hq).mono fun e' W' h => ?_
      obtain ⟨h1, h2, h3, h4⟩ := h
      exact ⟨h1, h2, .inr ⟨L, p, s.2, g, cap, by rw [joinL_snoc, e]; exact joinS_touch L p q s.1 s.2 hq, h3, h4⟩⟩
    · refine (cl48_apart s.1 s.2 p q L gB base g cap W h ho hl hq hbase).mono fun e' W' h => ?_
      obtain ⟨h1, h2, A, cap', h3, h4⟩ := h
      obtain ⟨g', rfl⟩ := own_some h4 (by omega)
      have hlen2 : (L ++ [(p, q)]).length + 1 = L.length + 2 := by simp
      exact ⟨h1, h2, .inr ⟨L ++ [(p, q)], s.1, s.2, g', cap', by rw [joinL_snoc, e]; exact joinS_apart L p q s.1 s.2 hq, by rw [hlen2]; exact h3, by rw [hlen2]; exact h4⟩⟩
set_option maxHeartbeats 1000000 in
theorem open_yes (O : List Int) (hO : O.length = 14) (A : Option Addr) (len cap : Nat) (H : List Int) (w : World) (hH : Hol w A len H) (hlen : len < 4611686018427387904) (a b : Int) (hr : rngOk O H a b) :
    Calls Tryd.prog 23 #[calV O A len cap, .int .i64 a, .int .i64 b] w fun e w' => ∃ A' cap', e = .returned (.tuple #[.slice A' (opL O H a b).length cap', .int .i64 0]) ∧ SpR w' A' (opL O H a b) ∧ Below w.heap.size w w' := by
  rw [op_ok hr]
  have ⟨hcal, r1, r2, r3⟩ := hr
  have HR := hid (fun o => ranged_yes O hO A len cap H (w.alloc o) (hH.alloc o) a b hr)
  have HW := hid (fun W (h : Hol W A len H) g => working_any O hO A len cap H W h hlen hcal a b r1 r2 r3 48 #[.pointer (some ⟨g, 0, none⟩)] (enters_of Tryd.func48 (by kernel_rfl) rfl) (fun k => k = g ∨ W.heap.size + 1 ≤ k))
  have HH := hid hH
  have hLen := dsp_len O H a b (a / 1440) (endD (a / 1440) b) (endD_le _ _)
  have hend : (endD (a / 1440) b - a / 1440).toNat ≤ 745700 := by unfold endD; omega
  have hs15 : (Tryd.prog.info? 43).map (·.size) = some (calC O A len cap).toArray.size := by rw [calC_size O hO]; exact size43
  have HS := hid hs15
  unfold calV at *
  clear hO hcal hr hH hs15
  generalize (calC O A len cap).toArray = cs at *
  generalize hL : dsp O H a b (a / 1440) (endD (a / 1440) b) = L at *
  clear hL
  have hLen2 : L.length ≤ 745700 := by omega
  clear hLen hend
  have B00 := hid (Blk.new w 43 cs)
  go_enter Tryd.func23, Tryd.ntmps23
  go_wp2_with (refine wpList_load_row rfl 43 _ rfl w.heap.size rfl 43 cs (0, 0) _ B00.out Tryd.underlying43 rfl HS.out ?_)
  refine (HR.out _).mono ?_
  rintro e w1 ⟨rfl, hb1⟩
  have B0 := (Blk.new w 43 cs).below hb1 (by simp)
  have E1 : Below w.heap.size w w1 := ((Below.refl _ _).alloc (Nat.le_refl _) _).trans (hb1.mono (by simp))
  have hz := hb1.size
  simp at hz
  have HH1 := hid (HH.out.below E1)
  have HE := hid E1
  have HB := hid (B0.alloc (.cells #[.slice none 0 0] 45))
  have hne : 0 < len → ∀ bb off, A = some ⟨bb, off, none⟩ → bb < w.heap.size := by
    intro hl bb off e
    obtain ⟨b', o', e', hb', _⟩ := HH.out.2.2 (by omega)
    rw [e] at e'; injection e' with e'; injection e' with e' _; omega
  clear hb1 B0 E1 HR B00
  go_wp2_with (refine wpList_load_row rfl 43 _ rfl w.heap.size rfl 43 cs (0, 0) _ HB.out Tryd.underlying43 rfl HS.out ?_)
  have HW1 := HW.out _ (HH1.out.alloc (.cells #[.slice none 0 0] 45)) w1.heap.size (by simp) (fun hl bb off e => by have := hne hl bb off e; simp; omega)
    (OpI w1.heap.size (w1.heap.size + 2)) (fun _ _ => False) (fun pre W W' h hb => h.below hb) (.inl ⟨rfl, Blk.new _ _ _⟩)
    (fun pre s post W hL he hI => by
      have hle : pre.length < 1000000 := by have := congrArg List.length hL; simp at this; omega
      refine (opn_step w1.heap.size (w1.heap.size + 2) pre s W hI (by have := he.size; simp at this; omega) hle).mono fun e W' h => ?_
      obtain ⟨h1, h2, h3⟩ := h
      exact ⟨h2.mono (fun k hk => by simp), .inl ⟨h1, h3⟩⟩)
  refine HW1.mono ?_
  rintro e w2 ⟨rfl, hE2, hI2⟩
  replace hI2 : OpI w1.heap.size (w1.heap.size + 2) L w2 := by
    rcases hI2 with h | ⟨_, _, _, _, h⟩
    · exact h
    · exact h.elim
  have HE2 := hid hE2
  have HOUT : Hid (∃ A' cap', Blk w2 w1.heap.size 45 #[.slice A' (joinL L).length cap'] ∧ SpR w2 A' (joinL L)) := hid (by
    rcases hI2 with ⟨e, h⟩ | ⟨M, p, q, g, cap, e, h, ho⟩
    · subst e; exact ⟨none, 0, h, fun h => absurd rfl h⟩
    · refine ⟨some ⟨g, 0, none⟩, cap, ?_, ?_⟩
      · rw [e]; simpa using h
      · rw [e]; exact (SpR.of_own (L := M ++ [(p, q)]) (by simpa using ho)).2)
  obtain ⟨A', cap', hb, hs⟩ := HOUT.out
  have HS2 := hid hs
  have c0 := hb.at 0 rfl
  have BE : Hid (Below w.heap.size w w2) := hid (by
    have hsz := HE.out.size
    exact (HE.out.alloc hsz _).trans (hE2.belowB (by simp; omega) (fun k hk => by simp; omega)))
  clear HOUT hb hs hE2 hI2
  go_wp2_with fail
  exact bodyPost_ret (v := .tuple #[.slice A' (joinL L).length cap', .int .i64 0]) (by simp [results, Tryd.results23, go_sem]) rfl ⟨A', cap', rfl, HS2.out, BE.out⟩
set_option maxHeartbeats 1000000 in
theorem open_no (O : List Int) (hO : O.length = 14) (A : Option Addr) (len cap : Nat) (H : List Int) (w : World) (hH : Hol w A len H) (a b : Int) (hr : ¬ rngOk O H a b) :
    Calls Tryd.prog 23 #[calV O A len cap, .int .i64 a, .int .i64 b] w fun e w' => e = .returned (.tuple #[.slice none 0 0, .int .i64 1]) ∧ Below w.heap.size w w' := by
  have HR := hid (fun o => ranged_no O hO A len cap H (w.alloc o) (hH.alloc o) a b hr)
  have hs15 : (Tryd.prog.info? 43).map (·.size) = some (calC O A len cap).toArray.size := by rw [calC_size O hO]; exact size43
  have HS := hid hs15
  unfold calV at *
  clear hO hr hH hs15
  generalize (calC O A len cap).toArray = cs at *
  have B00 := hid (Blk.new w 43 cs)
  go_enter Tryd.func23, Tryd.ntmps23
  go_wp2_with (refine wpList_load_row rfl 43 _ rfl w.heap.size rfl 43 cs (0, 0) _ B00.out Tryd.underlying43 rfl HS.out ?_)
  refine (HR.out _).mono ?_
  rintro e w1 ⟨rfl, hb1⟩
  have HE := hid (((Below.refl w.heap.size w).alloc (Nat.le_refl _) (.cells cs 43)).trans (hb1.mono (by simp)))
  clear hb1 HR B00
  go_wp2_with fail
  exact bodyPost_ret (v := .tuple #[.slice none 0 0, .int .i64 1]) (by simp [results, Tryd.results23, go_sem]) rfl ⟨rfl, HE.out⟩
noncomputable def opE (O H : List Int) (a b : Int) : Int := open Classical in if rngOk O H a b then 0 else 1
theorem ope_ok {O H : List Int} {a b : Int} (h : rngOk O H a b) : opE O H a b = 0 := by unfold opE; rw [if_pos h]
theorem ope_no {O H : List Int} {a b : Int} (h : ¬ rngOk O H a b) : opE O H a b = 1 := by unfold opE; rw [if_neg h]
theorem open_any (O : List Int) (hO : O.length = 14) (A : Option Addr) (len cap : Nat) (H : List Int) (w : World) (hH : Hol w A len H) (hlen : len < 4611686018427387904) (a b : Int) :
    Calls Tryd.prog 23 #[calV O A len cap, .int .i64 a, .int .i64 b] w fun e w' => ∃ A' cap', e = .returned (.tuple #[.slice A' (opL O H a b).length cap', .int .i64 (opE O H a b)]) ∧ SpR w' A' (opL O H a b) ∧ Below w.heap.size w w' := by
  by_cases hr : rngOk O H a b
  · rw [ope_ok hr]; exact open_yes O hO A len cap H w hH hlen a b hr
  · rw [ope_no hr, op_no hr]
    exact (open_no O hO A len cap H w hH a b hr).mono fun e w' h => ⟨none, 0, h.1, fun hne => absurd rfl hne, h.2⟩
end Go.Proofs.YthkmnoobajaooaaDoor
