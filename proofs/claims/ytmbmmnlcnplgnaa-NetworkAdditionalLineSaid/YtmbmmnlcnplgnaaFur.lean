/-
  A further line ahead of the given ones: what the append yields, and that it makes no time longer. Conditions: the lines lie in memory as they read.
-/
import Derived.Test.YtmbmmnlcnplgnaaAtt
import Derived.ArgAppend
import Derived.Deep.AppendSrc
namespace Go.Proofs.Ytmbmmnlcnplgnaa
open Go.RowKit
theorem info45 : (Try.prog.info? 45).map (fun i => (i.zero, i.size, i.bytes)) = some (some (.agg #[.int .i64 0, .int .i64 0, .int .i64 0, .int .i64 0, .int .i64 0]), 5, 40) := by kernel_rfl
theorem edgC_len (L : List Edg) : (L.flatMap edgV).length = L.length * 5 := flat_len edgV 5 (fun _ => rfl) L
/-- What is known of the slice that the append yields. -/
def NewE (w : World) (B : Nat) (v : Value) (F : List Edg) : Prop := ∃ (g c : Nat) (cur : Array Value), v = .slice (some ⟨g, 0, none⟩) F.length c ∧ B ≤ g ∧ Blk w g 45 cur ∧ ∀ (j : Nat) (u : Value), (F.flatMap edgV)[j]? = some u → cur[j]? = some u
theorem NewE.below {w w' : World} {B : Nat} {v : Value} {F : List Edg} (h : NewE w B v F) (hb : Below w.heap.size w w') : NewE w' B v F := by
  obtain ⟨g, c, cur, h1, h2, h3, h4⟩ := h
  exact ⟨g, c, cur, h1, h2, h3.below hb h3.lt, h4⟩
/-- An append of given lines onto a slice of one. -/
theorem wp_edges {Q : Exit → Act → World → Prop} {o : Oper} {a : Act} {w : World} {K : Act → World → Prop} {s x : Operand} (ho : o.op = .call { callee := .builtin .append, args := #[s, x], argTypes := #[23, 23] })
    (e : Edg) (E F : List Edg) (hF : e :: E = F) (B g : Nat) (hB : B ≤ g) (hBw : B ≤ w.heap.size) (hs : a.eval s = .slice (some ⟨g, 0, none⟩) 1 1) (hg : Blk w g 45 (edgV e).toArray) (A : Option Addr) (c : Nat) (hx : a.eval x = .slice A E.length c) (hE : EdgR w A E) (hA : A = none → c = 0)
    (hlen : E.length * 40 ≤ 140737488351232)
    (h : ∀ v' w', Below w.heap.size w w' → NewE w' B v' F → K (a.put o.dst v') w') : o.wp Try.prog a w K Q := by
  subst hF
  obtain ⟨i, hi, hz0, hz1, hz2⟩ := info_parts info45
  have hgrow : ∀ ad : Addr, A = some ad → 0 < E.length → o.wp Try.prog a w K Q := fun ad hA' hp => by
    subst hA'
    have hE' := hE
    unfold EdgR CelR at hE'
    obtain ⟨b, off, e1, hb, hc⟩ := hE' (by intro e0; have := edgC_len E; rw [e0] at this; simp at this; omega)
    injection e1 with e1
    subst e1
    obtain ⟨v', w', hrun, h1, h2⟩ := run_append_arg_grows (P := Try.prog) (w := w) 23 o.type 45 i _ 5 40 Try.underlying23 hi hz0 hz1 hz2 rfl (by decide) ⟨g, 0, none⟩ 1 1 (edgV e) rfl
      (fun j u hu => World.news_of_block hg j u (by simpa using hu)) ⟨b, off, none⟩ E.length c (E.flatMap edgV) (edgC_len E) (fun j u hu => by rw [Addr.add_lit]; exact hc j u hu) (by omega) (by unfold maxLen; omega) (by omega)
    obtain ⟨hl, ho2⟩ := h1
    rcases ho2 with ⟨_, q⟩ | ⟨g', c', cur, q1, q2, q3, q4, q5, q6, q7⟩
    · omega
    · subst q1
      unfold Oper.wp
      simp only [execOp, ho, resolve, invoke, builtin, Sem.run_bind, Sem.run_pure, Result.andThen_ok, List.map_toArray, List.map_cons, List.map_nil, hs, hx, hrun]
      refine h _ w' ⟨h2.os, h2.tape, h2.output, h2.size, fun k hk => h2.block k hk (by simp)⟩ ⟨g', c', cur, by rw [List.length_cons, Nat.add_comm], by omega, q3, fun j u hu => ?_⟩
      rw [List.flatMap_cons, ← q7, List.getElem?_take] at hu
      split at hu
      · simpa using hu
      · cases hu
  have hnone : E.length = 0 → (∃ news, Src Try.prog i.size 23 (.slice A E.length c) 0 news w ∧ news = []) → o.wp Try.prog a w K Q := fun h0 ⟨news, hsrc, hn⟩ => by
    subst hn
    have hE0 : E = [] := List.eq_nil_of_length_eq_zero h0
    subst hE0
    have hrun := run_append_room_src (P := Try.prog) w 23 23 o.type 45 i Try.underlying23 hi g 0 1 1 _ 0 [] hsrc (by omega) (by simp) (by simp)
    unfold Oper.wp
    simp only [execOp, ho, resolve, invoke, builtin, Sem.run_bind, Sem.run_pure, Result.andThen_ok, List.map_toArray, List.map_cons, List.map_nil, hs, hx, hrun]
    refine h _ _ ?_ ⟨g, 1, (edgV e).toArray, rfl, hB, ?_, fun j u hu => by simpa using hu⟩
    · exact Below.refl _ _
    · exact hg
  rcases Nat.eq_zero_or_pos E.length with h0 | h0
  · cases A with
    | none =>
      have hc := hA rfl
      subst hc
      exact hnone h0 ⟨[], by rw [h0]; exact Src.ofNil w Try.underlying23 0, rfl⟩
    | some ad => exact hnone h0 ⟨[], by rw [h0]; exact Src.ofSlice w Try.underlying23 ad 0 c [] (by simp) (by simp) (by simp), rfl⟩
  · cases A with
    | none =>
      unfold EdgR CelR at hE
      obtain ⟨b, off, e1, _⟩ := hE (by intro e0; have := edgC_len E; rw [e0] at this; simp at this; omega)
      cases e1
    | some ad => exact hgrow ad rfl h0
/-- What the operations of the literal yield. -/
def PhiE (n0 k c1 B c2 : Nat) (A1 A2 : Option Addr) (e : Edg) (E F : List Edg) : Nat → Value → World → Prop
  | 0, v, _ => v = .pointer (some ⟨n0, 0, none⟩)
  | 1, v, _ => v = .slice A1 k c1
  | 2, v, _ => v = .agg (edgV e).toArray
  | 3, v, w => ∃ g, v = .slice (some ⟨g, 0, none⟩) 1 1 ∧ B ≤ g ∧ Blk w g 45 (edgV e).toArray
  | 4, v, _ => v = .pointer (some ⟨n0, 1, none⟩)
  | 5, v, _ => v = .slice A2 E.length c2
  | 6, v, w => NewE w B v F
  | 7, v, w => ∃ u, v = .agg #[.slice A1 k c1, u] ∧ NewE w B u F
  | 8, v, w => ∃ g, v = .pointer (some ⟨g, 0, none⟩) ∧ Blk w g 25 #[.slice none 0 0, .slice none 0 0] ∧ B ≤ g
  | _, _, _ => True
theorem PhiE.stab {n0 k c1 B c2 : Nat} {A1 A2 : Option Addr} {e : Edg} {E F : List Edg} : ∀ (i j : Nat) v w w', i ≠ j → PhiE n0 k c1 B c2 A1 A2 e E F j v w → (Below w.heap.size w w' ∧ B ≤ w'.heap.size) → PhiE n0 k c1 B c2 A1 A2 e E F j v w' := by
  intro i j v w w' _ h hR
  match j, h with
  | 0, h => exact h
  | 1, h => exact h
  | 2, h => exact h
  | 3, ⟨g, h1, h2, h3⟩ => exact ⟨g, h1, h2, h3.below hR.1 h3.lt⟩
  | 4, h => exact h
  | 5, h => exact h
  | 6, h => exact NewE.below h hR.1
  | 7, ⟨u, h1, h2⟩ => exact ⟨u, h1, h2.below hR.1⟩
  | 8, ⟨g, h1, h2, h3⟩ => exact ⟨g, h1, h2.below hR.1 h2.lt, h3⟩
  | (n + 9), _ => exact trivial
theorem chkE_tail {P : List Plc} {e : Edg} {E : List Edg} (h : chkE P (e :: E) = 0) : chkE P E = 0 := by
  unfold chkE at h ⊢
  split at h
  · omega
  split at h
  · omega
  split at h
  · omega
  rename_i h1 h2 h3
  simp only [List.length_cons] at h1
  rw [if_neg (by omega), if_neg h2, if_neg]
  intro h4
  apply h3
  simp [h4]
theorem further {e : Edg} {E : List Edg} {n s : Nat} {t u : List Int} (h1 : Dst E n s t) (h2 : Dst (e :: E) n s u) :
    (∀ p, p < n → 0 ≤ t.getD p 0 → 0 ≤ u.getD p 0 ∧ u.getD p 0 ≤ t.getD p 0) := fun p hp h0 => by
  obtain ⟨hw, _⟩ := (h1.isd p hp).wk h0
  exact (h2.isd p hp).le (hw.mono fun e' he' => List.mem_cons_of_mem _ he')
end Go.Proofs.Ytmbmmnlcnplgnaa
