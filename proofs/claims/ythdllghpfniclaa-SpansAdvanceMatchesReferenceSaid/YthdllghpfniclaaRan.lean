/-
  A range over an iterator that keeps a state of its own in cells: a law for the caller, at the wide fence. No program in sight.
-/
import Derived.RangeFuncKeeps
import Derived.RangeFuncLeaves
import Derived.WalkKit
namespace Go.Proofs.Ythdllghpfniclaa
open Go.RowKit
/-- What the iterator promises: it hands over xs one by one, turns the blocks of C alone, and keeps the caller's word. -/
def SeqC {α : Type} (n : Nat) (P : Program) (gf : Nat) (lb : Array Value) (encs : α → Array Value) (C : Nat → Prop) (Kp : World → World → Prop) (xs : List α) (w : World) : Prop :=
  ∀ (l : Nat) (J Jx : List α → World → Prop) (W : World), Below w.heap.size w W →
    (∀ pre A B row, J pre A → A.grownBy B row → (∀ r, row = some r → C r) → J pre B) →
    (∀ pre x W1, J pre W1 → (pre ++ [x]) <+: xs → YieldAt Fence.wide (n - 1) P l (encs x) W1 fun e W' =>
      (e = .returned (.bool true) ∧ J (pre ++ [x]) W' ∧ Kp W1 W') ∨ (e = .returned (.bool false) ∧ Jx (pre ++ [x]) W')) →
    J [] W →
    CallsIn Fence.wide n P gf (#[.func (.yield l) #[] #[]] ++ lb) W fun e W' => (∃ v, e = .returned v) ∧ (J xs W' ∨ ∃ pre, pre <+: xs ∧ Jx pre W')
/-- What abides the iterator's steps and the loop's book-keeping beyond B. -/
def Clo (C : Nat → Prop) (B : Nat) (I : World → Prop) : Prop :=
  ∀ A A' row, I A → A.grownBy A' row → (∀ r, row = some r → C r ∨ (B ≤ r ∧ ∃ o : Obj, A.heap[r]? = some o ∧ o.isCells = false)) → I A'
theorem Clo.put {C : Nat → Prop} {B : Nat} {I : World → Prop} (h : Clo C B I) {W : World} {l : Nat} {o : Obj} (o' : Obj) (hs : I W) (hl : W.heap[l]? = some o) (hB : B ≤ l) (ho : o.isCells = false) : I (W.putObj l o') :=
  h W _ (some l) hs (grownBy_putObj' W l o') (fun r e => by cases e; exact Or.inr ⟨hB, o, hl, ho⟩)
def stPost {α : Type} (Kp : World → World → Prop) (I : List α → World → Prop) (Ix : Code → List α → World → Prop) (xs : List α) (W : World) : Exit → Act → World → Prop
  | .normal, _, W' => KeepsOthers W W' ∧ Kp W W' ∧ I xs W'
  | .ret, _, W' => KeepsOthers W W' ∧ Ix .ret xs W'
  | .exit id, _, W' => KeepsOthers W W' ∧ Ix (.exit id) xs W'
  | .goto t, _, W' => KeepsOthers W W' ∧ Ix (.goto t) xs W'
  | .panic _, _, _ => False
  | .outgrown, _, _ => False
theorem range_st {α : Type} {n : Nat} {P : Program} {g : Operand} {ps : Array Tmp} {assign body : Code} {Q : Exit → Act → World → Prop} {a : Act} {w : World}
    {gf : Nat} {lb : Array Value} (hg : a.eval g = .func (.func gf) #[] lb) (eg : ∀ args w, (callFunc gf args).run P w = .ok (.enter gf args) w)
    {encs : α → Array Value} (hps : ∀ x, (encs x).size = ps.size) (C : Nat → Prop) (hC : ∀ k, C k → k < w.heap.size) {Kp : World → World → Prop} {xs : List α} (hseq : SeqC (n - 1) P gf lb encs C Kp xs w)
    (hKt : ∀ {A B D : World}, Kp A B → Kp B D → Kp A D) (hKb : ∀ (W : World) (l : Nat) (o o' : Obj), w.heap.size ≤ l → W.heap[l]? = some o → Kp W (W.putObj l o'))
    (I : List α → World → Prop) (Ix : Code → List α → World → Prop) (Ia : List α → α → Act → World → Prop)
    (hI : ∀ p, Clo C w.heap.size (I p)) (hIx : ∀ c p, Clo C w.heap.size (Ix c p)) (hIa : ∀ p x a, Clo C w.heap.size (Ia p x a)) (h0 : I [] w)
    (hassign : ∀ (l : Nat) (pre : List α) (x : α) (W : World), w.heap.size < l → l < W.heap.size → I pre W → (pre ++ [x]) <+: xs →
      assign.wpIn (Fence.wide.inRound l) (n - 1 - 1) P (Exit.then (fun a₁ W₁ => KeepsOthers W W₁ ∧ Kp W W₁ ∧ Ia pre x a₁ W₁) (fun _ _ _ => False)) { tmps := (ps.zip (encs x)).foldl (fun t (p, v) => t.setIfInBounds p v) a.tmps, defers := [] } W)
    (hbody : ∀ (l : Nat) (pre : List α) (x : α) (a₁ : Act) (W : World), w.heap.size < l → l < W.heap.size → Ia pre x a₁ W → (pre ++ [x]) <+: xs → body.wpIn (Fence.wide.inRound l) (n - 1 - 1) P (stPost Kp I Ix (pre ++ [x]) W) a₁ W)
    (hdone : ∀ (D : Nat) (W : World), I xs W → w.heap.size ≤ D → W.heap[D]? = some (.deferred (some [])) → Q .normal { a with defers := { target := .collected D, args := #[] } :: a.defers } W)
    (hstop : ∀ (D : Nat) (c : Code) (pre : List α) (W : World), pre <+: xs → Ix c pre W → w.heap.size ≤ D → W.heap[D]? = some (.deferred (some [])) → c.wpIn Fence.wide n P Q { a with defers := { target := .collected D, args := #[] } :: a.defers } W) :
    (Code.rangeFunc g ps assign body).wpIn Fence.wide n P Q a w := by
  refine wpIn_rangeFunc ?_
  intro fn hfn
  obtain ⟨rec, hrec⟩ : ∃ rec : LoopState → Option Code → Loop, rec = fun st pe => { state := st, pending := pe, fn, tmps := a.tmps, params := ps, assign, body, defers := w.heap.size } := ⟨_, rfl⟩
  obtain ⟨W1, hW1⟩ : ∃ W1, (w.alloc (.deferred (some []))).alloc (.loop (rec .ready none)) = W1 := ⟨_, rfl⟩
  have hL1 : W1.heap[w.heap.size + 1]? = some (.loop (rec .ready none)) := by
    rw [← hW1]; have := World.alloc_heap_new (w.alloc (.deferred (some []))) (.loop (rec .ready none)); rwa [World.size_alloc] at this
  have hK1 : W1.heap[w.heap.size]? = some (.deferred (some [])) := by
    rw [← hW1]; exact (Below.heap_alloc _ _ _ (by simp)).trans (World.alloc_heap_new w _)
  have hb1 : Below w.heap.size w W1 := by
    rw [← hW1]; exact ((Below.refl _ w).alloc (Nat.le_refl _) _).alloc (by simp) _
  have hI1 : I [] W1 := hI [] w W1 none h0 ⟨hb1.os, hb1.tape, hb1.output, hb1.size, fun k hk _ => hb1.block k hk⟩ (fun r e => by cases e)
  have step : ∀ {A B : World} {row : Option Nat} {k : Nat}, A.grownBy B row → (∀ r, row = some r → C r) → w.heap.size ≤ k → k < A.heap.size → B.heap[k]? = A.heap[k]? := fun {A B row k} hgr hr hk hlt =>
    hgr.block k hlt (fun e => by have := hC k (hr k e.symm); omega)
  refine ⟨w.heap.size + 1, [{ target := .collected w.heap.size, args := #[] }], W1, { target := .fn (.func gf) lb, args := #[.func (.yield (w.heap.size + 1)) #[] #[]] }, W1, gf,
    #[.func (.yield (w.heap.size + 1)) #[] #[]] ++ lb, W1, ?_, ?_, ?_, ?_, (fun h => absurd h (by simp [Fence.wide])), ?_⟩
  · rw [← hW1, hrec]; exact run_enterLoop_outer _ _ _ _ _
  · simp only [resolve, hg]
    simp [go_sem]
  · intro _ _; trivial
  · simp [invoke, go_sem, eg]
  · refine (hseq (w.heap.size + 1)
      (fun pre W => I pre W ∧ W.heap[w.heap.size + 1]? = some (.loop (rec .ready none)) ∧ W.heap[w.heap.size]? = some (.deferred (some [])))
      (fun pre W => ∃ c, Ix c pre W ∧ W.heap[w.heap.size + 1]? = some (.loop (rec .done (some c))) ∧ W.heap[w.heap.size]? = some (.deferred (some [])))
      W1 hb1 ?_ ?_ ⟨hI1, hL1, hK1⟩).mono ?_
    · rintro pre A B row ⟨hi, hl, hk⟩ hgr hr
      exact ⟨hI pre A B row hi hgr (fun r e => Or.inl (hr r e)), (step hgr hr (by omega) (Array.getElem?_eq_some_iff.1 hl).1).trans hl, (step hgr hr (Nat.le_refl _) (Array.getElem?_eq_some_iff.1 hk).1).trans hk⟩
    · -- one round
      rintro pre x W ⟨hi, hl, hk⟩ hpx
      have hlt : w.heap.size + 1 < W.heap.size := (Array.getElem?_eq_some_iff.1 hl).1
      have hy := run_yield (P := P) (args := encs x) hl (by rw [hrec]; exact hps x)
      rw [hrec] at hy
      refine ⟨fn, _, assign, body, hy, roundIn_of_wpIn hfn ?_⟩
      refine wpIn_mono (hassign _ pre x W (Nat.lt_succ_self _) hlt hi hpx) ?_
      rintro e a1 W1 hp
      cases e with
      | normal =>
        obtain ⟨ho1, hkp1, hia⟩ := hp
        have hl1 := ho1.same _ _ hl rfl
        have hk1 := ho1.same _ _ hk rfl
        have hlt1 : w.heap.size + 1 < W1.heap.size := (Array.getElem?_eq_some_iff.1 hl1).1
        refine ⟨_, run_beginRound hl1 (by rw [hrec]), ?_⟩
        have hl2 : (W1.putObj (w.heap.size + 1) (.loop { rec .ready none with state := .busy })).heap[w.heap.size + 1]? = some (.loop { rec .ready none with state := .busy }) := World.putObj_heap_same hlt1
        have hk2 : (W1.putObj (w.heap.size + 1) (.loop { rec .ready none with state := .busy })).heap[w.heap.size]? = some (.deferred (some [])) := (World.putObj_heap_other (by omega)).trans hk1
        have hw2 : Kp W (W1.putObj (w.heap.size + 1) (.loop { rec .ready none with state := .busy })) := hKt hkp1 (hKb _ _ _ _ (by omega) hl1)
        refine wpIn_mono (hbody _ pre x a1 _ (Nat.lt_succ_self _) (by simpa using hlt1) ((hIa pre x a1).put _ hia hl1 (by omega) rfl) hpx) ?_
        have fin : ∀ (jump : Option Code) (W3 : World), KeepsOthers (W1.putObj (w.heap.size + 1) (.loop { rec .ready none with state := .busy })) W3 →
            (Instr.endRound (w.heap.size + 1) jump).run P W3 = .ok (.bool jump.isNone) (W3.putObj (w.heap.size + 1) (.loop (rec (if jump.isNone then .ready else .done) jump))) ∧
            W3.heap[w.heap.size + 1]? = some (.loop { rec .ready none with state := .busy }) ∧
            (W3.putObj (w.heap.size + 1) (.loop (rec (if jump.isNone then .ready else .done) jump))).heap[w.heap.size + 1]? = some (.loop (rec (if jump.isNone then .ready else .done) jump)) ∧
            (W3.putObj (w.heap.size + 1) (.loop (rec (if jump.isNone then .ready else .done) jump))).heap[w.heap.size]? = some (.deferred (some [])) := fun jump W3 hk3 => by
          have hl3 := hk3.same _ _ hl2 rfl
          have := run_endRound (P := P) jump hl3
          rw [hrec] at this ⊢
          exact ⟨this, by rw [hrec] at hl3; exact hl3, World.putObj_heap_same (Array.getElem?_eq_some_iff.1 hl3).1, (World.putObj_heap_other (by omega)).trans (hk3.same _ _ hk2 rfl)⟩
        rintro e a3 W3 hp
        cases e with
        | normal =>
          obtain ⟨hk3, hkp3, hi3⟩ := hp
          obtain ⟨hr, hl3, hl4, hk4⟩ := fin none W3 hk3
          exact ⟨_, _, hr, .inl ⟨rfl, ⟨(hI _).put _ hi3 hl3 (by omega) rfl, hl4, hk4⟩, hKt (hKt hw2 hkp3) (hKb _ _ _ _ (by omega) hl3)⟩⟩
        | ret =>
          obtain ⟨hk3, hi3⟩ := hp
          obtain ⟨hr, hl3, hl4, hk4⟩ := fin (some .ret) W3 hk3
          exact ⟨_, _, hr, .inr ⟨rfl, .ret, (hIx _ _).put _ hi3 hl3 (by omega) rfl, hl4, hk4⟩⟩
        | exit id =>
          obtain ⟨hk3, hi3⟩ := hp
          obtain ⟨hr, hl3, hl4, hk4⟩ := fin (some (.exit id)) W3 hk3
          exact ⟨_, _, hr, .inr ⟨rfl, .exit id, (hIx _ _).put _ hi3 hl3 (by omega) rfl, hl4, hk4⟩⟩
        | goto t =>
          obtain ⟨hk3, hi3⟩ := hp
          obtain ⟨hr, hl3, hl4, hk4⟩ := fin (some (.goto t)) W3 hk3
          exact ⟨_, _, hr, .inr ⟨rfl, .goto t, (hIx _ _).put _ hi3 hl3 (by omega) rfl, hl4, hk4⟩⟩
        | panic ch => exact hp.elim
        | outgrown => exact hp.elim
      | ret => exact hp.elim
      | exit id => exact hp.elim
      | goto t => exact hp.elim
      | panic ch => exact hp.elim
      | outgrown => exact hp.elim
    · -- behind the iterator
      rintro e W2 ⟨⟨v, rfl⟩, (⟨hi, hl, hk⟩ | ⟨pre, hpre, c, hi, hl, hk⟩)⟩
      · exact ⟨none, _, by have := run_endLoop (P := P) hl (by rw [hrec]; simp); rw [hrec] at this; exact this, hdone _ _ ((hI _).put _ hi hl (by omega) rfl) (Nat.le_refl _) ((World.putObj_heap_other (by omega)).trans hk)⟩
      · exact ⟨some c, _, by have := run_endLoop (P := P) hl (by rw [hrec]; simp); rw [hrec] at this; exact this, hstop _ c pre _ hpre ((hIx c _).put _ hi hl (by omega) rfl) (Nat.le_refl _) ((World.putObj_heap_other (by omega)).trans hk)⟩
end Go.Proofs.Ythdllghpfniclaa
