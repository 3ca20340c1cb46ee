/-
  A frame of 121 slots, written out; marks among the deferred calls. No program in sight.
-/
import Derived.Test.YtpgcfeamlkdmpaaScp
import Derived.RangeFuncLeaves
import Derived.RangeFuncRecord
import Derived.RangeFuncKeeps
namespace Go.Proofs.Ytpgcfeamlkdmpaa
open Go.RowKit
theorem arr_list (A : Array Value) (n : Nat) (h : A.size = n) : A = ((List.range n).map fun i => A.getD i undef).toArray := by
  subst h
  apply Array.ext
  · simp
  · intro i h1 h2
    simp [h1]
set_option maxRecDepth 100000 in
theorem lit121 (a : Act) (h : a.tmps.size = 121) : a = ⟨#[a.tmps.getD 0 undef, a.tmps.getD 1 undef, a.tmps.getD 2 undef, a.tmps.getD 3 undef, a.tmps.getD 4 undef, a.tmps.getD 5 undef, a.tmps.getD 6 undef, a.tmps.getD 7 undef, a.tmps.getD 8 undef, a.tmps.getD 9 undef, a.tmps.getD 10 undef, a.tmps.getD 11 undef, a.tmps.getD 12 undef, a.tmps.getD 13 undef, a.tmps.getD 14 undef, a.tmps.getD 15 undef, a.tmps.getD 16 undef, a.tmps.getD 17 undef, a.tmps.getD 18 undef, a.tmps.getD 19 undef, a.tmps.getD 20 undef, a.tmps.getD 21 undef, a.tmps.getD 22 undef, a.tmps.getD 23 undef, a.tmps.getD 24 undef, a.tmps.getD 25 undef, a.tmps.getD 26 undef, a.tmps.getD 27 undef, a.tmps.getD 28 undef, a.tmps.getD 29 undef, a.tmps.getD 30 undef, a.tmps.getD 31 undef, a.tmps.getD 32 undef, a.tmps.getD 33 undef, a.tmps.getD 34 undef, a.tmps.getD 35 undef, a.tmps.getD 36 undef, a.tmps.getD 37 undef, a.tmps.getD 38 undef, a.tmps.getD 39 undef, a.tmps.getD 40 undef, a.tmps.getD 41 undef, a.tmps.getD 42 undef, a.tmps.getD 43 undef, a.tmps.getD 44 undef, a.tmps.getD 45 undef, a.tmps.getD 46 undef, a.tmps.getD 47 undef, a.tmps.getD 48 undef, a.tmps.getD 49 undef, a.tmps.getD 50 undef, a.tmps.getD 51 undef, a.tmps.getD 52 undef, a.tmps.getD 53 undef, a.tmps.getD 54 undef, a.tmps.getD 55 undef, a.tmps.getD 56 undef, a.tmps.getD 57 undef, a.tmps.getD 58 undef, a.tmps.getD 59 undef, a.tmps.getD 60 undef, a.tmps.getD 61 undef, a.tmps.getD 62 undef, a.tmps.getD 63 undef, a.tmps.getD 64 undef, a.tmps.getD 65 undef, a.tmps.getD 66 undef, a.tmps.getD 67 undef, a.tmps.getD 68 undef, a.tmps.getD 69 undef, a.tmps.getD 70 undef, a.tmps.getD 71 undef, a.tmps.getD 72 undef, a.tmps.getD 73 undef, a.tmps.getD 74 undef, a.tmps.getD 75 undef, a.tmps.getD 76 undef, a.tmps.getD 77 undef, a.tmps.getD 78 undef, a.tmps.getD 79 undef, a.tmps.getD 80 undef, a.tmps.getD 81 undef, a.tmps.getD 82 undef, a.tmps.getD 83 undef, a.tmps.getD 84 undef, a.tmps.getD 85 undef, a.tmps.getD 86 undef, a.tmps.getD 87 undef, a.tmps.getD 88 undef, a.tmps.getD 89 undef, a.tmps.getD 90 undef, a.tmps.getD 91 undef, a.tmps.getD 92 undef, a.tmps.getD 93 undef, a.tmps.getD 94 undef, a.tmps.getD 95 undef, a.tmps.getD 96 undef, a.tmps.getD 97 undef, a.tmps.getD 98 undef, a.tmps.getD 99 undef, a.tmps.getD 100 undef, a.tmps.getD 101 undef, a.tmps.getD 102 undef, a.tmps.getD 103 undef, a.tmps.getD 104 undef, a.tmps.getD 105 undef, a.tmps.getD 106 undef, a.tmps.getD 107 undef, a.tmps.getD 108 undef, a.tmps.getD 109 undef, a.tmps.getD 110 undef, a.tmps.getD 111 undef, a.tmps.getD 112 undef, a.tmps.getD 113 undef, a.tmps.getD 114 undef, a.tmps.getD 115 undef, a.tmps.getD 116 undef, a.tmps.getD 117 undef, a.tmps.getD 118 undef, a.tmps.getD 119 undef, a.tmps.getD 120 undef], a.defers⟩ := by
  have e := arr_list a.tmps 121 h
  cases a with
  | mk ts ds =>
    have e : ts = ((List.range 121).map fun i => ts.getD i undef).toArray := e
    exact congrArg (fun q => Act.mk q ds) e
/-- The marks that loops over functions leave among the deferred calls. -/
def marksD (Ds : List Nat) : List Deferred := Ds.map fun D => { target := .collected D, args := #[] }
structure Marks (W : World) (lo : Nat) (Ds : List Nat) : Prop where
  nd : Ds.Nodup
  at_ : ∀ D ∈ Ds, lo ≤ D ∧ W.heap[D]? = some (.deferred (some []))
theorem Marks.nil (W : World) (lo : Nat) : Marks W lo [] := ⟨List.nodup_nil, fun _ h => absurd h (by simp)⟩
theorem Marks.cons {W : World} {lo : Nat} {Ds : List Nat} {D : Nat} (h : Marks W lo Ds) (hD : W.heap[D]? = some (.deferred (some []))) (hlo : lo ≤ D) (hn : D ∉ Ds) : Marks W lo (D :: Ds) :=
  ⟨List.nodup_cons.2 ⟨hn, h.nd⟩, fun E hE => by
    rcases List.mem_cons.1 hE with e | e
    · subst e; exact ⟨hlo, hD⟩
    · exact h.at_ E e⟩
theorem Marks.of_same {W W' : World} {lo : Nat} {Ds : List Nat} (h : Marks W lo Ds) (hs : ∀ (D : Nat) (o : Obj), W.heap[D]? = some o → o.isCells = false → W'.heap[D]? = some o) : Marks W' lo Ds :=
  ⟨h.nd, fun D hD => ⟨(h.at_ D hD).1, hs D _ (h.at_ D hD).2 rfl⟩⟩
/-- A function leaves past its marks: each is taken, and hands over nothing. -/
theorem leaves_marks {F : Fence} {n : Nat} {P : Program} {fn : Func} {tmps : Array Value} {R : Ending → World → Prop} : ∀ (Ds : List Nat) (W : World) (lo : Nat), Marks W lo Ds →
    (∀ W', W.heap.size = W'.heap.size → W'.os = W.os → W'.tape = W.tape → W'.output = W.output → (∀ k, k ∉ Ds → W'.heap[k]? = W.heap[k]?) → LeavesInM F n P fn tmps R [] .returning W') →
    LeavesInM F n P fn tmps R (marksD Ds) .returning W := by
  intro Ds
  induction Ds with
  | nil => intro W lo _ h; exact h W rfl rfl rfl rfl (fun _ _ => rfl)
  | cons D Ds ih =>
    intro W lo hM h
    have hD := (hM.at_ D (by simp)).2
    have hDn : D ∉ Ds := (List.nodup_cons.1 hM.nd).1
    have hlt : D < W.heap.size := (Array.getElem?_eq_some_iff.1 hD).1
    refine ⟨by simp, .inl ⟨D, _, rfl, run_takeDeferred hD, ?_⟩⟩
    refine ih (W.putObj D (.deferred none)) lo ⟨(List.nodup_cons.1 hM.nd).2, fun E hE => ⟨(hM.at_ E (by simp [hE])).1, ?_⟩⟩ ?_
    · have hne : E ≠ D := fun e => hDn (e ▸ hE)
      rw [World.putObj_heap_other hne]
      exact (hM.at_ E (by simp [hE])).2
    · intro W' h1 h2 h3 h4 h5
      refine h W' (by rw [← h1]; simp [World.putObj]) (h2.trans rfl) (h3.trans rfl) (h4.trans rfl) (fun k hk => ?_)
      rw [h5 k (fun hh => hk (by simp [hh]))]
      exact World.putObj_heap_other (fun e => hk (by simp [e]))
end Go.Proofs.Ytpgcfeamlkdmpaa
