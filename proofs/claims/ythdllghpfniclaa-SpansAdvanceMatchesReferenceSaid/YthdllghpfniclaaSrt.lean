/-
  slices.SortFunc at the closure of spans.Normal: a permutation, sorted by From, at every length.
-/
import Derived.Test.YthdllghpfniclaaShelf
import Derived.Test.YthdllghpfniclaaPlain
namespace Go.Proofs.Ythdllghpfniclaa
open Go.Shelf Go.RowKit Go.Lib Go.Sort
/-- A span's two cells. -/
def encSp (x : Int × Int) : List Value := [.int .i64 x.1, .int .i64 x.2]
set_option maxHeartbeats 1000000 in
theorem closure27 (x y : Int × Int) (W : World) : Calls Try.prog 27 #[.agg #[.int .i64 x.1, .int .i64 x.2], .agg #[.int .i64 y.1, .int .i64 y.2]] W fun e w' => e = .returned (.int .i64 (Lib.compareInt x.1 y.1)) ∧ ∃ q os', w' = grow (W.drewN q) os' := by
  have hcon := fun W' => AnyG.cmp_Compare_int Try.cmpInt x.1 y.1 W'
  change ∀ W', Calls Try.prog 28 _ _ _ at hcon
  generalize Lib.compareInt x.1 y.1 = r at hcon ⊢
  go_enter Try.func27, Try.ntmps27
  go_wp2_with (go_at_call 28; refine (hcon _).mono ?_; rintro e w' ⟨rfl, rfl⟩)
  go_ret
  exact ⟨rfl, 0, _, by rw [alloc_eq_grow, alloc_eq_grow, grow_grow]; rfl⟩
theorem cmpLays27 (blk off size : Nat) (w : World) : CmpLays Try.prog 27 #[] encSp 2 (fun x y => Lib.compareInt x.1 y.1) blk off size w :=
  fun _ _ _ _ x y => closure27 x y _
theorem ltLo (x y : Int × Int) : ltOf (fun x y : Int × Int => Lib.compareInt x.1 y.1) x y = decide (x.1 < y.1) := by
  unfold ltOf Lib.compareInt
  by_cases h1 : x.1 < y.1
  · simp [h1]
  · by_cases h2 : y.1 < x.1 <;> simp [h1, h2]
/-- 'cmp.Compare(a.From, b.From) < 0' is a strict weak order. -/
theorem swoLo : SWO (ltOf fun x y : Int × Int => Lib.compareInt x.1 y.1) where
  irrefl x := by rw [ltLo]; simp
  trans x y z h1 h2 := by rw [ltLo] at *; simp at *; omega
  ntrans x y z h1 h2 := by rw [ltLo] at *; simp at *; omega
set_option maxHeartbeats 1000000 in
theorem sort_any (blk off cap : Nat) (d : Array (Int × Int)) (w : World) (hH : HoldsK encSp 2 w blk off d) (hblk : blk < w.heap.size) (hsz : d.size < 4611686018427387904) :
    Calls Try.prog 26 #[.slice (some ⟨blk, off, none⟩) d.size cap, .func (.func 27) #[] #[]] w fun e w' => e = .returned (.tuple #[]) ∧ ∃ d' n os, PermIn 0 d.size d d' ∧ SortedIn (ltOf fun x y : Int × Int => Lib.compareInt x.1 y.1) 0 d.size d' ∧ w' = sortWorldK encSp 2 w blk off n d' os := by
  have eg : ∀ args w, (callFunc 27 args).run Try.prog w = .ok (.enter 27 args) w := enters_of Try.func27 (by kernel_rfl) rfl
  have hcon := AnyQ.slices_SortFunc Try.sortSpans 2 Try.isAgg31 Try.sizeOf31 encSp (fun _ => rfl) (fun x v hv => by simp [encSp] at hv; rcases hv with rfl | rfl <;> rfl) (fun x y => Lib.compareInt x.1 y.1) swoLo 27 #[] blk off cap d w eg (cmpLays27 blk off d.size w) hH hblk hsz
  change Calls Try.prog 26 _ _ _ at hcon
  exact hcon.mono fun e w' ⟨h1, d', n, os, h2, h3, h4⟩ => ⟨h1, d', n, os, h2, h3, h4⟩
end Go.Proofs.Ythdllghpfniclaa
