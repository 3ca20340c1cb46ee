/-
  The walk of few: it tells whether a calendar has at most 300 holidays and a range at most 400 days. Condition: none but the forms of the arguments.
-/
import Derived.Test.YthkmnoobajaooaaDoorCon
namespace Go.Proofs.YthkmnoobajaooaaDoor
open Go.RowKit Go.Shelf Go.Sort
def fewB (len : Nat) (a b : Int) : Bool := decide (len ≤ 300) && (decide (a < 0) || decide (b < a) || decide (1073741824 < b) || decide (b - a ≤ 576000))
set_option maxHeartbeats 1000000 in
set_option maxRecDepth 100000 in
theorem few_any (O : List Int) (hO : O.length = 14) (A : Option Addr) (len cap : Nat) (w : World) (a b : Int) :
    Calls Tryd.prog 22 #[calV O A len cap, .int .i64 a, .int .i64 b] w fun e w' => e = .returned (.bool (fewB len a b)) ∧ Below w.heap.size w w' := by
  have hs15 : (Tryd.prog.info? 43).map (·.size) = some (calC O A len cap).toArray.size := by rw [calC_size O hO]; exact size43
  have HS := hid hs15
  have hg2 := calC_sl O hO A len cap
  unfold calV fewB
  clear hO hs15
  generalize (calC O A len cap).toArray = cs at *
  have B00 := hid (Blk.new w 43 cs)
  have p14 := B00.out.at 14 hg2
  have HE := hid ((Below.refl w.heap.size w).alloc (Nat.le_refl _) (.cells cs 43))
  clear hg2
  by_cases h1 : len ≤ 300
  · have h1i : (len : Int) ≤ 300 := by omega
    by_cases h2 : a < 0
    · go_enter Tryd.func22, Tryd.ntmps22
      go_wp2_with fail
      go_ret
      exact ⟨ret_bool (by simp; omega), HE.out⟩
    by_cases h3 : b < a
    · go_enter Tryd.func22, Tryd.ntmps22
      go_wp2_with fail
      go_ret
      exact ⟨ret_bool (by simp), HE.out⟩
    by_cases h4 : 1073741824 < b
    · go_enter Tryd.func22, Tryd.ntmps22
      go_wp2_with fail
      go_ret
      exact ⟨ret_bool (by simp), HE.out⟩
    go_enter Tryd.func22, Tryd.ntmps22
    go_wp2_with fail
    go_ret
    exact ⟨ret_bool (by simp; omega), HE.out⟩
  · have h1i : ¬ (len : Int) ≤ 300 := by omega
    go_enter Tryd.func22, Tryd.ntmps22
    go_wp2_with fail
    go_ret
    exact ⟨ret_bool (by simp), HE.out⟩
end Go.Proofs.YthkmnoobajaooaaDoor
