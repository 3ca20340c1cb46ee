/-
  The walk of the law's office: a calendar with one span from Monday to Friday. No condition.
-/
import Derived.Test.YthkmnoobajaooaaDoorAft
namespace Go.Proofs.YthkmnoobajaooaaDoor
open Go.RowKit Go.Shelf Go.Sort
def offO (i : Nat) : List Int := (List.range 14).map fun j => if j / 2 < i then (if j % 2 = 0 then 480 else 960) else 0
set_option maxHeartbeats 2000000 in
set_option maxRecDepth 100000 in
theorem office_any (w : World) : Calls Tryd.prog 39 #[.int .i64 480, .int .i64 960] w fun e w' => e = .returned (calV (offO 5) none 0 0) ∧ Below w.heap.size w w' := by
  go_enter Tryd.func39, Tryd.ntmps39
  go_wp2_with fail
  go_loopw [6] (fun s6 wr => ∃ i : Nat, i ≤ 5 ∧ s6 = .int .i64 i ∧ Blk wr w.heap.size 43 #[.int .i64 0, .int .i64 0, .int .i64 0, .int .i64 0, .int .i64 0, .int .i64 0, .int .i64 0, .int .i64 0, .int .i64 0, .int .i64 0, .int .i64 0, .int .i64 0, .int .i64 0, .int .i64 0, .slice none 0 0] ∧ Blk wr (w.heap.size + 1) 43 (calC (offO i) none 0 0).toArray ∧ Below w.heap.size w wr) (fun s6 _ => 5 - (intOf s6).toNat)
  case atStart =>
    refine ⟨0, by omega, rfl, (Blk.new _ _ _).alloc _, Blk.of_size _ (by simp) _ _, ((Below.refl _ _).alloc (Nat.le_refl _) _).alloc (by simp) _⟩
  case round =>
    obtain ⟨i, hi, rfl, hB0, hB1, hE⟩ := hrel
    have HB0 := hid hB0
    have HE := hid hE
    have hl0 := hB0.lt
    have hl1 := hB1.lt
    clear hB0 hE
    rcases (by omega : i = 0 ∨ i = 1 ∨ i = 2 ∨ i = 3 ∨ i = 4 ∨ i = 5) with rfl | rfl | rfl | rfl | rfl | rfl
    · have HB1 := hid hB1
      have k0 := hB1.at 0 rfl
      have k1 := hB1.at 1 rfl
      have f0 := hB1.frozen 0
      have f1 := hB1.frozen 1
      clear hB1
      go_wp2_with fail
      go_roundw
      case rel => exact ⟨1, by omega, by go_num, (HB0.out.far (by simp) _).far (by simp) _, (HB1.out.set_ 0 _).set_ 1 _, (HE.out.setCell (p := ⟨w.heap.size + 1, 0, none⟩) (by simp) _).setCell (p := ⟨w.heap.size + 1, 1, none⟩) (by simp) _⟩
      case measure => simp [intOf]
    · have HB1 := hid hB1
      have k0 := hB1.at 2 rfl
      have k1 := hB1.at 3 rfl
      have f0 := hB1.frozen 2
      have f1 := hB1.frozen 3
      clear hB1
      go_wp2_with fail
      go_roundw
      case rel => exact ⟨2, by omega, by go_num, (HB0.out.far (by simp) _).far (by simp) _, (HB1.out.set_ 2 _).set_ 3 _, (HE.out.setCell (p := ⟨w.heap.size + 1, 2, none⟩) (by simp) _).setCell (p := ⟨w.heap.size + 1, 3, none⟩) (by simp) _⟩
      case measure => simp [intOf]
    · have HB1 := hid hB1
      have k0 := hB1.at 4 rfl
      have k1 := hB1.at 5 rfl
      have f0 := hB1.frozen 4
      have f1 := hB1.frozen 5
      clear hB1
      go_wp2_with fail
      go_roundw
      case rel => exact ⟨3, by omega, by go_num, (HB0.out.far (by simp) _).far (by simp) _, (HB1.out.set_ 4 _).set_ 5 _, (HE.out.setCell (p := ⟨w.heap.size + 1, 4, none⟩) (by simp) _).setCell (p := ⟨w.heap.size + 1, 5, none⟩) (by simp) _⟩
      case measure => simp [intOf]
    · have HB1 := hid hB1
      have k0 := hB1.at 6 rfl
      have k1 := hB1.at 7 rfl
      have f0 := hB1.frozen 6
      have f1 := hB1.frozen 7
      clear hB1
      go_wp2_with fail
      go_roundw
      case rel => exact ⟨4, by omega, by go_num, (HB0.out.far (by simp) _).far (by simp) _, (HB1.out.set_ 6 _).set_ 7 _, (HE.out.setCell (p := ⟨w.heap.size + 1, 6, none⟩) (by simp) _).setCell (p := ⟨w.heap.size + 1, 7, none⟩) (by simp) _⟩
      case measure => simp [intOf]
    · have HB1 := hid hB1
      have k0 := hB1.at 8 rfl
      have k1 := hB1.at 9 rfl
      have f0 := hB1.frozen 8
      have f1 := hB1.frozen 9
      clear hB1
      go_wp2_with fail
      go_roundw
      case rel => exact ⟨5, by omega, by go_num, (HB0.out.far (by simp) _).far (by simp) _, (HB1.out.set_ 8 _).set_ 9 _, (HE.out.setCell (p := ⟨w.heap.size + 1, 8, none⟩) (by simp) _).setCell (p := ⟨w.heap.size + 1, 9, none⟩) (by simp) _⟩
      case measure => simp [intOf]
    · have hB1' : Blk wr (w.heap.size + 1) 43 #[.int .i64 480, .int .i64 960, .int .i64 480, .int .i64 960, .int .i64 480, .int .i64 960, .int .i64 480, .int .i64 960, .int .i64 480, .int .i64 960, .int .i64 0, .int .i64 0, .int .i64 0, .int .i64 0, .slice none 0 0] := hB1
      have HB1 := hid hB1'
      clear hB1
      have hs15 : (Tryd.prog.info? 43).map (·.size) = some (#[.int .i64 480, .int .i64 960, .int .i64 480, .int .i64 960, .int .i64 480, .int .i64 960, .int .i64 480, .int .i64 960, .int .i64 480, .int .i64 960, .int .i64 0, .int .i64 0, .int .i64 0, .int .i64 0, .slice none 0 0] : Array Value).size := size43
      have HS := hid hs15
      have k0 := HB0.out.at 0 rfl
      have f0 := HB0.out.frozen 0
      have k1 := HB0.out.at 1 rfl
      have f1 := HB0.out.frozen 1
      have k2 := HB0.out.at 2 rfl
      have f2 := HB0.out.frozen 2
      have k3 := HB0.out.at 3 rfl
      have f3 := HB0.out.frozen 3
      have k4 := HB0.out.at 4 rfl
      have f4 := HB0.out.frozen 4
      have k5 := HB0.out.at 5 rfl
      have f5 := HB0.out.frozen 5
      have k6 := HB0.out.at 6 rfl
      have f6 := HB0.out.frozen 6
      have k7 := HB0.out.at 7 rfl
      have f7 := HB0.out.frozen 7
      have k8 := HB0.out.at 8 rfl
      have f8 := HB0.out.frozen 8
      have k9 := HB0.out.at 9 rfl
      have f9 := HB0.out.frozen 9
      have k10 := HB0.out.at 10 rfl
      have f10 := HB0.out.frozen 10
      have k11 := HB0.out.at 11 rfl
      have f11 := HB0.out.frozen 11
      have k12 := HB0.out.at 12 rfl
      have f12 := HB0.out.frozen 12
      have k13 := HB0.out.at 13 rfl
      have f13 := HB0.out.frozen 13
      have k14 := HB0.out.at 14 rfl
      have f14 := HB0.out.frozen 14
      clear hB1' hs15
      go_wp2_with (refine wpList_load_row rfl 43 _ rfl (w.heap.size + 1) rfl 43 #[.int .i64 480, .int .i64 960, .int .i64 480, .int .i64 960, .int .i64 480, .int .i64 960, .int .i64 480, .int .i64 960, .int .i64 480, .int .i64 960, .int .i64 0, .int .i64 0, .int .i64 0, .int .i64 0, .slice none 0 0] (0, 0) _ HB1.out Tryd.underlying43 rfl HS.out ?_)
      refine bodyPost_ret (results_cell_row (P := Tryd.prog) rfl _ _ w.heap.size 43 #[.int .i64 480, .int .i64 960, .int .i64 480, .int .i64 960, .int .i64 480, .int .i64 960, .int .i64 480, .int .i64 960, .int .i64 480, .int .i64 960, .int .i64 0, .int .i64 0, .int .i64 0, .int .i64 0, .slice none 0 0] (0, 0) _ rfl (((((((((((((((HB0.out.set_ 0 _).set_ 1 _).set_ 2 _).set_ 3 _).set_ 4 _).set_ 5 _).set_ 6 _).set_ 7 _).set_ 8 _).set_ 9 _).set_ 10 _).set_ 11 _).set_ 12 _).set_ 13 _).set_ 14 _) Tryd.underlying43 rfl size43) rfl ⟨rfl, ?_⟩
      exact (((((((((((((((HE.out.setCell (p := ⟨w.heap.size, 0, none⟩) (by simp) _).setCell (p := ⟨w.heap.size, 1, none⟩) (by simp) _).setCell (p := ⟨w.heap.size, 2, none⟩) (by simp) _).setCell (p := ⟨w.heap.size, 3, none⟩) (by simp) _).setCell (p := ⟨w.heap.size, 4, none⟩) (by simp) _).setCell (p := ⟨w.heap.size, 5, none⟩) (by simp) _).setCell (p := ⟨w.heap.size, 6, none⟩) (by simp) _).setCell (p := ⟨w.heap.size, 7, none⟩) (by simp) _).setCell (p := ⟨w.heap.size, 8, none⟩) (by simp) _).setCell (p := ⟨w.heap.size, 9, none⟩) (by simp) _).setCell (p := ⟨w.heap.size, 10, none⟩) (by simp) _).setCell (p := ⟨w.heap.size, 11, none⟩) (by simp) _).setCell (p := ⟨w.heap.size, 12, none⟩) (by simp) _).setCell (p := ⟨w.heap.size, 13, none⟩) (by simp) _).setCell (p := ⟨w.heap.size, 14, none⟩) (by simp) _)
end Go.Proofs.YthkmnoobajaooaaDoor
