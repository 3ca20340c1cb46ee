/-
  The law package's example: the network of the chapter's examples, and what the functions answer of it.
-/
import Derived.Test.YtmbmmnlcnplgnaaSam
namespace Go.Proofs.Ytmbmmnlcnplgnaa
open Go.RowKit
def exP : List Plc := [⟨1, 0, -1⟩, ⟨1, 0, -1⟩, ⟨1, 0, -1⟩, ⟨1, 0, -1⟩]
def exE : List Edg := [⟨0, 1, 2, 10, 5⟩, ⟨1, 2, 1, 10, 7⟩, ⟨0, 2, 2, 20, 9⟩, ⟨1, 0, 0, 10, 4⟩]
theorem ex_chk : chkE exP exE = 0 := by decide +kernel
theorem ex_val : Val exE 4 := (chkE_ok ex_chk).2.2
theorem ex_dst (s : Nat) (t : List Int) (hs : s < 4) (hl : t.length = 4) (h0 : t.getD s 0 = 0) (h3 : t.getD 3 0 = -1)
    (h : 0 ≤ t.getD 0 0 ∧ 0 ≤ t.getD 1 0 ∧ 0 ≤ t.getD 2 0) (hw : ∀ p, p < 3 → Wk exE s (p : Nat) (t.getD p 0))
    (a : t.getD 0 0 ≤ t.getD 1 0 + 10 ∧ t.getD 1 0 ≤ t.getD 0 0 + 10 ∧ t.getD 1 0 ≤ t.getD 2 0 + 10 ∧ t.getD 2 0 ≤ t.getD 1 0 + 10 ∧ t.getD 0 0 ≤ t.getD 2 0 + 20 ∧ t.getD 2 0 ≤ t.getD 0 0 + 20) : Dst exE 4 s t := by
  refine dst_of ex_val hs hl h0 (fun p hp => ?_) (fun p hp h1 => ?_) (fun e he p q hj h1 => ?_)
  · have : p = 0 ∨ p = 1 ∨ p = 2 ∨ p = 3 := by omega
    rcases this with rfl | rfl | rfl | rfl <;> omega
  · refine hw p ?_
    rcases (by omega : p < 3 ∨ p = 3) with h2 | rfl
    · exact h2
    · omega
  · have hv := ex_val.join he hj
    have he2 : e = ⟨0, 1, 2, 10, 5⟩ ∨ e = ⟨1, 2, 1, 10, 7⟩ ∨ e = ⟨0, 2, 2, 20, 9⟩ ∨ e = ⟨1, 0, 0, 10, 4⟩ := by simpa [exE] using he
    rw [joinB_iff] at hj
    rcases he2 with rfl | rfl | rfl | rfl <;> simp only at hj ⊢ <;> rcases hj with ⟨h2, h3⟩ | ⟨h2, h3⟩
    · obtain rfl : p = 0 := by omega
      obtain rfl : q = 1 := by omega
      omega
    · obtain rfl : q = 0 := by omega
      obtain rfl : p = 1 := by omega
      omega
    · obtain rfl : p = 1 := by omega
      obtain rfl : q = 2 := by omega
      omega
    · obtain rfl : q = 1 := by omega
      obtain rfl : p = 2 := by omega
      omega
    · obtain rfl : p = 0 := by omega
      obtain rfl : q = 2 := by omega
      omega
    · obtain rfl : q = 0 := by omega
      obtain rfl : p = 2 := by omega
      omega
    · obtain rfl : p = 1 := by omega
      obtain rfl : q = 0 := by omega
      omega
    · obtain rfl : q = 1 := by omega
      obtain rfl : p = 0 := by omega
      omega
theorem ex_w01 : Wk exE 0 1 10 := Wk.snoc (p := 0) (d := 0) ⟨0, 1, 2, 10, 5⟩ Wk.nil (by simp [exE]) (by decide)
theorem ex_w12 : Wk exE 1 2 10 := Wk.snoc (p := 1) (d := 0) ⟨1, 2, 1, 10, 7⟩ Wk.nil (by simp [exE]) (by decide)
theorem ex_t0 : Dst exE 4 0 [0, 10, 20, -1] := ex_dst 0 _ (by omega) rfl rfl rfl (by decide) (fun p hp => by
  have : p = 0 ∨ p = 1 ∨ p = 2 := by omega
  rcases this with rfl | rfl | rfl
  · exact Wk.nil
  · exact ex_w01
  · exact ex_w01.trans ex_w12) (by decide)
theorem ex_t2 : Dst exE 4 2 [20, 10, 0, -1] := ex_dst 2 _ (by omega) rfl rfl rfl (by decide) (fun p hp => by
  have : p = 0 ∨ p = 1 ∨ p = 2 := by omega
  rcases this with rfl | rfl | rfl
  · exact (ex_w01.trans ex_w12).symm
  · exact ex_w12.symm
  · exact Wk.nil) (by decide)
theorem ex_n01 : Nxt exE 4 [20, 10, 0, -1] 0 1 := ⟨by omega, by decide +kernel, by decide +kernel, fun r hr => by
  obtain rfl : r = 0 := by omega
  decide +kernel⟩
theorem ex_n12 : Nxt exE 4 [20, 10, 0, -1] 1 2 := ⟨by omega, by decide +kernel, by decide +kernel, fun r hr => by
  have : r = 0 ∨ r = 1 := by omega
  rcases this with rfl | rfl <;> decide +kernel⟩
theorem ex_rt : Rt exE 4 [20, 10, 0, -1] 2 0 [0, 1, 2] := Rt.step (by omega) ex_n01 (Rt.step (by omega) ex_n12 Rt.one)
theorem ex_b : bldE exP exE [0] = 0 ∧ bldE exP exE [0, 2] = 0 ∧ bldE exP exE [0, 3] = 0 ∧ bldE exP exE [0, 1] = 0 ∧ bldE exP exE [1, 1] = 0 ∧ bldE exP exE [0, 4] = 1 ∧ bldE exP exE [0, 1, 2] = 0 ∧ bldE exP exE [2, 0, 2] = 0 := by decide +kernel
theorem ex_l : lin exE 0 1 = 0 ∧ lin exE 1 1 = -1 ∧ (lines exE [0, 1, 2]).any (fun i => decide (i < 0)) = false ∧ (lines exE [2, 0, 2]).any (fun i => decide (i < 0)) = false ∧ (lines exE [0, 3]).any (fun i => decide (i < 0)) = true ∧
    shrs exE (lines exE [0, 1, 2]) 16 = [(1, 7), (2, 5)] ∧ shrs exE (lines exE [2, 0, 2]) 16 = [(2, 18)] := by decide +kernel
/-! ### What the contracts say of the example -/
theorem ex_bet2 {x r : Int} (h : BetS exP exE 0 2 x r) : x = 20 ∧ r = 0 := by
  rcases h with ⟨h, _⟩ | ⟨_, d, hd, h⟩
  · exact absurd ex_b.2.1 h
  · have := hd.uniq (ex_t0.isd 2 (by omega))
    have e : ([0, 10, 20, -1] : List Int).getD 2 0 = 20 := rfl
    rw [e] at this
    subst this
    rcases h with ⟨h, _⟩ | ⟨_, h⟩
    · omega
    · exact h
theorem ex_bet3 {x r : Int} (h : BetS exP exE 0 3 x r) : r = 80 := by
  rcases h with ⟨h, _⟩ | ⟨_, d, hd, h⟩
  · exact absurd ex_b.2.2.1 h
  · have := hd.uniq (ex_t0.isd 3 (by omega))
    have e : ([0, 10, 20, -1] : List Int).getD 3 0 = -1 := rfl
    rw [e] at this
    subst this
    rcases h with ⟨_, _, h⟩ | ⟨h, _⟩
    · exact h
    · omega
theorem ex_e01 {x r : Int} (h : EdgS exP exE 0 1 x r) : x = 0 ∧ r = 0 := by
  rcases h with ⟨h, _⟩ | ⟨_, ⟨h, _⟩ | ⟨_, h1, h2⟩⟩
  · exact absurd ex_b.2.2.2.1 h
  · rw [ex_l.1] at h; omega
  · rw [ex_l.1] at h1; exact ⟨h1, h2⟩
theorem ex_e11 {x r : Int} (h : EdgS exP exE 1 1 x r) : r = 80 := by
  rcases h with ⟨h, _⟩ | ⟨_, ⟨_, _, h⟩ | ⟨h, _⟩⟩
  · exact absurd ex_b.2.2.2.2.1 h
  · exact h
  · rw [ex_l.2.1] at h; omega
theorem ex_e04 {x r : Int} (h : EdgS exP exE 0 4 x r) : r = 1 := by
  rcases h with ⟨_, _, h⟩ | ⟨h, _⟩
  · rw [h]; exact ex_b.2.2.2.2.2.1
  · rw [ex_b.2.2.2.2.2.1] at h; omega
theorem CelR.of_blk {w : World} {g : Nat} {t : TypeId} {cs : List Value} (h : Blk w g t cs.toArray) : CelR w (some ⟨g, 0, none⟩) cs := fun _ =>
  ⟨g, 0, rfl, h.lt, fun j u hu => by rw [Nat.zero_add]; exact h.at j (by simpa using hu)⟩
theorem example_any (w : World) : Calls Try.prog 31 #[] w fun e w' => ∃ g h, e = .returned (netV (some ⟨g, 0, none⟩) 4 4 (some ⟨h, 0, none⟩) 4 4) ∧ PlcR w' (some ⟨g, 0, none⟩) exP ∧ EdgR w' (some ⟨h, 0, none⟩) exE ∧ Below w.heap.size w w' := by
  go_enter Try.func31, Try.ntmps31
  go_wp2_with fail
  have hB : Below w.heap.size w ((((w.alloc (.cells #[.slice (some ⟨w.heap.size + 1 + 1, 0, none⟩) 4 4, .slice (some ⟨w.heap.size + 1 + 1 + 1, 0, none⟩) 4 4] 25)).alloc (.cells #[.int .i64 1, .int .i64 0, .int .i64 (-1)] 55)).alloc
      (.cells (exP.flatMap plcV).toArray 55)).alloc (.cells (exE.flatMap edgV).toArray 45)) := ((((Below.refl _ _).alloc (Nat.le_refl _) _).alloc (by simp) _).alloc (by simp; omega) _).alloc (by simp; omega) _
  have h1 : Blk ((((w.alloc (.cells #[.slice (some ⟨w.heap.size + 1 + 1, 0, none⟩) 4 4, .slice (some ⟨w.heap.size + 1 + 1 + 1, 0, none⟩) 4 4] 25)).alloc (.cells #[.int .i64 1, .int .i64 0, .int .i64 (-1)] 55)).alloc
      (.cells (exP.flatMap plcV).toArray 55)).alloc (.cells (exE.flatMap edgV).toArray 45)) (w.heap.size + 1 + 1) 55 (exP.flatMap plcV).toArray := (Blk.of_size _ (by simp) _ _).alloc _
  have h2 : Blk ((((w.alloc (.cells #[.slice (some ⟨w.heap.size + 1 + 1, 0, none⟩) 4 4, .slice (some ⟨w.heap.size + 1 + 1 + 1, 0, none⟩) 4 4] 25)).alloc (.cells #[.int .i64 1, .int .i64 0, .int .i64 (-1)] 55)).alloc
      (.cells (exP.flatMap plcV).toArray 55)).alloc (.cells (exE.flatMap edgV).toArray 45)) (w.heap.size + 1 + 1 + 1) 45 (exE.flatMap edgV).toArray := Blk.of_size _ (by simp) _ _
  exact bodyPost_ret (v := netV (some ⟨w.heap.size + 1 + 1, 0, none⟩) 4 4 (some ⟨w.heap.size + 1 + 1 + 1, 0, none⟩) 4 4) (by simp [results, Try.results31, go_sem, netV]) rfl ⟨_, _, rfl, CelR.of_blk h1, CelR.of_blk h2, hB⟩
end Go.Proofs.Ytmbmmnlcnplgnaa
