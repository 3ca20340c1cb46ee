/-
  The walks of wagonpoolref35's Sorted and Take. Conditions: the cars lie in memory as they read, and are at most 256.
-/
import Derived.Test.YthfoggbaoafpjaaRrl
namespace Go.Proofs.Ythfoggbaoafpjaa
open Go.RowKit
/-- The indices of the cars of a block among the first k. -/
def bkt (L : List Car) (k : Nat) (b : Int) : List Int := ((List.range k).filter fun i => (L.getD i default).bl == b).map fun (i : Nat) => (i : Int)
theorem bkt_succ (L : List Car) (k : Nat) (b : Int) : bkt L (k + 1) b = bkt L k b ++ if (L.getD k default).bl = b then [(k : Int)] else [] := by
  unfold bkt
  rw [List.range_succ, List.filter_append, List.map_append]
  congr 1
  by_cases h : (L.getD k default).bl = b
  · rw [if_pos h, List.filter_cons, if_pos (by simpa using h)]; rfl
  · rw [if_neg h, List.filter_cons, if_neg (by simpa using h)]; rfl
theorem bkt_len (L : List Car) (k : Nat) (b : Int) : (bkt L k b).length ≤ k := by
  unfold bkt
  rw [List.length_map]
  exact Nat.le_trans (List.length_filter_le _ _) (by rw [List.length_range]; exact Nat.le_refl _)
def srtTo (L : List Car) (b : Nat) : List Int := (List.range b).flatMap fun (b : Nat) => bkt L L.length (b : Int)
def sortedL (L : List Car) : List Int := srtTo L 1001
theorem srtTo_succ (L : List Car) (b : Nat) : srtTo L (b + 1) = srtTo L b ++ bkt L L.length (b : Int) := by
  unfold srtTo
  rw [List.range_succ, List.flatMap_append]
  simp
theorem srtTo_len (L : List Car) (b : Nat) : (srtTo L b).length ≤ b * L.length := by
  induction b with
  | zero => simp [srtTo]
  | succ t ih =>
    rw [srtTo_succ, List.length_append, Nat.succ_mul]
    have := bkt_len L L.length (t : Int)
    omega
theorem mem_bkt {L : List Car} {k : Nat} {b x : Int} : x ∈ bkt L k b ↔ ∃ i : Nat, i < k ∧ (L.getD i default).bl = b ∧ x = i := by
  unfold bkt
  simp only [List.mem_map, List.mem_filter, List.mem_range, beq_iff_eq]
  constructor
  · rintro ⟨i, ⟨h1, h2⟩, rfl⟩; exact ⟨i, h1, h2, rfl⟩
  · rintro ⟨i, h1, h2, rfl⟩; exact ⟨i, ⟨h1, h2⟩, rfl⟩
theorem mem_srtTo {L : List Car} {b : Nat} {x : Int} : x ∈ srtTo L b ↔ ∃ i : Nat, i < L.length ∧ 0 ≤ (L.getD i default).bl ∧ (L.getD i default).bl < b ∧ x = i := by
  unfold srtTo
  rw [List.mem_flatMap]
  constructor
  · rintro ⟨c, h1, h2⟩
    obtain ⟨i, h3, h4, h5⟩ := mem_bkt.1 h2
    have := List.mem_range.1 h1
    exact ⟨i, h3, by omega, by omega, h5⟩
  · rintro ⟨i, h1, h2, h3, h4⟩
    exact ⟨(L.getD i default).bl.toNat, List.mem_range.2 (by omega), mem_bkt.2 ⟨i, h1, by omega, h4⟩⟩
theorem keyL_nat (L : List Car) (i : Nat) : keyL L (i : Int) = (L.getD i default).bl := by unfold keyL; rw [Int.toNat_natCast]
theorem srtTo_pair (L : List Car) (b : Nat) : (srtTo L b).Pairwise (Bef (keyL L)) := by
  induction b with
  | zero => simp [srtTo]
  | succ b ih =>
    rw [srtTo_succ, List.pairwise_append]
    refine ⟨ih, ?_, fun x hx y hy => ?_⟩
    · unfold bkt
      rw [List.pairwise_map]
      refine List.Pairwise.imp_of_mem (fun {i j} hi hj hij => ?_) (List.Pairwise.filter _ List.pairwise_lt_range)
      simp only [List.mem_filter, List.mem_range, beq_iff_eq] at hi hj
      refine Or.inr ⟨?_, by omega⟩
      rw [keyL_nat, keyL_nat, hi.2, hj.2]
    · obtain ⟨i, _, _, h3, rfl⟩ := mem_srtTo.1 hx
      obtain ⟨j, _, h5, rfl⟩ := mem_bkt.1 hy
      refine Or.inl ?_
      rw [keyL_nat, keyL_nat, h5]
      exact h3
/-- Where all blocks are valid, this is the order. -/
theorem sortedL_ordd {L : List Car} (h : ∀ i, i < L.length → 0 ≤ (L.getD i default).bl ∧ (L.getD i default).bl ≤ 1000) : Ordd L (sortedL L) := by
  refine ⟨srtTo_pair L 1001, fun x => ?_⟩
  unfold sortedL
  rw [mem_srtTo]
  constructor
  · rintro ⟨i, h1, _, _, rfl⟩; omega
  · intro hx
    refine ⟨x.toNat, by omega, ?_, ?_, by omega⟩
    · exact (h _ (by omega)).1
    · have := (h x.toNat (by omega)).2; omega
def SrtP (w : World) (M : List Int) (e : Ending) (w' : World) : Prop := ∃ v, e = .returned v ∧ IntV w' v M ∧ Below w.heap.size w w'
set_option maxHeartbeats 8000000 in
set_option maxRecDepth 100000 in
theorem sorted_any (L : List Car) (A1 : Option Addr) (c1 : Nat) (w : World) (h1 : CarR w A1 L) (hl : L.length ≤ 256) : Calls Try.prog 16 #[.slice A1 L.length c1] w (SrtP w (sortedL L)) := by
  have HC := hid h1
  clear h1
  have HRP : Hid (∀ e w', (∃ v, e = .returned v ∧ IntV w' v (sortedL L) ∧ Below w.heap.size w w') → SrtP w (sortedL L) e w') := hid (fun e w' h => h)
  obtain ⟨g0, hg0⟩ : ∃ g, w.heap.size = g := ⟨_, rfl⟩
  have HO := hid (own_empty (e := 3) 1 (Blk.new w 3 #[]) (Nat.le_refl _))
  have HAL : Hid (Below w.heap.size w (w.alloc (.cells #[] 3))) := hid ((Below.refl _ _).alloc (Nat.le_refl _) _)
  go_enter Try.func16, Try.ntmps16
  go_wp2_with fail
  obtain ⟨w1, hw1⟩ : ∃ W, w.alloc (.cells #[] 3) = W := ⟨_, rfl⟩
  rw [hw1] at HO HAL ⊢
  clear hw1
  have HG0 := hid hg0
  rw [hg0] at HO
  clear hg0
  go_loopw [3, 4] (fun s3 s4 wr => ∃ t : Nat, t ≤ 1001 ∧ s4 = .int .i64 t ∧ Hid (OwnN wr g0 s3 (srtTo L t) ∧ Below g0 w wr)) (fun _ s4 _ => 1001 - (intOf s4).toNat)
  case atStart => exact ⟨0, by omega, rfl, hid ⟨HO.out, by rw [← HG0.out]; exact HAL.out⟩⟩
  case round =>
    obtain ⟨t, ht, rfl, HK⟩ := hrel
    clear HO HAL
    by_cases hlt16 : t < 1001
    · have hti : (t : Int) ≤ 1000 := by omega
      go_wp2_with fail
      go_loopw [3, 5] (fun s3 s5 wv => ∃ i : Nat, i ≤ L.length ∧ s5 = .int .i64 i ∧ Hid (OwnN wv g0 s3 (srtTo L t ++ bkt L i (t : Int)) ∧ Below g0 w wv)) (fun _ s5 _ => L.length - (intOf s5).toNat)
      case atStart => exact ⟨0, Nat.zero_le _, rfl, hid ⟨by rw [show bkt L 0 (t : Int) = [] from rfl, List.append_nil]; exact HK.out.1, HK.out.2⟩⟩
      case round =>
        obtain ⟨i, hi, rfl, HJ⟩ := hrel
        by_cases hil : i < L.length
        · obtain ⟨b1, o1, hA1, hb1, hc1⟩ := (HC.out.below (by rw [HG0.out]; exact HJ.out.2)).at (by omega)
          have l1 := (hc1 i _ (getD_at hil)).c1
          have hts := bkt_succ L i (t : Int)
          obtain ⟨x, hx⟩ : ∃ x, (L.getD i default).bl = x := ⟨_, rfl⟩
          rw [hx] at l1 hts
          subst hA1
          have hl1 := srtTo_len L t
          have hl2 := bkt_len L i (t : Int)
          have hl3 : t * L.length ≤ 1001 * 256 := Nat.mul_le_mul (by omega) hl
          have HLN : Hid ((srtTo L t ++ bkt L i (t : Int)).length ≤ 1000000) := hid (by rw [List.length_append]; omega)
          have bi : (i : Int) < L.length := by omega
          have HTS := hid hts
          clear hc1 hx hts hl1 hl2 hl3 hb1
          by_cases e : x = t
          · have k0 : (x == (t : Int)) = true := by simpa using e
            have HTS2 : Hid (bkt L (i + 1) (t : Int) = bkt L i (t : Int) ++ [(i : Int)]) := hid (by rw [HTS.out, if_pos e])
            have hbl : Below wr.heap.size wr (wr.alloc (.cells #[.int .i64 (i : Int)] 3)) := (Below.refl _ _).alloc (Nat.le_refl _) _
            have HOX := hid (HJ.out.1.keep hbl)
            have HBX := hid (Blk.new wr 3 #[.int .i64 (i : Int)])
            have HSZ : Hid (g0 ≤ (wr.alloc (.cells #[.int .i64 (i : Int)] 3)).heap.size) := hid (by have := HJ.out.2.size; have := HG0.out; simp; omega)
            have HBW : Hid (Below g0 w (wr.alloc (.cells #[.int .i64 (i : Int)] 3))) := hid (HJ.out.2.trans (hbl.mono (by have := HJ.out.2.size; have := HG0.out; omega)))
            clear hbl e
            go_wp2_with (at_builtin; go_must (refine push_int rfl (.tmp 24) (.tmp 26) rfl g0 _ _ rfl HOX.out wr.heap.size (i : Int) rfl HBX.out HLN.out HSZ.out ?_))
            intro v9 w9 ho9 hg9
            have HN : Hid (OwnN w9 g0 v9 (srtTo L t ++ bkt L (i + 1) (t : Int)) ∧ Below g0 w w9) := hid ⟨by rw [HTS2.out]; first | exact ho9 | (rw [← List.append_assoc]; exact ho9), own_grown HJ.out.1 HBW.out HSZ.out hg9⟩
            clear ho9 hg9
            go_wp2_with fail
            exact ⟨⟨i + 1, by omega, by go_num, HN⟩, by simp [intOf]; omega⟩
          · have k0 : (x == (t : Int)) = false := by simpa using e
            have HN : Hid (OwnN wr g0 u3 (srtTo L t ++ bkt L (i + 1) (t : Int)) ∧ Below g0 w wr) := hid ⟨by rw [HTS.out, if_neg e, List.append_nil]; exact HJ.out.1, HJ.out.2⟩
            clear e
            go_wp2_with fail
            exact ⟨⟨i + 1, by omega, by go_num, HN⟩, by simp [intOf]; omega⟩
        · have : i = L.length := by omega
          subst this
          have HN : Hid (OwnN wr g0 u3 (srtTo L (t + 1)) ∧ Below g0 w wr) := hid ⟨by rw [srtTo_succ]; exact HJ.out.1, HJ.out.2⟩
          go_wp2_with fail
          exact ⟨⟨t + 1, by omega, by go_num, HN⟩, by simp [intOf]; omega⟩
    · have : t = 1001 := by omega
      subst this
      have HF : Hid (Below w.heap.size w wr ∧ IntV wr u3 (sortedL L)) := hid ⟨by rw [HG0.out]; exact HK.out.2, HK.out.1.form⟩
      go_wp2_with fail
      go_ret
      exact HRP.out _ _ ⟨_, rfl, HF.out.2, HF.out.1⟩
/-- The cars with some indices. -/
def takL (L : List Car) (M : List Int) : List Car := M.map fun x => L.getD x.toNat default
def TakP (w : World) (M : List Car) (e : Ending) (w' : World) : Prop := ∃ v, e = .returned v ∧ CarV w' v M ∧ Below w.heap.size w w'
end Go.Proofs.Ythfoggbaoafpjaa
