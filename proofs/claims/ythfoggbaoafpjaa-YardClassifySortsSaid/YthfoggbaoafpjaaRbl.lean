/-
  The walks of wagonpoolref35's Take, Blocks, rank and Stages. Conditions: the lists lie in memory as they read; the cars are at most 256, their blocks valid.
-/
import Derived.Test.YthfoggbaoafpjaaRso
namespace Go.Proofs.Ythfoggbaoafpjaa
open Go.RowKit
theorem getI_at {L : List Int} {i : Nat} (hi : i < L.length) : L[i]? = some (L.getD i 0) := by
  rw [List.getD_eq_getElem?_getD, List.getElem?_eq_getElem hi]; rfl
theorem getI_mem {L : List Int} {i : Nat} (hi : i < L.length) : L.getD i 0 ∈ L := List.mem_of_getElem? (getI_at hi)
theorem take_snocI {L : List Int} {i : Nat} (hi : i < L.length) : L.take (i + 1) = L.take i ++ [L.getD i 0] := by
  rw [List.take_add_one, getI_at hi]; rfl
theorem takL_snoc {L : List Car} {M : List Int} {i : Nat} (hi : i < M.length) : takL L (M.take (i + 1)) = takL L (M.take i) ++ [L.getD (M.getD i 0).toNat default] := by
  unfold takL
  rw [take_snocI hi, List.map_append]; rfl
set_option maxHeartbeats 8000000 in
set_option maxRecDepth 100000 in
theorem take_any (L : List Car) (M : List Int) (A1 A2 : Option Addr) (c1 c2 : Nat) (w : World) (h1 : CarR w A1 L) (h2 : IntR w A2 M) (hM : ∀ x ∈ M, 0 ≤ x ∧ x < (L.length : Int)) (hl : M.length ≤ 300000) : Calls Try.prog 33 #[.slice A1 L.length c1, .slice A2 M.length c2] w (TakP w (takL L M)) := by
  have HC := hid h1
  have HM := hid h2
  have HIX : Hid (∀ i, i < M.length → ∃ n : Nat, M.getD i 0 = n ∧ n < L.length) := hid (fun i hi => by
    have := hM _ (getI_mem hi)
    exact ⟨(M.getD i 0).toNat, by omega, by omega⟩)
  clear h1 h2 hM
  have HRP : Hid (∀ e w', (∃ v, e = .returned v ∧ CarV w' v (takL L M) ∧ Below w.heap.size w w') → TakP w (takL L M) e w') := hid (fun e w' h => h)
  obtain ⟨g0, hg0⟩ : ∃ g, w.heap.size = g := ⟨_, rfl⟩
  have HO := hid (own_empty (e := 33) 7 (Blk.new w 33 #[]) (Nat.le_refl _))
  have HAL : Hid (Below w.heap.size w (w.alloc (.cells #[] 33))) := hid ((Below.refl _ _).alloc (Nat.le_refl _) _)
  go_enter Try.func33, Try.ntmps33
  go_wp2_with fail
  obtain ⟨w1, hw1⟩ : ∃ W, w.alloc (.cells #[] 33) = W := ⟨_, rfl⟩
  rw [hw1] at HO HAL ⊢
  clear hw1
  have HG0 := hid hg0
  rw [hg0] at HO
  clear hg0
  go_loopw [5, 6] (fun s5 s6 wr => ∃ i : Nat, i ≤ M.length ∧ s6 = .int .i64 i ∧ Hid (OwnC wr g0 s5 (takL L (M.take i)) ∧ Below g0 w wr)) (fun _ s6 _ => M.length - (intOf s6).toNat)
  case atStart => exact ⟨0, by omega, rfl, hid ⟨HO.out, by rw [← HG0.out]; exact HAL.out⟩⟩
  case round =>
    obtain ⟨i, hi, rfl, HJ⟩ := hrel
    clear HO HAL
    by_cases hil : i < M.length
    · obtain ⟨n, hn, hnl⟩ := HIX.out i hil
      obtain ⟨b1, o1, hA1, hb1, hc1⟩ := (HC.out.below (by rw [HG0.out]; exact HJ.out.2)).at (by omega)
      obtain ⟨l0, l1, l2, l3, l4, l5, l6⟩ := hc1 n _ (getD_at hnl)
      obtain ⟨b2, o2, hA2, hb2, hc2⟩ := (HM.out.below (by rw [HG0.out]; exact HJ.out.2)).at (by omega)
      have m0 := hc2 i hil
      have hts := takL_snoc (L := L) hil
      rw [hn] at m0 hts
      rw [Int.toNat_natCast] at hts
      obtain ⟨cc, hcc⟩ : ∃ cc, L.getD n default = cc := ⟨_, rfl⟩
      rw [hcc] at l0 l1 l2 l3 l4 l5 l6 hts
      subst hA1 hA2
      obtain ⟨id, bl, ln, wt, ga, br, da⟩ := cc
      simp only at l0 l1 l2 l3 l4 l5 l6
      have HLN : Hid ((takL L (M.take i)).length ≤ 1000000) := hid (by unfold takL; rw [List.length_map, List.length_take]; omega)
      have bi : (i : Int) < M.length := by omega
      have bn : (n : Int) < L.length := by omega
      have HTS := hid hts
      clear hc1 hc2 hcc hts hb1 hb2 hn
      have hbl : Below wr.heap.size wr (wr.alloc (.cells (carV ⟨id, bl, ln, wt, ga, br, da⟩).toArray 33)) := (Below.refl _ _).alloc (Nat.le_refl _) _
      have HOX := hid (HJ.out.1.keep hbl)
      have HBX := hid (Blk.new wr 33 (carV ⟨id, bl, ln, wt, ga, br, da⟩).toArray)
      have HSZ : Hid (g0 ≤ (wr.alloc (.cells (carV ⟨id, bl, ln, wt, ga, br, da⟩).toArray 33)).heap.size) := hid (by have := HJ.out.2.size; have := HG0.out; simp; omega)
      have HBW : Hid (Below g0 w (wr.alloc (.cells (carV ⟨id, bl, ln, wt, ga, br, da⟩).toArray 33))) := hid (HJ.out.2.trans (hbl.mono (by have := HJ.out.2.size; have := HG0.out; omega)))
      clear hbl
      go_wp2_with (at_builtin; go_must (refine push_car rfl (.tmp 14) (.tmp 22) rfl g0 _ _ rfl HOX.out wr.heap.size ⟨id, bl, ln, wt, ga, br, da⟩ rfl HBX.out HLN.out HSZ.out ?_))
      intro v9 w9 ho9 hg9
      have HN : Hid (OwnC w9 g0 v9 (takL L (M.take (i + 1))) ∧ Below g0 w w9) := hid ⟨by rw [HTS.out]; exact ho9, own_grown HJ.out.1 HBW.out HSZ.out hg9⟩
      clear ho9 hg9
      go_wp2_with fail
      exact ⟨⟨i + 1, by omega, by go_num, HN⟩, by simp [intOf]; omega⟩
    · have : i = M.length := by omega
      subst this
      have HF : Hid (Below w.heap.size w wr ∧ CarV wr u5 (takL L M)) := hid ⟨by rw [HG0.out]; exact HJ.out.2, by have := HJ.out.1.form; rwa [List.take_length] at this⟩
      go_wp2_with fail
      go_ret
      exact HRP.out _ _ ⟨_, rfl, HF.out.2, HF.out.1⟩
/-! ### Blocks -/
/-- The different blocks, increasing. -/
structure BlkL (L : List Car) (B : List Int) : Prop where
  srt : B.Pairwise (· < ·)
  mem : ∀ x, x ∈ B ↔ ∃ i, i < L.length ∧ (L.getD i default).bl = x
theorem rise_ext : ∀ {L M : List Int}, L.Pairwise (· < ·) → M.Pairwise (· < ·) → (∀ x, x ∈ L ↔ x ∈ M) → L = M
  | [], [], _, _, _ => rfl
  | [], y :: M, _, _, h => absurd ((h y).2 (List.mem_cons_self ..)) (by simp)
  | x :: L, [], _, _, h => absurd ((h x).1 (List.mem_cons_self ..)) (by simp)
  | x :: L, y :: M, hL, hM, h => by
    have hx := List.pairwise_cons.1 hL
    have hy := List.pairwise_cons.1 hM
    have hxy : x = y := by
      rcases List.mem_cons.1 ((h x).1 (List.mem_cons_self ..)) with e | e
      · exact e
      · rcases List.mem_cons.1 ((h y).2 (List.mem_cons_self ..)) with e2 | e2
        · exact e2.symm
        · have := hy.1 x e; have := hx.1 y e2; omega
    subst hxy
    congr 1
    refine rise_ext hx.2 hy.2 (fun z => ⟨fun hz => ?_, fun hz => ?_⟩)
    · rcases List.mem_cons.1 ((h z).1 (List.mem_cons_of_mem _ hz)) with e | e
      · have := hx.1 z hz; omega
      · exact e
    · rcases List.mem_cons.1 ((h z).2 (List.mem_cons_of_mem _ hz)) with e | e
      · have := hy.1 z hz; omega
      · exact e
theorem BlkL.uniq {L : List Car} {B B' : List Int} (h : BlkL L B) (h' : BlkL L B') : B = B' := rise_ext h.srt h'.srt (fun x => (h.mem x).trans (h'.mem x).symm)
/-- Within the loop that collects them, along the order s. -/
structure BlI (k : Int → Int) (s : List Int) (i : Nat) (B : List Int) : Prop where
  srt : B.Pairwise (· < ·)
  mem : ∀ x, x ∈ B ↔ ∃ j, j < i ∧ k (s.getD j 0) = x
  len : B.length ≤ i
  last : 0 < i → 0 < B.length ∧ B.getD (B.length - 1) 0 = k (s.getD (i - 1) 0)
theorem BlI.start (k : Int → Int) (s : List Int) : BlI k s 0 [] := ⟨List.Pairwise.nil, fun x => ⟨fun h => by simp at h, fun ⟨j, h, _⟩ => absurd h (by omega)⟩, Nat.le_refl _, fun h => absurd h (by omega)⟩
theorem BlI.same {k : Int → Int} {s B : List Int} {i : Nat} (h : BlI k s i B) (hi : 0 < i) (he : k (s.getD i 0) = B.getD (B.length - 1) 0) : BlI k s (i + 1) B := by
  refine ⟨h.srt, fun x => (h.mem x).trans ⟨fun ⟨j, h1, h2⟩ => ⟨j, by omega, h2⟩, fun ⟨j, h1, h2⟩ => ?_⟩, by have := h.len; omega, fun _ => ⟨(h.last hi).1, he.symm⟩⟩
  by_cases e : j < i
  · exact ⟨j, e, h2⟩
  · have : j = i := by omega
    subst this
    exact ⟨j - 1, by omega, by rw [← (h.last hi).2, ← he]; exact h2⟩
theorem BlI.push {k : Int → Int} {s B : List Int} {i : Nat} (h : BlI k s i B) (hs : s.Pairwise (Bef k)) (hi : i < s.length) (hne : 0 < B.length → k (s.getD i 0) ≠ B.getD (B.length - 1) 0) : BlI k s (i + 1) (B ++ [k (s.getD i 0)]) := by
  refine ⟨?_, fun x => ?_, by rw [List.length_append]; have := h.len; simp; omega, fun _ => ⟨by simp, by simp⟩⟩
  · rw [List.pairwise_append]
    refine ⟨h.srt, List.pairwise_singleton _ _, fun x hx y hy => ?_⟩
    rw [List.mem_singleton] at hy
    subst hy
    obtain ⟨j, h1, rfl⟩ := (h.mem x).1 hx
    have hb : 0 < B.length := List.length_pos_of_mem hx
    have hne2 := hne hb
    rw [(h.last (by omega)).2] at hne2
    have key : ∀ a b, a < b → b < s.length → k (s.getD a 0) ≤ k (s.getD b 0) := fun a b hab hb => by
      have := List.pairwise_iff_getElem.1 hs a b (by omega) hb hab
      rw [List.getD_eq_getElem?_getD, List.getD_eq_getElem?_getD, List.getElem?_eq_getElem hb, List.getElem?_eq_getElem (by omega : a < s.length)]
      rcases this with h | ⟨h, _⟩
      · exact Int.le_of_lt h
      · exact Int.le_of_eq h
    have h3 := key (i - 1) i (by omega) hi
    rcases (by omega : j = i - 1 ∨ j < i - 1) with rfl | h4
    · omega
    · have := key j (i - 1) h4 (by omega)
      omega
  · rw [List.mem_append, List.mem_singleton, h.mem]
    constructor
    · rintro (⟨j, h1, h2⟩ | rfl)
      · exact ⟨j, by omega, h2⟩
      · exact ⟨i, by omega, rfl⟩
    · rintro ⟨j, h1, h2⟩
      by_cases e : j < i
      · exact Or.inl ⟨j, e, h2⟩
      · have : j = i := by omega
        subst this
        exact Or.inr h2.symm
theorem BlI.fin {L : List Car} {s B : List Int} (h : BlI (keyL L) s s.length B) (ho : Ordd L s) : BlkL L B := by
  refine ⟨h.srt, fun x => (h.mem x).trans ⟨fun ⟨j, h1, h2⟩ => ?_, fun ⟨i, h1, h2⟩ => ?_⟩⟩
  · have := (ho.mem _).1 (getI_mem h1)
    exact ⟨(s.getD j 0).toNat, by omega, h2⟩
  · have hm := (ho.mem (i : Int)).2 (by omega)
    obtain ⟨j, hj, e⟩ := List.mem_iff_getElem.1 hm
    refine ⟨j, hj, ?_⟩
    rw [List.getD_eq_getElem?_getD, List.getElem?_eq_getElem hj, Option.getD_some, e, keyL_nat]
    exact h2
def ValB (L : List Car) : Prop := ∀ i, i < L.length → 0 ≤ (L.getD i default).bl ∧ (L.getD i default).bl ≤ 1000
def BlkP (w : World) (L : List Car) (e : Ending) (w' : World) : Prop := ∃ v B, e = .returned v ∧ BlkL L B ∧ IntV w' v B ∧ Below w.heap.size w w'
theorem rise_len : ∀ {B : List Int} {lo hi : Int}, B.Pairwise (· < ·) → lo ≤ hi → (∀ x ∈ B, lo ≤ x ∧ x < hi) → (B.length : Int) ≤ hi - lo
  | [], lo, hi, _, h0, _ => by simp; omega
  | x :: B, lo, hi, h, h0, hb => by
    have hx := hb x (List.mem_cons_self ..)
    have hp := List.pairwise_cons.1 h
    have := rise_len (lo := x + 1) (hi := hi) hp.2 (by omega) (fun y hy => ⟨by have := hp.1 y hy; omega, (hb y (List.mem_cons_of_mem _ hy)).2⟩)
    rw [List.length_cons]
    omega
theorem BlkL.len {L : List Car} {B : List Int} (h : BlkL L B) (hv : ValB L) : B.length ≤ 1001 := by
  have := rise_len (lo := 0) (hi := 1001) h.srt (by omega) (fun x hx => by
    obtain ⟨i, h1, h2⟩ := (h.mem x).1 hx
    have := hv i h1
    omega)
  omega
end Go.Proofs.Ythfoggbaoafpjaa
