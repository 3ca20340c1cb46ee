/-
  The walks of the reference's Working and After, and of Lists. Condition: the holidays lie in memory as a list reads.
-/
import Derived.Test.YthkmnoobajaooaaDoorRopn
namespace Go.Proofs.YthkmnoobajaooaaDoor
open Go.RowKit Go.Shelf Go.Sort
theorem SpR.drewN {w : World} {A : Option Addr} {L : List Sp} (h : SpR w A L) (n : Nat) : SpR (w.drewN n) A L := h.below (below_drewN (Below.refl _ _) n)
theorem joinS_mem {out : List Sp} {s t : Sp} {lo hi : Int} (h : t ∈ joinS out s) (ho : ∀ u ∈ out, lo ≤ u.1 ∧ u.1 < u.2 ∧ u.2 ≤ hi) (hs : lo ≤ s.1 ∧ s.1 < s.2 ∧ s.2 ≤ hi) : lo ≤ t.1 ∧ t.1 < t.2 ∧ t.2 ≤ hi := by
  unfold joinS at h
  cases hl : out.getLast? with
  | none => rw [hl] at h; rw [List.mem_singleton.1 h]; exact hs
  | some l =>
    rw [hl] at h
    obtain ⟨ys, rfl⟩ := List.getLast?_eq_some_iff.1 hl
    have h0 := ho l (by simp)
    by_cases e : l.2 = s.1
    · simp only [e, if_true, List.dropLast_concat] at h
      rcases List.mem_append.1 h with h | h
      · exact ho t (by simp [h])
      · rw [List.mem_singleton.1 h]; simp only; omega
    · simp only [e, if_false] at h
      rcases List.mem_append.1 h with h | h
      · exact ho t h
      · rw [List.mem_singleton.1 h]; exact hs
theorem joinL_mem {l : List Sp} {lo hi : Int} (hl : ∀ u ∈ l, lo ≤ u.1 ∧ u.1 < u.2 ∧ u.2 ≤ hi) : ∀ t ∈ joinL l, lo ≤ t.1 ∧ t.1 < t.2 ∧ t.2 ≤ hi := by
  have key : ∀ (l out : List Sp), (∀ u ∈ l, lo ≤ u.1 ∧ u.1 < u.2 ∧ u.2 ≤ hi) → (∀ u ∈ out, lo ≤ u.1 ∧ u.1 < u.2 ∧ u.2 ≤ hi) → ∀ t ∈ l.foldl joinS out, lo ≤ t.1 ∧ t.1 < t.2 ∧ t.2 ≤ hi := by
    intro l
    induction l with
    | nil => intro out _ h2 t ht; exact h2 t ht
    | cons s l ih => intro out h1 h2 t ht; exact ih _ (fun u hu => h1 u (by simp [hu])) (fun u hu => joinS_mem hu h2 (h1 s (by simp))) t ht
  exact key l [] hl (by simp)
theorem opL_mem {O H : List Int} {a b : Int} : ∀ t ∈ opL O H a b, 0 ≤ t.1 ∧ t.1 < t.2 ∧ t.2 ≤ 1073741824 := by
  by_cases hr : rngOk O H a b
  · rw [op_ok hr]
    have ⟨⟨ho, _⟩, r0, r1, r2⟩ := hr
    exact joinL_mem (fun u hu => by have := dsp_mem ho hu; omega)
  · rw [op_no hr]; simp
theorem opL_len (O H : List Int) (a b : Int) : (opL O H a b).length ≤ 1000000 := by
  by_cases hr : rngOk O H a b
  · rw [op_ok hr]
    have h1 := joinL_len (dsp O H a b (a / 1440) (endD (a / 1440) b))
    have h2 := dsp_len O H a b (a / 1440) (endD (a / 1440) b) (endD_le _ _)
    have := hr.2.1; have := hr.2.2.1; have := hr.2.2.2
    unfold endD at *; omega
  · rw [op_no hr]; simp
theorem wk_sum (O H : List Int) (a b : Int) : wkN O H a b = sumS (opL O H a b) ∧ wkE O H a b = opE O H a b := by
  by_cases hr : rngOk O H a b
  · rw [op_ok hr, ope_ok hr, sumS_joinL]; exact wk_ok hr
  · rw [op_no hr, ope_no hr]; exact wk_no hr
theorem wk_bd (O H : List Int) (a b : Int) : sumS (opL O H a b) ≤ 1200000000 := by
  rw [← (wk_sum O H a b).1]
  by_cases hr : rngOk O H a b
  · have ⟨⟨ho, _⟩, r0, r1, r2⟩ := hr
    rw [(wk_ok hr).1]
    have h3 := sumS_dsp (H := H) ho a b (a / 1440) (endD (a / 1440) b) (endD_le _ _)
    unfold endD at h3 ⊢
    omega
  · rw [(wk_no hr).1]; omega
theorem sumS_take {L : List Sp} (h : ∀ t ∈ L, t.1 < t.2) (i : Nat) : 0 ≤ sumS (L.take i) ∧ sumS (L.take i) ≤ sumS L := by
  have h1 := sumS_nonneg (l := L.take i) (fun t ht => h t (List.mem_of_mem_take ht))
  have h2 := sumS_nonneg (l := L.drop i) (fun t ht => h t (List.mem_of_mem_drop ht))
  have h3 := sumS_append (L.take i) (L.drop i)
  rw [List.take_append_drop] at h3
  omega
set_option maxHeartbeats 2000000 in
set_option maxRecDepth 100000 in
theorem rwork_any (O : List Int) (hO : O.length = 14) (A : Option Addr) (len cap : Nat) (H : List Int) (w : World) (hH : Hol w A len H) (hlen : len < 4611686018427387904) (a b : Int) :
    Calls Tryd.prog 26 #[calV O A len cap, .int .i64 a, .int .i64 b] w fun e w' => e = .returned (.tuple #[.int .i64 (wkN O H a b), .int .i64 (wkE O H a b)]) ∧ Below w.heap.size w w' := by
  obtain ⟨e1, e2⟩ := wk_sum O H a b
  rw [e1, e2]
  have hbd := wk_bd O H a b
  have hmem := @opL_mem O H a b
  have hll : (opL O H a b).length ≤ 1000000 := opL_len O H a b
  have CO := hid (fun o => ropen_any O hO A len cap H (w.alloc o) (hH.alloc o) hlen a b)
  have hs15 : (Tryd.prog.info? 43).map (·.size) = some (calC O A len cap).toArray.size := by rw [calC_size O hO]; exact size43
  have HS := hid hs15
  unfold calV at *
  clear hO hH hs15 e1 e2
  generalize (calC O A len cap).toArray = cs at *
  generalize opL O H a b = L at *
  generalize opE O H a b = er at *
  have HM := hid hmem
  have HT := hid (fun i => sumS_take (L := L) (fun t ht => (hmem t ht).2.1) i)
  clear hmem
  have B0 := hid (Blk.new w 43 cs)
  have HE0 := hid ((Below.refl w.heap.size w).alloc (Nat.le_refl _) (.cells cs 43))
  go_enter Tryd.func26, Tryd.ntmps26
  go_wp2_with (refine wpList_load_row rfl 43 _ rfl w.heap.size rfl 43 cs (0, 0) _ B0.out Tryd.underlying43 rfl HS.out ?_)
  refine (CO.out _).mono ?_
  rintro e w1 ⟨A', c', rfl, hs, hb⟩
  have HE1 := hid (HE0.out.trans (hb.mono HE0.out.size))
  have HR := hid hs
  clear hb hs
  go_wp2_with fail
  go_loopw [10, 11] (fun s10 s11 wr => ∃ i : Nat, i ≤ L.length ∧ s11 = .int .i64 i ∧ s10 = .int .i64 (sumS (L.take i)) ∧ Hid (Below w.heap.size w wr) ∧ Hid (SpR wr A' L)) (fun _ s11 _ => L.length - (intOf s11).toNat)
  case atStart => exact ⟨0, by omega, rfl, rfl, HE1, HR⟩
  case round =>
    obtain ⟨i, hi, rfl, rfl, HD, HQ⟩ := hrel
    by_cases hlt : i < L.length
    · obtain ⟨s, hs⟩ : ∃ s, L[i]? = some s := ⟨L[i], List.getElem?_eq_getElem hlt⟩
      have ⟨e1, e2⟩ := spC_get L i s hs
      obtain ⟨bb, off, rfl, hbb, hcs⟩ := HQ.out (by intro e; rw [e] at hlt; simp at hlt)
      have l0 : wr.cell? ⟨bb, off + i * 2, none⟩ = some (.int .i64 s.1) := by have := hcs _ _ e1; rwa [Nat.mul_comm 2] at this
      have l1 : wr.cell? ⟨bb, off + i * 2 + 1, none⟩ = some (.int .i64 s.2) := by have := hcs _ _ e2; rwa [Nat.mul_comm 2, ← Nat.add_assoc] at this
      have ht := HT.out i
      have hm := HM.out s (List.mem_of_getElem? hs)
      have HN : Hid (sumS (L.take (i + 1)) = sumS (L.take i) + (s.2 - s.1)) := hid (by rw [List.take_add_one, hs, sumS_append]; simp [sumS_one])
      clear hcs e1 e2 hs
      generalize sumS (L.take i) = n at *
      go_wp2_with fail
      go_quiet (fail)
      go_wp2_with fail
      exact ⟨⟨i + 1, by omega, by go_num, by rw [HN.out]; congr 1; omega, hid (below_drewN HD.out nq), hid (HQ.out.drewN nq)⟩, by simp [intOf]; omega⟩
    · have : i = L.length := by omega
      subst this
      go_wp2_with fail
      refine bodyPost_ret (v := .tuple #[.int .i64 (sumS L), .int .i64 er]) (by simp [results, Tryd.results26, go_sem]) rfl ⟨rfl, HD.out⟩
end Go.Proofs.YthkmnoobajaooaaDoor
