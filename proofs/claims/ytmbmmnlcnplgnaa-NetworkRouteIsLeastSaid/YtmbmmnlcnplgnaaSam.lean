/-
  The walks of the reference's SameInts and SameShares, of the law package's small and example. Condition: the lists lie in memory as they read.
-/
import Derived.Test.YtmbmmnlcnplgnaaRsh
import Derived.Laws.StructEq
namespace Go.Proofs.Ytmbmmnlcnplgnaa
open Go.RowKit
set_option maxHeartbeats 2000000 in
theorem sameI_any (A B : Option Addr) (ca cb : Nat) (L M : List Int) (w : World) (hA : IntR w A L) (hB : IntR w B M) (hl : L.length ≤ 1000000000) :
    Calls Try.prog 25 #[.slice A L.length ca, .slice B M.length cb] w fun e w' => e = .returned (.bool (decide (L = M))) ∧ Below w.heap.size w w' := by
  have HA := hid hA
  have HB := hid hB
  obtain ⟨r, hr⟩ : ∃ r, decide (L = M) = r := ⟨_, rfl⟩
  rw [hr]
  have HR0 := hid hr
  clear hA hB hr
  by_cases hlen : L.length = M.length
  · have hne : ((L.length : Int) != M.length) = false := by simp [hlen]
    have HLN := hid hlen
    clear hlen
    go_enter Try.func25, Try.ntmps25
    go_wp2_with fail
    go_loopw [5] (fun s5 wr => ∃ i : Nat, i ≤ L.length ∧ s5 = .int .i64 i ∧ Hid (L.take i = M.take i) ∧ Hid (Below w.heap.size w wr)) (fun s5 _ => L.length - (intOf s5).toNat)
    case atStart => exact ⟨0, by omega, rfl, hid (by simp), hid (Below.refl _ _)⟩
    case round =>
      obtain ⟨i, hi, rfl, HT, HQ⟩ := hrel
      by_cases hlt : i < L.length
      · have hlt2 : i < M.length := HLN.out ▸ hlt
        obtain ⟨b1, o1, rfl, _, hc1⟩ := (HA.out.below HQ.out).at (by omega)
        obtain ⟨b2, o2, rfl, _, hc2⟩ := (HB.out.below HQ.out).at (by omega)
        have l0 := hc1 i hlt
        have m0 := hc2 i hlt2
        have HS : Hid (L[i]? = some (L.getD i 0)) := hid (by rw [List.getD_eq_getElem?_getD, List.getElem?_eq_getElem hlt]; rfl)
        have HTT : Hid (M[i]? = some (M.getD i 0)) := hid (by rw [List.getD_eq_getElem?_getD, List.getElem?_eq_getElem hlt2]; rfl)
        clear hc1 hc2
        generalize L.getD i 0 = x at *
        generalize M.getD i 0 = y at *
        by_cases hxy : x = y
        · have k0 : (x != y) = false := by simpa using hxy
          have HXY := hid hxy
          clear hxy
          go_wp2_with fail
          go_big_quiet (fail)
          go_wp2_with fail
          exact ⟨⟨i + 1, by omega, by go_num, hid (by rw [List.take_add_one, List.take_add_one, HT.out, HS.out, HTT.out, HXY.out]), hid (below_drewN HQ.out _)⟩, by simp [intOf]; omega⟩
        · have k0 : (x != y) = true := by simpa using hxy
          have hr0 : r = false := by
            rw [← HR0.out]; refine decide_eq_false (fun e => hxy ?_)
            have h1 := HS.out; have h2 := HTT.out
            rw [e, h2] at h1; injection h1 with h1; exact h1.symm
          subst hr0
          clear hxy
          go_wp2_with fail
          go_big_quiet (fail)
          go_wp2_with fail
          go_ret
          exact ⟨rfl, below_drewN HQ.out _⟩
      · have : i = L.length := by omega
        subst this
        have hr1 : r = true := by
          rw [← HR0.out]; refine decide_eq_true ?_
          have := HT.out
          rwa [List.take_length, HLN.out, List.take_length] at this
        subst hr1
        go_wp2_with fail
        go_ret
        exact ⟨rfl, HQ.out⟩
  · have hne : ((L.length : Int) != M.length) = true := by simp; omega
    have hr0 : r = false := by rw [← HR0.out]; exact decide_eq_false (fun e => hlen (by rw [e]))
    subst hr0
    clear hlen
    go_enter Try.func25, Try.ntmps25
    go_wp2_with fail
    go_ret
    exact ⟨rfl, Below.refl _ _⟩
theorem fields51 : Try.prog.fieldsOf 51 = #[{ name := "Railway", type := 3, offset := 0, embedded := false, tag := "", pkgPath := "", byteOffset := 0 }, { name := "Km", type := 3, offset := 1, embedded := false, tag := "", pkgPath := "", byteOffset := 8 }] := by kernel_rfl
theorem stood51 : Try.prog.stoodInHeld 51 = false := by kernel_rfl
theorem guard51 : Try.prog.eqGuardType Try.prog.depth 51 = false := by kernel_rfl
theorem eq_shr (a b c d : Int) (w : World) : (Op.equalIn 10000 51 (.agg #[.int .i64 a, .int .i64 b]) (.agg #[.int .i64 c, .int .i64 d])).run Try.prog w = .ok (a == c && b == d) w := by
  rw [show (10000 : Nat) = 9999 + 1 from rfl, run_equalIn_agg w 9999 51 _ _ (by rw [fields51]; exact Try.underlying51) stood51, fields51]
  simp only [Op.eqFields]
  have e : ∀ x y w, (Op.equalIn 9999 3 (.int .i64 x) (.int .i64 y)).run Try.prog w = .ok (x == y) w := fun x y w => run_equalIn_int w 9998 3 .i64 .i64 x y Try.underlying3
  by_cases h : a = c
  · subst h
    by_cases h2 : b = d
    · subst h2; simp [go_sem, part, e]
    · simp [go_sem, part, e, h2]
  · simp [go_sem, part, e, h]
theorem neq_shr (a b c d : Int) (w : World) : (binOp .neq 51 (.agg #[.int .i64 a, .int .i64 b]) (.agg #[.int .i64 c, .int .i64 d])).run Try.prog w = .ok (.bool (!(a == c && b == d))) w := by
  rw [run_neq_struct, eq_shr]; rfl
set_option maxHeartbeats 2000000 in
theorem sameS_any (A B : Option Addr) (ca cb : Nat) (L M : List (Int × Int)) (w : World) (hA : ShrR w A L) (hB : ShrR w B M) (hl : L.length ≤ 1000000000) :
    Calls Try.prog 27 #[.slice A L.length ca, .slice B M.length cb] w fun e w' => e = .returned (.bool (decide (L = M))) ∧ Below w.heap.size w w' := by
  have HA := hid hA
  have HB := hid hB
  obtain ⟨r, hr⟩ : ∃ r, decide (L = M) = r := ⟨_, rfl⟩
  rw [hr]
  have HR0 := hid hr
  clear hA hB hr
  by_cases hlen : L.length = M.length
  · have hne : ((L.length : Int) != M.length) = false := by simp [hlen]
    have HLN := hid hlen
    clear hlen
    go_enter Try.func27, Try.ntmps27
    go_wp2_with fail
    go_loopw [5] (fun s5 wr => ∃ i : Nat, i ≤ L.length ∧ s5 = .int .i64 i ∧ Hid (L.take i = M.take i) ∧ Hid (Below w.heap.size w wr)) (fun s5 _ => L.length - (intOf s5).toNat)
    case atStart => exact ⟨0, by omega, rfl, hid (by simp), hid (Below.refl _ _)⟩
    case round =>
      obtain ⟨i, hi, rfl, HT, HQ⟩ := hrel
      by_cases hlt : i < L.length
      · have hlt2 : i < M.length := HLN.out ▸ hlt
        obtain ⟨s, hs⟩ : ∃ s, L[i]? = some s := ⟨L[i], List.getElem?_eq_getElem hlt⟩
        obtain ⟨t, ht⟩ : ∃ t, M[i]? = some t := ⟨M[i]'hlt2, List.getElem?_eq_getElem hlt2⟩
        obtain ⟨b1, o1, rfl, _, hc1⟩ := (HA.out.below HQ.out).at (by omega)
        obtain ⟨b2, o2, rfl, _, hc2⟩ := (HB.out.below HQ.out).at (by omega)
        obtain ⟨l0, l1⟩ := hc1 i s hs
        obtain ⟨m0, m1⟩ := hc2 i t ht
        have HS := hid hs
        have HTT := hid ht
        clear hc1 hc2 hs ht
        have NS := neq_shr s.1 s.2 t.1 t.2
        have NG := fun x y w => run_eqGuard_agg (P := Try.prog) w .neq 51 x y #[.int .i64 s.1, .int .i64 s.2] #[.int .i64 t.1, .int .i64 t.2] guard51
        by_cases hst : s = t
        · subst hst
          have hb : (s.1 == s.1 && s.2 == s.2) = true := by simp
          rw [hb] at NS
          clear hb
          go_wp2_with fail
          go_big_quiet (fail)
          go_wp2_with fail
          exact ⟨⟨i + 1, by omega, by go_num, hid (by rw [List.take_add_one, List.take_add_one, HT.out, HS.out, HTT.out]), hid (below_drewN HQ.out _)⟩, by simp [intOf]; omega⟩
        · have hb : (s.1 == t.1 && s.2 == t.2) = false := by
            rw [Bool.eq_false_iff]; intro h; rw [Bool.and_eq_true, beq_iff_eq, beq_iff_eq] at h; exact hst (Prod.ext h.1 h.2)
          rw [hb] at NS
          have hr0 : r = false := by
            rw [← HR0.out]; refine decide_eq_false (fun e => hst ?_)
            have h1 := HS.out; have h2 := HTT.out
            rw [e, h2] at h1; injection h1 with h1; exact h1.symm
          subst hr0
          clear hb hst
          go_wp2_with fail
          go_big_quiet (fail)
          go_wp2_with fail
          go_ret
          exact ⟨rfl, below_drewN HQ.out _⟩
      · have : i = L.length := by omega
        subst this
        have hr1 : r = true := by
          rw [← HR0.out]; refine decide_eq_true ?_
          have := HT.out
          rwa [List.take_length, HLN.out, List.take_length] at this
        subst hr1
        go_wp2_with fail
        go_ret
        exact ⟨rfl, HQ.out⟩
  · have hne : ((L.length : Int) != M.length) = true := by simp; omega
    have hr0 : r = false := by rw [← HR0.out]; exact decide_eq_false (fun e => hlen (by rw [e]))
    subst hr0
    clear hlen
    go_enter Try.func27, Try.ntmps27
    go_wp2_with fail
    go_ret
    exact ⟨rfl, Below.refl _ _⟩
def smlB (n m : Nat) : Bool := decide (n ≤ 12 ∧ m ≤ 40)
theorem small_any (A1 A2 : Option Addr) (n1 c1 n2 c2 : Nat) (w : World) : Calls Try.prog 20 #[netV A1 n1 c1 A2 n2 c2] w fun e w' => e = .returned (.bool (smlB n1 n2)) ∧ Below w.heap.size w w' := by
  have HE := hid ((Below.refl w.heap.size w).alloc (Nat.le_refl _) (.cells #[.slice A1 n1 c1, .slice A2 n2 c2] 25))
  unfold smlB netV
  go_enter Try.func20, Try.ntmps20
  go_wp2_with fail
  all_goals go_ret
  all_goals refine ⟨ret_bool ?_, HE.out⟩
  · rw [decide_eq_decide]; omega
  · simp; omega
end Go.Proofs.Ytmbmmnlcnplgnaa
