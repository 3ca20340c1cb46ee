/-
  The walk of CalendarMeets: it answers true. Condition: the table lies in block 0, the holidays lie in memory as lists read.
-/
import Derived.Test.YthkmnoobajaooaaDoorLaw10
import Derived.Test.YthkmnoobajaooaaDoorBot
import Derived.Test.YthkmnoobajaooaaDoorSpInt
namespace Go.Proofs.YthkmnoobajaooaaDoor
open Go.RowKit Go.Shelf Go.Sort
theorem wpList_load_row_g {P : Program} {ops : Array Oper} {rest : List Oper} {o : Oper} {a : Act} {w : World} {Q : Exit → Act → World → Prop} (hgd : Region.wanted o (yielded ops a.tmps) = true) (ty : TypeId) (x : Operand) (ho : o.op = .load ty x)
    (g : Nat) (hx : a.eval x = .pointer (some ⟨g, 0, none⟩)) (t : TypeId) (cs : Array Value) (fr : Nat × Nat) (d : TypeDesc) (hg : w.heap[g]? = some (.cells cs t fr))
    (hu : P.underlying ty = some d) (hd : (match d with | .struct _ | .array _ _ => true | _ => false) = true) (hi : (P.info? ty).map (·.size) = some cs.size)
    (h : wpList P ops Q rest (a.put o.dst (.agg cs)) w) : wpList P ops Q (o :: rest) a w :=
  wpList_step fun _ hK => by rw [if_pos hgd]; exact wp_load_row ty x ho g hx t cs fr d hg hu hd hi (hK _ _ h)
theorem meets_law {Oa Ha Ob Hb Oc Hc : List Int} {a b : Int} (ra : rngOk Oa Ha a b) (rb : rngOk Ob Hb a b) (hc : BothC Oa Ha Ob Hb Oc Hc) {I : List Sp} (hI : Spn.IntC (opL Oa Ha a b) (opL Ob Hb a b) I) : I = opL Oc Hc a b := by
  have rc : rngOk Oc Hc a b := ⟨hc.ok, ra.2⟩
  refine Spn.Nrm.ext hI.1 (Spn.op_all rc).1 (fun m => ?_)
  rw [hI.2.1, (Spn.op_all ra).2.2, (Spn.op_all rb).2.2, (Spn.op_all rc).2.2]
  have h0 := ra.2.1
  have h1 := ra.2.2.2
  unfold Spn.MX
  constructor
  · rintro ⟨p, q, ⟨r, s, t⟩, _, _, t'⟩; exact ⟨r, s, (hc.opn m p).2 ⟨t, t'⟩⟩
  · rintro ⟨r, s, t⟩
    obtain ⟨t1, t2⟩ := (hc.opn m (by omega)).1 t
    exact ⟨by omega, by omega, ⟨r, s, t1⟩, r, s, t2⟩
theorem int_nil {I : List Sp} (hI : Spn.IntC [] [] I) : I = [] :=
  Spn.Nrm.ext hI.1 trivial (fun m => by rw [hI.2.1]; exact ⟨fun h => absurd h.2.2.1 (Spn.mem_nil m), fun h => absurd h (Spn.mem_nil m)⟩)
/-- What the three lists come to. -/
theorem meets_all {Oa Ha Ob Hb Oc Hc : List Int} {a b : Int} (ha : calOk Oa Ha) (hb : calOk Ob Hb) (hc : BothC Oa Ha Ob Hb Oc Hc) :
    opE Oa Ha a b = opE Ob Hb a b ∧ opE Ob Hb a b = opE Oc Hc a b ∧ ∀ I, Spn.IntC (opL Oa Ha a b) (opL Ob Hb a b) I → I = opL Oc Hc a b := by
  by_cases hr : 0 ≤ a ∧ a ≤ b ∧ b ≤ 1073741824
  · have ra : rngOk Oa Ha a b := ⟨ha, hr⟩
    have rb : rngOk Ob Hb a b := ⟨hb, hr⟩
    have rc : rngOk Oc Hc a b := ⟨hc.ok, hr⟩
    rw [ope_ok ra, ope_ok rb, ope_ok rc]
    exact ⟨rfl, rfl, fun I hI => meets_law ra rb hc hI⟩
  · have ra : ¬ rngOk Oa Ha a b := fun h => hr h.2
    have rb : ¬ rngOk Ob Hb a b := fun h => hr h.2
    have rc : ¬ rngOk Oc Hc a b := fun h => hr h.2
    rw [ope_no ra, ope_no rb, ope_no rc, op_no ra, op_no rb, op_no rc]
    exact ⟨rfl, rfl, fun I hI => int_nil hI⟩
theorem opL_few {O H : List Int} {len : Nat} {a b : Int} (hf : fewB len a b = true) : (opL O H a b).length ≤ 1000 := by
  by_cases hr : rngOk O H a b
  · exact opL_short hr (fewB_day hf hr.2.1 hr.2.2.1 hr.2.2.2)
  · rw [op_no hr]; simp
set_option maxHeartbeats 4000000 in
set_option maxRecDepth 100000 in
theorem meets_walk (Oa : List Int) (hOa : Oa.length = 14) (A : Option Addr) (la ca : Nat) (Ha : List Int) (Ob : List Int) (hOb : Ob.length = 14) (B : Option Addr) (lb cb : Nat) (Hb : List Int) (w : World)
    (hHa : Hol w A la Ha) (hHb : Hol w B lb Hb) (a b : Int) (hB : Bef w) :
    Calls Tryd.prog 8 #[calV Oa A la ca, calV Ob B lb cb, .int .i64 a, .int .i64 b] w fun e w' => e = .returned (.bool true) ∧ Below w.heap.size w w' := by
  have CS := hid sane_any
  have CFA := hid (fun W => few_any Oa hOa A la ca W a b)
  have CFB := hid (fun W => few_any Ob hOb B lb cb W a b)
  have CKA := hid (fun W (h : Hol W A la Ha) => check_any Oa hOa A la ca Ha W h)
  have CKB := hid (fun W (h : Hol W B lb Hb) => check_any Ob hOb B lb cb Hb W h)
  have COA := hid (fun (hl : la ≤ 300) W (h : Hol W A la Ha) => open_any2 Oa hOa A la ca Ha W h (by omega) a b)
  have COB := hid (fun (hl : lb ≤ 300) W (h : Hol W B lb Hb) => open_any2 Ob hOb B lb cb Hb W h (by omega) a b)
  have CBO := hid (fun (ha : calOk Oa Ha) (hb : calOk Ob Hb) (h1 : la ≤ 300) (h2 : lb ≤ 300) W (h : Hol W A la Ha) (h' : Hol W B lb Hb) => both_any Oa hOa A la ca Ha Ob hOb B lb cb Hb W h h' ha hb h1 h2)
  have hs15 : (Tryd.prog.info? 43).map (·.size) = some (calC Oa A la ca).toArray.size := by rw [calC_size Oa hOa]; exact size43
  have hs16 : (Tryd.prog.info? 43).map (·.size) = some (calC Ob B lb cb).toArray.size := by rw [calC_size Ob hOb]; exact size43
  have HSA := hid hs15
  have HSB := hid hs16
  unfold calV at CFA CFB CKA CKB COA COB CBO ⊢
  clear hOa hOb hs15 hs16
  generalize (calC Oa A la ca).toArray = cs at *
  generalize (calC Ob B lb cb).toArray = ds at *
  obtain ⟨W0, hW0⟩ : ∃ W0, (w.alloc (.cells cs 43)).alloc (.cells ds 43) = W0 := ⟨_, rfl⟩
  have b0 : Blk W0 w.heap.size 43 cs := by rw [← hW0]; exact (Blk.new _ _ _).alloc _
  have b1 : Blk W0 (w.heap.size + 1) 43 ds := by rw [← hW0]; exact Blk.of_size _ (by simp) _ _
  have hb0 : Below w.heap.size w W0 := by rw [← hW0]; exact ((Below.refl _ _).alloc (Nat.le_refl _) _).alloc (by simp) _
  have hB0 : Bef W0 := by rw [← hW0]; exact (hB.alloc _).alloc _
  have HBA := hid b0
  have HBB := hid b1
  have HE := hid hb0
  have HB0 := hid hB0
  have HHA := hid hHa
  have HHB := hid hHb
  have HW0 := hid hW0
  clear hB hHa hHb b0 b1 hb0 hB0 hW0
  have HFA1 : Hid (fewB la a b = true → la ≤ 300) := hid fewB_len'
  have HFB1 : Hid (fewB lb a b = true → lb ≤ 300) := hid fewB_len'
  have HLA : Hid (fewB la a b = true → ∀ O H, (opL O H a b).length ≤ 1000) := hid (fun h O H => opL_few h)
  generalize fewB la a b = fa at *
  generalize fewB lb a b = fb at *
  go_enter Tryd.func8, Tryd.ntmps8
  go_upto_region 1 with fail
  rw [HW0.out]
  go_wp2_with fail
  refine (CS.out _ HB0.out).mono ?_
  rintro e w1 ⟨rfl, hb⟩
  replace HE := hid (HE.out.trans (hb.mono HE.out.size))
  replace HBA := hid (HBA.out.below hb HBA.out.lt)
  replace HBB := hid (HBB.out.below hb HBB.out.lt)
  clear hb CS HB0 HW0
  go_wp2_with (refine wpList_load_row rfl 43 _ rfl w.heap.size rfl 43 cs (0, 0) _ HBA.out Tryd.underlying43 rfl HSA.out ?_)
  refine (CFA.out _).mono ?_
  rintro e w2 ⟨rfl, hb⟩
  replace HE := hid (HE.out.trans (hb.mono HE.out.size))
  replace HBA := hid (HBA.out.below hb HBA.out.lt)
  replace HBB := hid (HBB.out.below hb HBB.out.lt)
  clear hb CFA
  cases fa with
  | false =>
    go_wp2_with fail
    go_ret
    exact ⟨rfl, HE.out⟩
  | true =>
    have hla := HFA1.out rfl
    have HLO : Hid (∀ O H, (opL O H a b).length ≤ 1000) := hid (HLA.out rfl)
    clear HFA1 HLA
    go_wp2_with (refine wpList_load_row_g rfl 43 _ rfl (w.heap.size + 1) rfl 43 ds (0, 0) _ HBB.out Tryd.underlying43 rfl HSB.out ?_)
    refine (CFB.out _).mono ?_
    rintro e w3 ⟨rfl, hb⟩
    replace HE := hid (HE.out.trans (hb.mono HE.out.size))
    replace HBA := hid (HBA.out.below hb HBA.out.lt)
    replace HBB := hid (HBB.out.below hb HBB.out.lt)
    clear hb
    cases fb with
    | false =>
      go_wp2_with fail
      go_ret
      exact ⟨rfl, HE.out⟩
    | true =>
      have hlb := HFB1.out rfl
      clear HFB1 CFB
      go_wp2_with (refine wpList_load_row_g rfl 43 _ rfl w.heap.size rfl 43 cs (0, 0) _ HBA.out Tryd.underlying43 rfl HSA.out ?_)
      refine (CKA.out _ (HHA.out.below HE.out)).mono ?_
      rintro e w4 ⟨rfl, hb⟩
      replace HE := hid (HE.out.trans (hb.mono HE.out.size))
      replace HBA := hid (HBA.out.below hb HBA.out.lt)
      replace HBB := hid (HBB.out.below hb HBB.out.lt)
      clear hb
      by_cases hka : calOk Oa Ha
      rotate_left
      · rw [calE_no hka]
        go_wp2_with fail
        go_ret
        exact ⟨rfl, HE.out⟩
      rw [calE_ok hka]
      go_wp2_with (refine wpList_load_row_g rfl 43 _ rfl (w.heap.size + 1) rfl 43 ds (0, 0) _ HBB.out Tryd.underlying43 rfl HSB.out ?_)
      refine (CKB.out _ (HHB.out.below HE.out)).mono ?_
      rintro e w5 ⟨rfl, hb⟩
      replace HE := hid (HE.out.trans (hb.mono HE.out.size))
      replace HBA := hid (HBA.out.below hb HBA.out.lt)
      replace HBB := hid (HBB.out.below hb HBB.out.lt)
      clear hb
      by_cases hkb : calOk Ob Hb
      rotate_left
      · rw [calE_no hkb]
        go_wp2_with fail
        go_ret
        exact ⟨rfl, HE.out⟩
      rw [calE_ok hkb]
      clear CKA CKB
      have HKA := hid hka
      have HKB := hid hkb
      clear hka hkb
      go_wp2_with (refine wpList_load_row rfl 43 _ rfl w.heap.size rfl 43 cs (0, 0) _ HBA.out Tryd.underlying43 rfl HSA.out ?_)
      refine (COA.out hla _ (HHA.out.below HE.out)).mono ?_
      rintro e w6 ⟨Al, cl, rfl, hs, hn, hb⟩
      replace HE := hid (HE.out.trans (hb.mono HE.out.size))
      replace HBA := hid (HBA.out.below hb HBA.out.lt)
      replace HBB := hid (HBB.out.below hb HBB.out.lt)
      have Rl := hid (SpR.spn hs)
      have Nl := hid hn
      clear hs hn hb
      go_wp2_with (refine wpList_load_row rfl 43 _ rfl (w.heap.size + 1) rfl 43 ds (0, 0) _ HBB.out Tryd.underlying43 rfl HSB.out ?_)
      refine (COB.out hlb _ (HHB.out.below HE.out)).mono ?_
      rintro e w7 ⟨Am, cm, rfl, hs, hn, hb⟩
      replace HE := hid (HE.out.trans (hb.mono HE.out.size))
      replace HBA := hid (HBA.out.below hb HBA.out.lt)
      replace HBB := hid (HBB.out.below hb HBB.out.lt)
      have Rm := hid (SpR.spn hs)
      have Nm := hid hn
      replace Rl := hid (Rl.out.below hb)
      clear hs hn hb
      go_wp2_with (first | refine wpList_load_row rfl 43 _ rfl w.heap.size rfl 43 cs (0, 0) _ HBA.out Tryd.underlying43 rfl HSA.out ?_ | refine wpList_load_row rfl 43 _ rfl (w.heap.size + 1) rfl 43 ds (0, 0) _ HBB.out Tryd.underlying43 rfl HSB.out ?_)
      refine (CBO.out HKA.out HKB.out hla hlb _ (HHA.out.below HE.out) (HHB.out.below HE.out)).mono ?_
      rintro e w8 ⟨Oc, Hc, C, cc, rfl, hc, hC, hl, hb⟩
      replace HE := hid (HE.out.trans (hb.mono HE.out.size))
      replace Rl := hid (Rl.out.below hb)
      replace Rm := hid (Rm.out.below hb)
      have HAL := hid (meets_all (a := a) (b := b) HKA.out HKB.out hc)
      have HLC := HLO.out Oc Hc
      have CO := hid (open_any2 Oc hc.len C Hc.length cc Hc w8 hC (by omega) a b)
      clear hb hC CBO HBA HBB
      unfold calV at CO
      generalize (calC Oc C Hc.length cc).toArray = vc at *
      go_wp2_with fail
      refine CO.out.mono ?_
      rintro e w9 ⟨Ao, co, rfl, hs, hn, hb⟩
      replace HE := hid (HE.out.trans (hb.mono HE.out.size))
      have Ro := hid (SpR.spn hs)
      replace Rl := hid (Rl.out.below hb)
      replace Rm := hid (Rm.out.below hb)
      clear hs hb CO COA COB
      have HLL := HLO.out Oa Ha
      have HLM := HLO.out Ob Hb
      obtain ⟨e1, e2, HI⟩ := HAL.out
      rw [e1, e2]
      have HU := hid HI
      clear HI HAL e1 e2 HLO HKA HKB
      generalize opE Oc Hc a b = er at *
      generalize opL Oa Ha a b = L at *
      generalize opL Ob Hb a b = M at *
      generalize opL Oc Hc a b = K at *
      go_wp2_with fail
      refine (Spn.intersect_any L M Al Am cl cm _ Rl.out Rm.out (by omega) (by omega)).mono ?_
      rintro e w10 ⟨U, v, rfl, hU, ⟨Au, cu, rfl, hRu, _⟩, hb⟩
      obtain rfl := HU.out U hU
      replace HE := hid (HE.out.trans (hb.mono HE.out.size))
      have CL := hid (lists_any Au Ao cu co U U w10 (SpR.of_spn hRu) (SpR.of_spn (Ro.out.below hb)) (by omega))
      clear hb hU hRu HU Rl Rm Ro
      rw [show decide (U = U) = true by simp] at CL
      go_wp2_with fail
      refine CL.out.mono ?_
      rintro e w11 ⟨rfl, q, rfl⟩
      go_wp2_with fail
      go_ret
      exact ⟨rfl, below_drewN HE.out _⟩
end Go.Proofs.YthkmnoobajaooaaDoor
