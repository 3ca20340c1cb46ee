/-
  The walks of the reference's After and of Lists. Condition: the holidays, and the lists, lie in memory as they read.
-/
import Derived.Test.YthkmnoobajaooaaDoorRwk
import Derived.Laws.StructEq
namespace Go.Proofs.YthkmnoobajaooaaDoor
open Go.RowKit Go.Shelf Go.Sort
theorem fields32 : Tryd.prog.fieldsOf 32 = #[{ name := "From", type := 3, offset := 0, embedded := false, tag := "", pkgPath := "", byteOffset := 0 }, { name := "To", type := 3, offset := 1, embedded := false, tag := "", pkgPath := "", byteOffset := 8 }] := by kernel_rfl
theorem stood32 : Tryd.prog.stoodInHeld 32 = false := by kernel_rfl
theorem guard32 : Tryd.prog.eqGuardType Tryd.prog.depth 32 = false := by kernel_rfl
theorem eq_sp (a b c d : Int) (w : World) : (Op.equalIn 10000 32 (.agg #[.int .i64 a, .int .i64 b]) (.agg #[.int .i64 c, .int .i64 d])).run Tryd.prog w = .ok (a == c && b == d) w := by
  rw [show (10000 : Nat) = 9999 + 1 from rfl, run_equalIn_agg w 9999 32 _ _ (by rw [fields32]; exact Tryd.underlying32) stood32, fields32]
  simp only [Op.eqFields]
  have e : ∀ x y w, (Op.equalIn 9999 3 (.int .i64 x) (.int .i64 y)).run Tryd.prog w = .ok (x == y) w := fun x y w => run_equalIn_int w 9998 3 .i64 .i64 x y Tryd.underlying3
  by_cases h : a = c
  · subst h
    by_cases h2 : b = d
    · subst h2; simp [go_sem, part, e]
    · simp [go_sem, part, e, h2]
  · simp [go_sem, part, e, h]
theorem neq_sp (a b c d : Int) (w : World) : (binOp .neq 32 (.agg #[.int .i64 a, .int .i64 b]) (.agg #[.int .i64 c, .int .i64 d])).run Tryd.prog w = .ok (.bool (!(a == c && b == d))) w := by
  rw [run_neq_struct, eq_sp]; rfl
theorem dsp_front (O H : List Int) (a b x y : Int) (h : x < y) : dsp O H a b x y = dayS O H a b x ++ dsp O H a b (x + 1) y := by
  rw [dsp_append O H a b x (x + 1) y (by omega) (by omega), dsp_succ _ _ _ _ _ _ (Int.le_refl x), dsp_nil, List.nil_append]
/-- One day of After. -/
theorem after_step (O H : List Int) (a b x y n : Int) (h : x < y) (hn : 0 < n) :
    afterL (dsp O H a b x y) n = if n ≤ max ((tdy O H a b x).2 - (tdy O H a b x).1) 0 then some ((tdy O H a b x).1 + n) else afterL (dsp O H a b (x + 1) y) (n - max ((tdy O H a b x).2 - (tdy O H a b x).1) 0) := by
  rw [dsp_front O H a b x y h, tdy_day]
  generalize tdy O H a b x = s
  by_cases h1 : s.1 < s.2
  · rw [if_pos h1, show max (s.2 - s.1) 0 = s.2 - s.1 by omega]; rfl
  · rw [if_neg h1, show max (s.2 - s.1) 0 = 0 by omega, if_neg (by omega), List.nil_append, Int.sub_zero]
theorem tdy_bd {O H : List Int} (ho : openOk O) {a b d : Int} (h0 : 0 ≤ a) (h1 : a ≤ 1073741824) (h2 : b ≤ 1073741824) (h3 : 0 ≤ b) (h4 : 0 ≤ d) (h5 : d ≤ 745654) : 0 ≤ (tdy O H a b d).1 ∧ (tdy O H a b d).1 ≤ 1100000000 ∧ 0 ≤ (tdy O H a b d).2 ∧ (tdy O H a b d).2 ≤ 1073741824 := by
  obtain ⟨o1, o2, o3⟩ := ho (wdy d) (wdy_lt d)
  unfold tdy spOf
  by_cases h : d ∈ H
  · rw [if_pos h]; simp
  · rw [if_neg h]; simp only; omega
set_option maxHeartbeats 2000000 in
set_option maxRecDepth 100000 in
theorem rafter_no (O : List Int) (hO : O.length = 14) (A : Option Addr) (len cap : Nat) (H : List Int) (w : World) (hH : Hol w A len H) (a n : Int) (hr : ¬ (calOk O H ∧ 0 ≤ a ∧ a ≤ 1073741824 ∧ 0 ≤ n)) :
    Calls Tryd.prog 28 #[calV O A len cap, .int .i64 a, .int .i64 n] w fun e w' => e = .returned (.tuple #[.int .i64 0, .int .i64 1]) ∧ Below w.heap.size w w' := by
  have hcase : calE O H = 1 ∨ (calE O H = 0 ∧ ((a < 0) ∨ (0 ≤ a ∧ 1073741824 < a) ∨ (0 ≤ a ∧ a ≤ 1073741824 ∧ n < 0))) := by
    by_cases hc : calOk O H
    · refine .inr ⟨calE_ok hc, ?_⟩
      have : ¬ (0 ≤ a ∧ a ≤ 1073741824 ∧ 0 ≤ n) := fun h => hr ⟨hc, h⟩
      omega
    · exact .inl (calE_no hc)
  have CK := hid (fun o => rcheck_any O hO A len cap H (w.alloc o) (hH.alloc o))
  have hs15 : (Tryd.prog.info? 43).map (·.size) = some (calC O A len cap).toArray.size := by rw [calC_size O hO]; exact size43
  have HS := hid hs15
  unfold calV at *
  clear hO hr hH hs15
  generalize (calC O A len cap).toArray = cs at *
  generalize calE O H = er at *
  have B0 := hid (Blk.new w 43 cs)
  have HE0 := hid ((Below.refl w.heap.size w).alloc (Nat.le_refl _) (.cells cs 43))
  rcases hcase with rfl | ⟨rfl, h | ⟨h, h'⟩ | ⟨h, h', h''⟩⟩
  all_goals
    go_enter Tryd.func28, Tryd.ntmps28
    go_wp2_with (refine wpList_load_row rfl 43 _ rfl w.heap.size rfl 43 cs (0, 0) _ B0.out Tryd.underlying43 rfl HS.out ?_)
    refine (CK.out _).mono ?_
    rintro e w1 ⟨rfl, hb⟩
    have HE1 := hid (HE0.out.trans (hb.mono HE0.out.size))
    clear hb
    go_wp2_with fail
    exact bodyPost_ret (v := .tuple #[.int .i64 0, .int .i64 1]) (by simp [results, Tryd.results28, go_sem]) rfl ⟨rfl, HE1.out⟩
set_option maxHeartbeats 2000000 in
set_option maxRecDepth 100000 in
theorem rafter_yes (O : List Int) (hO : O.length = 14) (A : Option Addr) (len cap : Nat) (H : List Int) (w : World) (hH : Hol w A len H) (hlen : len < 4611686018427387904) (a n : Int) (hcal : calOk O H) (r0 : 0 ≤ a) (r1 : a ≤ 1073741824) (hn : 0 ≤ n) (hn2 : n ≤ 9223372036854775807) :
    Calls Tryd.prog 28 #[calV O A len cap, .int .i64 a, .int .i64 n] w fun e w' => e = .returned (.tuple #[.int .i64 (afN O H a n), .int .i64 (afE O H a n)]) ∧ Below w.heap.size w w' := by
  have CK := hid (fun o => rcheck_any O hO A len cap H (w.alloc o) (hH.alloc o))
  rw [calE_ok hcal] at CK
  have CT := hid (fun d W (h : Hol W A len H) hd0 hd1 => today_any O hO A len cap H W h hlen hcal d a 1073741824 hd0 hd1)
  have HTB := hid (fun d h4 h5 => tdy_bd (H := H) hcal.1 (d := d) r0 r1 (Int.le_refl _) (by omega) h4 h5)
  have HST := hid (fun x m h h2 => after_step O H a 1073741824 x 745655 m h h2)
  have hend : endD (a / 1440) 1073741824 = 745655 := by unfold endD; omega
  have HZ : Hid (n = 0 → afN O H a n = a ∧ afE O H a n = 0) := hid (fun e => by subst e; exact af_zero ⟨hcal, r0, r1⟩)
  have HS1 := hid (fun m (h0 : n ≠ 0) (h : afterL (dsp O H a 1073741824 (a / 1440) 745655) n = some m) => af_some ⟨hcal, r0, r1, hn⟩ h0 (by rw [hend]; exact h))
  have HS0 := hid (fun (h0 : n ≠ 0) (h : afterL (dsp O H a 1073741824 (a / 1440) 745655) n = none) => af_none ⟨hcal, r0, r1, hn⟩ h0 (by rw [hend]; exact h))
  have HNIL : Hid (∀ m, afterL (dsp O H a 1073741824 745655 745655) m = none) := hid (fun m => by rw [dsp_nil]; rfl)
  have hs15 : (Tryd.prog.info? 43).map (·.size) = some (calC O A len cap).toArray.size := by rw [calC_size O hO]; exact size43
  have HS := hid hs15
  have HH := hid hH
  unfold calV at *
  clear hO hH hs15 hcal hend
  generalize (calC O A len cap).toArray = cs at *
  generalize afN O H a n = rn at *
  generalize afE O H a n = re at *
  have B0 := hid (Blk.new w 43 cs)
  have HE0 := hid (Below.refl (w.heap.size + 1) (w.alloc (.cells cs 43)))
  rcases (by omega : n = 0 ∨ 0 < n) with hz | hp
  · obtain ⟨rfl, rfl⟩ := HZ.out hz
    subst hz
    go_enter Tryd.func28, Tryd.ntmps28
    go_wp2_with (refine wpList_load_row rfl 43 _ rfl w.heap.size rfl 43 cs (0, 0) _ B0.out Tryd.underlying43 rfl HS.out ?_)
    refine (CK.out _).mono ?_
    rintro e w1 ⟨rfl, hb⟩
    have HE1 := hid (((Below.refl w.heap.size w).alloc (Nat.le_refl _) (.cells cs 43)).trans (hb.mono (by simp)))
    clear hb
    go_wp2_with fail
    exact bodyPost_ret (v := .tuple #[.int .i64 rn, .int .i64 0]) (by simp [results, Tryd.results28, go_sem]) rfl ⟨rfl, HE1.out⟩
  · clear HZ
    have hnb : (n == 0) = false := by simp; omega
    go_enter Tryd.func28, Tryd.ntmps28
    go_wp2_with (refine wpList_load_row rfl 43 _ rfl w.heap.size rfl 43 cs (0, 0) _ B0.out Tryd.underlying43 rfl HS.out ?_)
    refine (CK.out _).mono ?_
    rintro e w1 ⟨rfl, hb⟩
    have HE1 := hid hb
    rw [World.size_alloc] at HE1
    clear hb
    go_wp2_with fail
    go_loopw [2, 8] (fun s2 s8 wr => ∃ (d m : Int), a / 1440 ≤ d ∧ d ≤ 745655 ∧ 0 < m ∧ m ≤ n ∧ s8 = .int .i64 d ∧ s2 = .int .i64 m ∧ Hid (afterL (dsp O H a 1073741824 (a / 1440) 745655) n = afterL (dsp O H a 1073741824 d 745655) m) ∧ Hid (Below (w.heap.size + 1) (w.alloc (.cells cs 43)) wr)) (fun _ s8 _ => (745655 - intOf s8).toNat)
    case atStart => exact ⟨a / 1440, n, by omega, by omega, hp, by omega, rfl, rfl, hid rfl, HE1⟩
    case round =>
      obtain ⟨d, m, hd0, hd1, hm0, hm1, rfl, rfl, HA, HB⟩ := hrel
      have hsz := HB.out.size
      simp at hsz
      by_cases hgo : d ≤ 745654
      · have BR := hid (B0.out.below HB.out (by omega))
        have CT1 := hid (CT.out d wr (HH.out.below (((Below.refl _ _).alloc (Nat.le_refl _) _).trans (HB.out.mono (by omega)))) (by omega) (by omega))
        have HST1 := hid (HST.out d m (by omega) hm0)
        obtain ⟨b1, b2, b3, b4⟩ := HTB.out d (by omega) (by omega)
        generalize hg : tdy O H a 1073741824 d = g at *
        obtain ⟨g1, g2⟩ := g
        clear hg
        simp only at CT1 HST1 b1 b2 b3 b4
        go_wp2_with (refine wpList_load_row rfl 43 _ rfl w.heap.size rfl 43 cs (0, 0) _ BR.out Tryd.underlying43 rfl HS.out ?_)
        refine CT1.out.mono ?_
        rintro e w2 ⟨rfl, hb2⟩
        have HB2 := hid ((HB.out.trans (hb2.mono (by omega))).alloc (by have := hb2.size; omega) (.cells #[.int .i64 g1, .int .i64 g2] 32))
        clear hb2 CT1
        obtain ⟨k, hk⟩ : ∃ k, max (g2 - g1) 0 = k := ⟨_, rfl⟩
        rw [hk] at HST1
        by_cases hkm : m ≤ k
        · rw [if_pos hkm] at HST1
          obtain ⟨rfl, rfl⟩ := HS1.out (g1 + m) (by omega) (HA.out.trans HST1.out)
          go_wp2_with fail
          exact bodyPost_ret (v := .tuple #[.int .i64 (g1 + m), .int .i64 0]) (by simp [results, Tryd.results28, go_sem]) rfl ⟨rfl, ((Below.refl _ _).alloc (Nat.le_refl _) _).trans (HB2.out.mono (by omega))⟩
        · rw [if_neg hkm] at HST1
          have hk0 : 0 ≤ k := by omega
          have HK := hid hk
          clear hk
          generalize hk2 : max (g2 - g1) 0 = k2 at *
          have hk3 : k2 = k := HK.out
          subst hk3
          go_wp2_with fail
          exact ⟨⟨d + 1, m - k2, by omega, by omega, by omega, by omega, rfl, rfl, hid (HA.out.trans HST1.out), HB2⟩, by simp [intOf]; omega⟩
      · obtain rfl : d = 745655 := by omega
        obtain ⟨rfl, rfl⟩ := HS0.out (by omega) (HA.out.trans (HNIL.out m))
        go_wp2_with fail
        exact bodyPost_ret (v := .tuple #[.int .i64 0, .int .i64 2]) (by simp [results, Tryd.results28, go_sem]) rfl ⟨rfl, ((Below.refl _ _).alloc (Nat.le_refl _) _).trans (HB.out.mono (by omega))⟩
theorem rafter_any (O : List Int) (hO : O.length = 14) (A : Option Addr) (len cap : Nat) (H : List Int) (w : World) (hH : Hol w A len H) (hlen : len < 4611686018427387904) (a n : Int) (hn2 : n ≤ 9223372036854775807) :
    Calls Tryd.prog 28 #[calV O A len cap, .int .i64 a, .int .i64 n] w fun e w' => e = .returned (.tuple #[.int .i64 (afN O H a n), .int .i64 (afE O H a n)]) ∧ Below w.heap.size w w' := by
  by_cases h : calOk O H ∧ 0 ≤ a ∧ a ≤ 1073741824 ∧ 0 ≤ n
  · exact rafter_yes O hO A len cap H w hH hlen a n h.1 h.2.1 h.2.2.1 h.2.2.2 hn2
  · obtain ⟨e1, e2⟩ := af_no h
    rw [e1, e2]; exact rafter_no O hO A len cap H w hH a n h
set_option maxHeartbeats 2000000 in
theorem lists_any (A B : Option Addr) (ca cb : Nat) (L M : List Sp) (w : World) (hA : SpR w A L) (hB : SpR w B M) (hl : L.length ≤ 4611686018427387904) :
    Calls Tryd.prog 31 #[.slice A L.length ca, .slice B M.length cb] w fun e w' => e = .returned (.bool (decide (L = M))) ∧ ∃ q, w' = w.drewN q := by
  have HA := hid hA
  have HB := hid hB
  generalize hr : decide (L = M) = r at *
  have HR0 := hid hr
  clear hA hB hr
  by_cases hlen : L.length = M.length
  · have hne : ((L.length : Int) != M.length) = false := by simp [hlen]
    have HLN := hid hlen
    clear hlen
    go_enter Tryd.func31, Tryd.ntmps31
    go_wp2_with fail
    go_loopw [5] (fun s5 wr => ∃ i : Nat, i ≤ L.length ∧ s5 = .int .i64 i ∧ Hid (L.take i = M.take i) ∧ Hid (∃ q, wr = w.drewN q)) (fun s5 _ => L.length - (intOf s5).toNat)
    case atStart => exact ⟨0, by omega, rfl, hid (by simp), hid ⟨0, rfl⟩⟩
    case round =>
      obtain ⟨i, hi, rfl, HT, HQ⟩ := hrel
      by_cases hlt : i < L.length
      · obtain ⟨s, hs⟩ : ∃ s, L[i]? = some s := ⟨L[i], List.getElem?_eq_getElem hlt⟩
        have hlt2 : i < M.length := HLN.out ▸ hlt
        obtain ⟨t, ht⟩ : ∃ t, M[i]? = some t := ⟨M[i]'hlt2, List.getElem?_eq_getElem hlt2⟩
        have ⟨e1, e2⟩ := spC_get L i s hs
        have ⟨g1, g2⟩ := spC_get M i t ht
        have hne2 : M ≠ [] := by intro e; rw [e] at hlt2; simp at hlt2
        obtain ⟨bb, off, rfl, hbb, hcs⟩ := HA.out (by intro e; rw [e] at hlt; simp at hlt)
        obtain ⟨b2, of2, rfl, hb2, hc2⟩ := HB.out hne2
        have HW : Hid (∀ p, wr.cell? p = w.cell? p) := hid (by obtain ⟨q, rfl⟩ := HQ.out; intro p; rfl)
        have l0 : wr.cell? ⟨bb, off + i * 2, none⟩ = some (.int .i64 s.1) := by have := hcs _ _ e1; rw [HW.out]; rwa [Nat.mul_comm 2] at this
        have l1 : wr.cell? ⟨bb, off + i * 2 + 1, none⟩ = some (.int .i64 s.2) := by have := hcs _ _ e2; rw [HW.out]; rwa [Nat.mul_comm 2, ← Nat.add_assoc] at this
        have m0 : wr.cell? ⟨b2, of2 + i * 2, none⟩ = some (.int .i64 t.1) := by have := hc2 _ _ g1; rw [HW.out]; rwa [Nat.mul_comm 2] at this
        have m1 : wr.cell? ⟨b2, of2 + i * 2 + 1, none⟩ = some (.int .i64 t.2) := by have := hc2 _ _ g2; rw [HW.out]; rwa [Nat.mul_comm 2, ← Nat.add_assoc] at this
        have HS := hid hs
        have HTT := hid ht
        clear hcs hc2 e1 e2 g1 g2 hs ht hne2
        have NS := neq_sp s.1 s.2 t.1 t.2
        have NG := fun x y w => run_eqGuard_agg (P := Tryd.prog) w .neq 32 x y #[.int .i64 s.1, .int .i64 s.2] #[.int .i64 t.1, .int .i64 t.2] guard32
        by_cases hst : s = t
        · subst hst
          have hb : (s.1 == s.1 && s.2 == s.2) = true := by simp
          rw [hb] at NS
          clear hb
          go_wp2_with fail
          go_quiet (fail)
          go_wp2_with fail
          exact ⟨⟨i + 1, by omega, by go_num, hid (by rw [List.take_add_one, List.take_add_one, HT.out, HS.out, HTT.out]), hid (by obtain ⟨q, rfl⟩ := HQ.out; exact ⟨q + nq, by rw [World.drewN_drewN]⟩)⟩, by simp [intOf]; omega⟩
        · have hb : (s.1 == t.1 && s.2 == t.2) = false := by
            rw [Bool.eq_false_iff]; intro h; rw [Bool.and_eq_true, beq_iff_eq, beq_iff_eq] at h; exact hst (Prod.ext h.1 h.2)
          rw [hb] at NS
          have : r = false := by
            rw [← HR0.out]; refine decide_eq_false (fun e => hst ?_)
            have h1 := HS.out; have h2 := HTT.out
            rw [e, h2] at h1; injection h1 with h1; exact h1.symm
          subst this
          clear hb hst
          go_wp2_with fail
          go_quiet (fail)
          go_wp2_with fail
          go_ret
          refine ⟨rfl, ?_⟩
          obtain ⟨q, rfl⟩ := HQ.out; exact ⟨q + nq, by rw [World.drewN_drewN]⟩
      · have : i = L.length := by omega
        subst this
        have : r = true := by
          rw [← HR0.out]; refine decide_eq_true ?_
          have := HT.out
          rwa [List.take_length, HLN.out, List.take_length] at this
        subst this
        go_wp2_with fail
        go_ret
        exact ⟨rfl, HQ.out⟩
  · have hne : ((L.length : Int) != M.length) = true := by simp; omega
    have : r = false := by rw [← HR0.out]; exact decide_eq_false (fun e => hlen (by rw [e]))
    subst this
    go_enter Tryd.func31, Tryd.ntmps31
    go_wp2_with fail
    go_ret
    exact ⟨rfl, 0, rfl⟩
end Go.Proofs.YthkmnoobajaooaaDoor
