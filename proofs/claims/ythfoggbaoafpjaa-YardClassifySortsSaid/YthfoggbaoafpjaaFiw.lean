/-
  The walk of yard.fits: whether a sequence of cars fits the rules. Conditions: valid rules, at most 256 valid cars that lie in memory as they read.
  The walk of yard.fits. Conditions: valid rules, at most 256 valid cars that lie in memory as they read.
-/
import Derived.Test.YthfoggbaoafpjaaRcl
namespace Go.Proofs.Ythfoggbaoafpjaa
open Go.RowKit
def sumF (f : Car → Int) (L : List Car) : Nat → Int
  | 0 => 0
  | k + 1 => sumF f L k + f (L.getD k default)
theorem sumF_bd {f : Car → Int} {L : List Car} (h : ∀ i, i < L.length → 0 ≤ f (L.getD i default) ∧ f (L.getD i default) ≤ 1000000) : ∀ k, k ≤ L.length → 0 ≤ sumF f L k ∧ sumF f L k ≤ 1000000 * (k : Int)
  | 0, _ => by simp [sumF]
  | k + 1, hk => by
    have ih := sumF_bd h k (by omega)
    have := h k (by omega)
    show 0 ≤ sumF f L k + _ ∧ sumF f L k + _ ≤ _
    omega
theorem carC_hold {w : World} {v : Value} {L : List Car} (h : CarV w v L) : ∃ A c, v = .slice A L.length c ∧ CarR w A L := by
  obtain ⟨A, c, h1, h2, _⟩ := h
  exact ⟨A, c, h1, h2⟩
def Clo (fn : Nat) (f : Car → Int) : Prop := ∀ (c : Car) (W : World), Calls Try.prog fn #[.agg #[.int .i64 c.id, .int .i64 c.bl, .int .i64 c.ln, .int .i64 c.wt, .int .i64 c.ga, .int .i64 c.br, .int .i64 c.da]] W fun e W' => e = .returned (.int .i64 (f c)) ∧ Below W.heap.size W W'
theorem clo56 : Clo 56 Car.wt := by
  intro c w
  obtain ⟨id, bl, ln, wt, ga, br, da⟩ := c
  have x0 := (Blk.new w 33 #[.int .i64 id, .int .i64 bl, .int .i64 ln, .int .i64 wt, .int .i64 ga, .int .i64 br, .int .i64 da]).at 3 rfl
  have HB := hid ((Below.refl w.heap.size w).alloc (Nat.le_refl _) (.cells #[.int .i64 id, .int .i64 bl, .int .i64 ln, .int .i64 wt, .int .i64 ga, .int .i64 br, .int .i64 da] 33))
  simp only
  go_enter Try.func56, Try.ntmps56
  go_wp2_with fail
  go_ret
  exact ⟨rfl, HB.out⟩
theorem clo57 : Clo 57 Car.br := by
  intro c w
  obtain ⟨id, bl, ln, wt, ga, br, da⟩ := c
  have x0 := (Blk.new w 33 #[.int .i64 id, .int .i64 bl, .int .i64 ln, .int .i64 wt, .int .i64 ga, .int .i64 br, .int .i64 da]).at 5 rfl
  have HB := hid ((Below.refl w.heap.size w).alloc (Nat.le_refl _) (.cells #[.int .i64 id, .int .i64 bl, .int .i64 ln, .int .i64 wt, .int .i64 ga, .int .i64 br, .int .i64 da] 33))
  simp only
  go_enter Try.func57, Try.ntmps57
  go_wp2_with fail
  go_ret
  exact ⟨rfl, HB.out⟩
theorem clo58 : Clo 58 Car.ln := by
  intro c w
  obtain ⟨id, bl, ln, wt, ga, br, da⟩ := c
  have x0 := (Blk.new w 33 #[.int .i64 id, .int .i64 bl, .int .i64 ln, .int .i64 wt, .int .i64 ga, .int .i64 br, .int .i64 da]).at 2 rfl
  have HB := hid ((Below.refl w.heap.size w).alloc (Nat.le_refl _) (.cells #[.int .i64 id, .int .i64 bl, .int .i64 ln, .int .i64 wt, .int .i64 ga, .int .i64 br, .int .i64 da] 33))
  simp only
  go_enter Try.func58, Try.ntmps58
  go_wp2_with fail
  go_ret
  exact ⟨rfl, HB.out⟩
set_option maxHeartbeats 8000000 in
set_option maxRecDepth 100000 in
theorem total_56 (L : List Car) (v : Value) (w : World) (h : CarV w v L) (hl : L.length ≤ 256) (hb : ∀ i, i < L.length → 0 ≤ Car.wt (L.getD i default) ∧ Car.wt (L.getD i default) ≤ 1000000) :
    Calls Try.prog 55 #[v, .func (.func 56) #[] #[]] w fun e w' => e = .returned (.int .i64 (sumF Car.wt L L.length)) ∧ Below w.heap.size w w' := by
  obtain ⟨A, c, rfl, hR⟩ := carC_hold h
  have HC := hid hR
  have HF := hid clo56
  have HSB : Hid (∀ k, k ≤ L.length → 0 ≤ sumF Car.wt L k ∧ sumF Car.wt L k ≤ 1000000 * (k : Int)) := hid (fun k hk => sumF_bd hb k hk)
  clear h hR hb
  go_enter Try.func55, Try.ntmps55
  go_wp2_with fail
  go_loopw [4, 9] (fun s4 s9 wr => ∃ i : Nat, i ≤ L.length ∧ s9 = .int .i64 i ∧ s4 = .int .i64 (sumF Car.wt L i) ∧ Hid (Below w.heap.size w wr)) (fun _ s9 _ => L.length - (intOf s9).toNat)
  case atStart => exact ⟨0, by omega, rfl, rfl, hid (Below.refl _ _)⟩
  case round =>
    obtain ⟨i, hi, rfl, rfl, HH⟩ := hrel
    by_cases hil : i < L.length
    · obtain ⟨b1, o1, hA1, hb1, hc1⟩ := (HC.out.below HH.out).at (by omega)
      obtain ⟨l0, l1, l2, l3, l4, l5, l6⟩ := hc1 i _ (getD_at hil)
      have hs1 := HSB.out i (by omega)
      have hs2 := HSB.out (i + 1) (by omega)
      have hse : sumF Car.wt L (i + 1) = sumF Car.wt L i + Car.wt (L.getD i default) := rfl
      obtain ⟨cc, hcc⟩ : ∃ cc, L.getD i default = cc := ⟨_, rfl⟩
      rw [hcc] at l0 l1 l2 l3 l4 l5 l6 hse
      obtain ⟨S, hS⟩ : ∃ S, sumF Car.wt L i = S := ⟨_, rfl⟩
      obtain ⟨S2, hS2⟩ : ∃ S, sumF Car.wt L (i + 1) = S := ⟨_, rfl⟩
      have HS2 := hid hS2
      rw [hS, hS2] at hse
      rw [hS] at hs1
      rw [hS2] at hs2
      have HCL := hid (fun W : World => HF.out cc W)
      obtain ⟨id, bl, ln, wt, ga, br, da⟩ := cc
      simp only at l0 l1 l2 l3 l4 l5 l6 hse HCL
      subst hA1
      have bi : (i : Int) < L.length := by omega
      have hws : IntKind.i64.wrap (S + wt) = S2 := by rw [IntWalk.i64_in _ (by omega)]; omega
      have HBX : Hid (Below w.heap.size w (wr.alloc (.cells #[.int .i64 id, .int .i64 bl, .int .i64 ln, .int .i64 wt, .int .i64 ga, .int .i64 br, .int .i64 da] 33))) := hid (HH.out.alloc (by have := HH.out.size; omega) _)
      rw [hS]
      clear hcc hc1 hb1 hse hS hS2
      go_wp2_with (go_at_call 56; refine (HCL.out _).mono ?_; rintro e w2 ⟨rfl, hb2⟩)
      have HN : Hid (Below w.heap.size w w2) := hid (HBX.out.trans (hb2.mono HBX.out.size))
      clear hb2 HBX
      go_wp2_with fail
      exact ⟨⟨i + 1, by omega, by go_num, by rw [HS2.out], HN⟩, by simp [intOf]; omega⟩
    · have : i = L.length := by omega
      subst this
      obtain ⟨S, hS⟩ : ∃ S, sumF Car.wt L L.length = S := ⟨_, rfl⟩
      rw [hS]
      have HS := hid hS
      clear hS
      go_wp2_with fail
      go_ret
      exact ⟨by rw [HS.out]; rfl, HH.out⟩
set_option maxHeartbeats 8000000 in
set_option maxRecDepth 100000 in
theorem total_57 (L : List Car) (v : Value) (w : World) (h : CarV w v L) (hl : L.length ≤ 256) (hb : ∀ i, i < L.length → 0 ≤ Car.br (L.getD i default) ∧ Car.br (L.getD i default) ≤ 1000000) :
    Calls Try.prog 55 #[v, .func (.func 57) #[] #[]] w fun e w' => e = .returned (.int .i64 (sumF Car.br L L.length)) ∧ Below w.heap.size w w' := by
  obtain ⟨A, c, rfl, hR⟩ := carC_hold h
  have HC := hid hR
  have HF := hid clo57
  have HSB : Hid (∀ k, k ≤ L.length → 0 ≤ sumF Car.br L k ∧ sumF Car.br L k ≤ 1000000 * (k : Int)) := hid (fun k hk => sumF_bd hb k hk)
  clear h hR hb
  go_enter Try.func55, Try.ntmps55
  go_wp2_with fail
  go_loopw [4, 9] (fun s4 s9 wr => ∃ i : Nat, i ≤ L.length ∧ s9 = .int .i64 i ∧ s4 = .int .i64 (sumF Car.br L i) ∧ Hid (Below w.heap.size w wr)) (fun _ s9 _ => L.length - (intOf s9).toNat)
  case atStart => exact ⟨0, by omega, rfl, rfl, hid (Below.refl _ _)⟩
  case round =>
    obtain ⟨i, hi, rfl, rfl, HH⟩ := hrel
    by_cases hil : i < L.length
    · obtain ⟨b1, o1, hA1, hb1, hc1⟩ := (HC.out.below HH.out).at (by omega)
      obtain ⟨l0, l1, l2, l3, l4, l5, l6⟩ := hc1 i _ (getD_at hil)
      have hs1 := HSB.out i (by omega)
      have hs2 := HSB.out (i + 1) (by omega)
      have hse : sumF Car.br L (i + 1) = sumF Car.br L i + Car.br (L.getD i default) := rfl
      obtain ⟨cc, hcc⟩ : ∃ cc, L.getD i default = cc := ⟨_, rfl⟩
      rw [hcc] at l0 l1 l2 l3 l4 l5 l6 hse
      obtain ⟨S, hS⟩ : ∃ S, sumF Car.br L i = S := ⟨_, rfl⟩
      obtain ⟨S2, hS2⟩ : ∃ S, sumF Car.br L (i + 1) = S := ⟨_, rfl⟩
      have HS2 := hid hS2
      rw [hS, hS2] at hse
      rw [hS] at hs1
      rw [hS2] at hs2
      have HCL := hid (fun W : World => HF.out cc W)
      obtain ⟨id, bl, ln, wt, ga, br, da⟩ := cc
      simp only at l0 l1 l2 l3 l4 l5 l6 hse HCL
      subst hA1
      have bi : (i : Int) < L.length := by omega
      have hws : IntKind.i64.wrap (S + br) = S2 := by rw [IntWalk.i64_in _ (by omega)]; omega
      have HBX : Hid (Below w.heap.size w (wr.alloc (.cells #[.int .i64 id, .int .i64 bl, .int .i64 ln, .int .i64 wt, .int .i64 ga, .int .i64 br, .int .i64 da] 33))) := hid (HH.out.alloc (by have := HH.out.size; omega) _)
      rw [hS]
      clear hcc hc1 hb1 hse hS hS2
      go_wp2_with (go_at_call 57; refine (HCL.out _).mono ?_; rintro e w2 ⟨rfl, hb2⟩)
      have HN : Hid (Below w.heap.size w w2) := hid (HBX.out.trans (hb2.mono HBX.out.size))
      clear hb2 HBX
      go_wp2_with fail
      exact ⟨⟨i + 1, by omega, by go_num, by rw [HS2.out], HN⟩, by simp [intOf]; omega⟩
    · have : i = L.length := by omega
      subst this
      obtain ⟨S, hS⟩ : ∃ S, sumF Car.br L L.length = S := ⟨_, rfl⟩
      rw [hS]
      have HS := hid hS
      clear hS
      go_wp2_with fail
      go_ret
      exact ⟨by rw [HS.out]; rfl, HH.out⟩
set_option maxHeartbeats 8000000 in
set_option maxRecDepth 100000 in
theorem total_58 (L : List Car) (v : Value) (w : World) (h : CarV w v L) (hl : L.length ≤ 256) (hb : ∀ i, i < L.length → 0 ≤ Car.ln (L.getD i default) ∧ Car.ln (L.getD i default) ≤ 1000000) :
    Calls Try.prog 55 #[v, .func (.func 58) #[] #[]] w fun e w' => e = .returned (.int .i64 (sumF Car.ln L L.length)) ∧ Below w.heap.size w w' := by
  obtain ⟨A, c, rfl, hR⟩ := carC_hold h
  have HC := hid hR
  have HF := hid clo58
  have HSB : Hid (∀ k, k ≤ L.length → 0 ≤ sumF Car.ln L k ∧ sumF Car.ln L k ≤ 1000000 * (k : Int)) := hid (fun k hk => sumF_bd hb k hk)
  clear h hR hb
  go_enter Try.func55, Try.ntmps55
  go_wp2_with fail
  go_loopw [4, 9] (fun s4 s9 wr => ∃ i : Nat, i ≤ L.length ∧ s9 = .int .i64 i ∧ s4 = .int .i64 (sumF Car.ln L i) ∧ Hid (Below w.heap.size w wr)) (fun _ s9 _ => L.length - (intOf s9).toNat)
  case atStart => exact ⟨0, by omega, rfl, rfl, hid (Below.refl _ _)⟩
  case round =>
    obtain ⟨i, hi, rfl, rfl, HH⟩ := hrel
    by_cases hil : i < L.length
    · obtain ⟨b1, o1, hA1, hb1, hc1⟩ := (HC.out.below HH.out).at (by omega)
      obtain ⟨l0, l1, l2, l3, l4, l5, l6⟩ := hc1 i _ (getD_at hil)
      have hs1 := HSB.out i (by omega)
      have hs2 := HSB.out (i + 1) (by omega)
      have hse : sumF Car.ln L (i + 1) = sumF Car.ln L i + Car.ln (L.getD i default) := rfl
      obtain ⟨cc, hcc⟩ : ∃ cc, L.getD i default = cc := ⟨_, rfl⟩
      rw [hcc] at l0 l1 l2 l3 l4 l5 l6 hse
      obtain ⟨S, hS⟩ : ∃ S, sumF Car.ln L i = S := ⟨_, rfl⟩
      obtain ⟨S2, hS2⟩ : ∃ S, sumF Car.ln L (i + 1) = S := ⟨_, rfl⟩
      have HS2 := hid hS2
      rw [hS, hS2] at hse
      rw [hS] at hs1
      rw [hS2] at hs2
      have HCL := hid (fun W : World => HF.out cc W)
      obtain ⟨id, bl, ln, wt, ga, br, da⟩ := cc
      simp only at l0 l1 l2 l3 l4 l5 l6 hse HCL
      subst hA1
      have bi : (i : Int) < L.length := by omega
      have hws : IntKind.i64.wrap (S + ln) = S2 := by rw [IntWalk.i64_in _ (by omega)]; omega
      have HBX : Hid (Below w.heap.size w (wr.alloc (.cells #[.int .i64 id, .int .i64 bl, .int .i64 ln, .int .i64 wt, .int .i64 ga, .int .i64 br, .int .i64 da] 33))) := hid (HH.out.alloc (by have := HH.out.size; omega) _)
      rw [hS]
      clear hcc hc1 hb1 hse hS hS2
      go_wp2_with (go_at_call 58; refine (HCL.out _).mono ?_; rintro e w2 ⟨rfl, hb2⟩)
      have HN : Hid (Below w.heap.size w w2) := hid (HBX.out.trans (hb2.mono HBX.out.size))
      clear hb2 HBX
      go_wp2_with fail
      exact ⟨⟨i + 1, by omega, by go_num, by rw [HS2.out], HN⟩, by simp [intOf]; omega⟩
    · have : i = L.length := by omega
      subst this
      obtain ⟨S, hS⟩ : ∃ S, sumF Car.ln L L.length = S := ⟨_, rfl⟩
      rw [hS]
      have HS := hid hS
      clear hS
      go_wp2_with fail
      go_ret
      exact ⟨by rw [HS.out]; rfl, HH.out⟩
/-- The last dangerous goods, and the harmless cars after them. -/
def lastD (L : List Car) : Nat → Int
  | 0 => 0
  | i + 1 => if 0 < (L.getD i default).da then (L.getD i default).da else lastD L i
def harmD (L : List Car) : Nat → Nat
  | 0 => 0
  | i + 1 => if 0 < (L.getD i default).da then 0 else harmD L i + 1
theorem harmD_le (L : List Car) : ∀ i, harmD L i ≤ i
  | 0 => Nat.le_refl _
  | i + 1 => by
    have := harmD_le L i
    show (if 0 < (L.getD i default).da then 0 else harmD L i + 1) ≤ i + 1
    split
    · exact Nat.zero_le _
    · exact Nat.succ_le_succ this
def okAt (r : Rls) (L : List Car) (i : Nat) : Bool :=
  !(decide (r.ga < (L.getD i default).ga) || (decide (0 < (L.getD i default).da) && decide (0 < lastD L i) && ((L.getD i default).da != lastD L i) && decide ((harmD L i : Int) < r.gp)))
def fitB (r : Rls) (L : List Car) : Bool :=
  !(decide (r.nl < sumF Car.ln L L.length) || decide (r.nw < sumF Car.wt L L.length) || decide (100 * sumF Car.br L L.length < r.bp * sumF Car.wt L L.length)) && (List.range L.length).all (okAt r L)
theorem mul_bd {a b : Int} (h1 : 0 ≤ a) (h2 : a ≤ 100) (h3 : 0 ≤ b) (h4 : b ≤ 256000000) : 0 ≤ a * b ∧ a * b ≤ 25600000000 := by
  have := Int.mul_le_mul h2 h4 h3 (by omega)
  exact ⟨Int.mul_nonneg h1 h3, by omega⟩
end Go.Proofs.Ythfoggbaoafpjaa
namespace Go.Proofs.Ythfoggbaoafpjaa
open Go.RowKit
set_option maxHeartbeats 8000000 in
set_option maxRecDepth 100000 in
theorem fits_any (r : Rls) (L : List Car) (v : Value) (w : World) (h : CarV w v L) (hl : L.length ≤ 256) (hg : ∀ i, i < L.length → carG (L.getD i default) = true) (hr : rlsG r = true) : Calls Try.prog 36 #[rlsV r, v] w fun e w' => e = .returned (.bool (fitB r L)) ∧ Below w.heap.size w w' := by
  obtain ⟨A, c, rfl, hR⟩ := carC_hold h
  have hrf := rlsG_facts hr
  have b56 := sumF_bd (f := Car.wt) (L := L) (fun i hi => by have := carG_facts (hg i hi); omega) L.length (Nat.le_refl _)
  have b57 := sumF_bd (f := Car.br) (L := L) (fun i hi => by have := carG_facts (hg i hi); omega) L.length (Nat.le_refl _)
  have b58 := sumF_bd (f := Car.ln) (L := L) (fun i hi => by have := carG_facts (hg i hi); omega) L.length (Nat.le_refl _)
  have HT56 := hid (fun (W : World) (hb : Below w.heap.size w W) => total_56 L _ W (h.below hb) hl (fun i hi => by have := carG_facts (hg i hi); omega))
  have HT57 := hid (fun (W : World) (hb : Below w.heap.size w W) => total_57 L _ W (h.below hb) hl (fun i hi => by have := carG_facts (hg i hi); omega))
  have HT58 := hid (fun (W : World) (hb : Below w.heap.size w W) => total_58 L _ W (h.below hb) hl (fun i hi => by have := carG_facts (hg i hi); omega))
  have HC := hid hR
  have HG := hid hg
  obtain ⟨tr, tl, nl, nw, ga, bp, gp⟩ := r
  simp only at hrf
  obtain ⟨Sw, hSw⟩ : ∃ x, sumF Car.wt L L.length = x := ⟨_, rfl⟩
  obtain ⟨Sb, hSb⟩ : ∃ x, sumF Car.br L L.length = x := ⟨_, rfl⟩
  obtain ⟨Sl, hSl⟩ : ∃ x, sumF Car.ln L L.length = x := ⟨_, rfl⟩
  obtain ⟨P, hP⟩ : ∃ x, bp * Sw = x := ⟨_, rfl⟩
  rw [hSw] at HT56 b56
  rw [hSb] at HT57 b57
  rw [hSl] at HT58 b58
  have hPb := mul_bd (a := bp) (b := Sw) (by omega) (by omega) (by omega) (by omega)
  rw [hP] at hPb
  have wP : IntKind.i64.wrap (bp * Sw) = P := by rw [hP]; exact IntWalk.i64_in _ (by omega)
  have wB : IntKind.i64.wrap (100 * Sb) = 100 * Sb := IntWalk.i64_in _ (by omega)
  obtain ⟨c1, hc1⟩ : ∃ b, decide (nl < Sl) = b := ⟨_, rfl⟩
  obtain ⟨c2, hc2⟩ : ∃ b, decide (nw < Sw) = b := ⟨_, rfl⟩
  obtain ⟨c3, hc3⟩ : ∃ b, decide (100 * Sb < P) = b := ⟨_, rfl⟩
  have HFB : Hid (fitB ⟨tr, tl, nl, nw, ga, bp, gp⟩ L = (!(c1 || c2 || c3) && (List.range L.length).all (okAt ⟨tr, tl, nl, nw, ga, bp, gp⟩ L))) := hid (by unfold fitB; rw [hSw, hSb, hSl]; simp only; rw [hP, hc1, hc2, hc3])
  have HB0 := hid ((Below.refl w.heap.size w).alloc (Nat.le_refl _) (.cells (rlsA ⟨tr, tl, nl, nw, ga, bp, gp⟩) 23))
  have HR0 := hid (Blk.new w 23 (rlsA ⟨tr, tl, nl, nw, ga, bp, gp⟩))
  obtain ⟨n, hn⟩ : ∃ n, L.length = n := ⟨_, rfl⟩
  have HN := hid hn
  have hn256 : n ≤ 256 := by omega
  rw [hn] at HT56 HT57 HT58 HFB ⊢
  clear hR h hg hr hSw hSb hSl hP hPb hn hl b56 b57 b58
  unfold rlsV rlsA at *
  simp only at HR0 HB0
  go_enter Try.func36, Try.ntmps36
  go_wp2_with fail
  refine (HT56.out _ HB0.out).mono ?_
  rintro e w1 ⟨rfl, hb1⟩
  have HB1 := hid (HB0.out.trans (hb1.mono HB0.out.size))
  have HR1 := hid (HR0.out.below hb1 HR0.out.lt)
  clear hb1 HB0 HR0 HT56
  go_wp2_with fail
  refine (HT57.out _ HB1.out).mono ?_
  rintro e w2 ⟨rfl, hb2⟩
  have HB2 := hid (HB1.out.trans (hb2.mono HB1.out.size))
  have HR2 := hid (HR1.out.below hb2 HR1.out.lt)
  clear hb2 HB1 HR1 HT57
  go_upto_region 3 with fail
  obtain ⟨gr, hgr⟩ : ∃ g, w.heap.size = g := ⟨_, rfl⟩
  have HGR := hid hgr
  rw [hgr] at HR2
  have HTT := hid (fun (W : World) (hb : Below w2.heap.size w2 W) => HT58.out W (HB2.out.trans (hb.mono HB2.out.size)))
  rw [hgr]
  clear hgr HT58
  cases c1
  case true =>
    refine region_makes [15, 16, 17, 18, 19, 20, 21, 22, 23, 24, 25, 26, 27, 28, 29, 30, 31, 32, 33, 34] (fun jx vx _ => [6, 7, 8, 9, 12, 13, 14, 15, 16, 17, 18].elem jx = true ∨ vx = ([.slice A n c, .int .i64 Sl, .pointer (some ⟨gr, 2, none⟩), .int .i64 nl, .bool true, .bool true, undef, undef, undef, undef, .bool true, .bool true, undef, undef, undef, undef, undef, undef, undef, .bool true] : List Value).getD jx undef) (fun _ => false) rfl (by kernel_rfl) rfl (by decide) (by simp) (fun _ _ _ _ h _ => h) (fun _ _ _ _ h _ => by cases h) ?_ ?_
    · intro io oo ac wz hj hbase hT hdep hx1 hx2 K hK'
      have hK : ∀ v w2, Below wz.heap.size wz w2 → ( [6, 7, 8, 9, 12, 13, 14, 15, 16, 17, 18].elem io = true ∨ v = ([.slice A n c, .int .i64 Sl, .pointer (some ⟨gr, 2, none⟩), .int .i64 nl, .bool true, .bool true, undef, undef, undef, undef, .bool true, .bool true, undef, undef, undef, undef, undef, undef, undef, .bool true] : List Value).getD io undef) → K (ac.put (some (([15, 16, 17, 18, 19, 20, 21, 22, 23, 24, 25, 26, 27, 28, 29, 30, 31, 32, 33, 34] : List Nat).getD io 0)) v) w2 := fun v w2 h1 h2 => hK' v w2 h1 h2 (fun h => by cases h)
      clear hK' hx1 hx2
      have hB := Below.refl wz.heap.size wz
      have e1 : ac.tmps.getD 1 undef = .slice A n c := hbase 1 (by decide)
      have e2 : ac.tmps.getD 2 undef = .pointer (some ⟨gr, 0, none⟩) := hbase 2 (by decide)
      have e5 : ac.tmps.getD 5 undef = .int .i64 Sw := hbase 5 (by decide)
      have e6 : ac.tmps.getD 6 undef = .int .i64 Sb := hbase 6 (by decide)
      have r2 := (HR2.out.below hT HR2.out.lt).at 2 rfl
      have r3 := (HR2.out.below hT HR2.out.lt).at 3 rfl
      have r5 := (HR2.out.below hT HR2.out.lt).at 5 rfl
      have hio : io < 20 := (Array.getElem?_eq_some_iff.1 hj).1
      obtain rfl | rfl | rfl | rfl | rfl | rfl | rfl | rfl | rfl | rfl | rfl | rfl | rfl | rfl | rfl | rfl | rfl | rfl | rfl | rfl : io = 0 ∨ io = 1 ∨ io = 2 ∨ io = 3 ∨ io = 4 ∨ io = 5 ∨ io = 6 ∨ io = 7 ∨ io = 8 ∨ io = 9 ∨ io = 10 ∨ io = 11 ∨ io = 12 ∨ io = 13 ∨ io = 14 ∨ io = 15 ∨ io = 16 ∨ io = 17 ∨ io = 18 ∨ io = 19 := by omega
      all_goals (injection hj with hj; subst hj; clear hio)
      · refine wpOp_of rfl rfl ?_
        go_simp
        exact hK _ _ hB (Or.inr rfl)
      · have d15 : ac.tmps.getD 15 undef = .slice A n c := (hdep ⟨0, .data⟩ (by simp) rfl).resolve_left (by decide)
        refine wpOp_of rfl rfl ?_
        go_simp
        refine (HTT.out wz hT).mono ?_
        rintro e w2 ⟨rfl, hb⟩
        exact hK _ _ hb (Or.inr rfl)
      · refine wpOp_of rfl rfl ?_
        go_simp
        exact hK _ _ hB (Or.inr rfl)
      · have d17 : ac.tmps.getD 17 undef = .pointer (some ⟨gr, 2, none⟩) := (hdep ⟨2, .data⟩ (by simp) rfl).resolve_left (by decide)
        refine wpOp_of rfl rfl ?_
        go_simp
        exact hK _ _ hB (Or.inr rfl)
      · have d16 : ac.tmps.getD 16 undef = .int .i64 Sl := (hdep ⟨1, .data⟩ (by simp) rfl).resolve_left (by decide)
        have d18 : ac.tmps.getD 18 undef = .int .i64 nl := (hdep ⟨3, .data⟩ (by simp) rfl).resolve_left (by decide)
        refine wpOp_of rfl rfl ?_
        go_simp
        exact hK _ _ hB (Or.inr rfl)
      · have d19 : ac.tmps.getD 19 undef = .bool true := (hdep ⟨4, .data⟩ (by simp) rfl).resolve_left (by decide)
        refine wpOp_of rfl rfl ?_
        go_simp
        exact hK _ _ hB (Or.inr rfl)
      · have dg : ac.tmps.getD 20 undef = .bool true := (hdep ⟨5, .guard⟩ (by simp) rfl).resolve_left (by decide)
        exact wpOp_if rfl rfl rfl rfl dg (fun h => absurd h (by decide)) (fun _ => hK _ _ hB (Or.inl rfl))
      · have dg : ac.tmps.getD 20 undef = .bool true := (hdep ⟨5, .guard⟩ (by simp) rfl).resolve_left (by decide)
        exact wpOp_if rfl rfl rfl rfl dg (fun h => absurd h (by decide)) (fun _ => hK _ _ hB (Or.inl rfl))
      · have dg : ac.tmps.getD 20 undef = .bool true := (hdep ⟨5, .guard⟩ (by simp) rfl).resolve_left (by decide)
        exact wpOp_if rfl rfl rfl rfl dg (fun h => absurd h (by decide)) (fun _ => hK _ _ hB (Or.inl rfl))
      · have dg : ac.tmps.getD 20 undef = .bool true := (hdep ⟨5, .guard⟩ (by simp) rfl).resolve_left (by decide)
        exact wpOp_if rfl rfl rfl rfl dg (fun h => absurd h (by decide)) (fun _ => hK _ _ hB (Or.inl rfl))
      · have d20 : ac.tmps.getD 20 undef = .bool true := (hdep ⟨5, .data⟩ (by simp) rfl).resolve_left (by decide)
        refine wpOp_of rfl rfl ?_
        go_simp
        exact hK _ _ hB (Or.inr rfl)
      · have d25 : ac.tmps.getD 25 undef = .bool true := (hdep ⟨10, .data⟩ (by simp) rfl).resolve_left (by decide)
        refine wpOp_of rfl rfl ?_
        go_simp
        exact hK _ _ hB (Or.inr rfl)
      · have dg : ac.tmps.getD 26 undef = .bool true := (hdep ⟨11, .guard⟩ (by simp) rfl).resolve_left (by decide)
        exact wpOp_if rfl rfl rfl rfl dg (fun h => absurd h (by decide)) (fun _ => hK _ _ hB (Or.inl rfl))
      · have dg : ac.tmps.getD 26 undef = .bool true := (hdep ⟨11, .guard⟩ (by simp) rfl).resolve_left (by decide)
        exact wpOp_if rfl rfl rfl rfl dg (fun h => absurd h (by decide)) (fun _ => hK _ _ hB (Or.inl rfl))
      · have dg : ac.tmps.getD 26 undef = .bool true := (hdep ⟨11, .guard⟩ (by simp) rfl).resolve_left (by decide)
        exact wpOp_if rfl rfl rfl rfl dg (fun h => absurd h (by decide)) (fun _ => hK _ _ hB (Or.inl rfl))
      · have dg : ac.tmps.getD 26 undef = .bool true := (hdep ⟨11, .guard⟩ (by simp) rfl).resolve_left (by decide)
        exact wpOp_if rfl rfl rfl rfl dg (fun h => absurd h (by decide)) (fun _ => hK _ _ hB (Or.inl rfl))
      · have dg : ac.tmps.getD 26 undef = .bool true := (hdep ⟨11, .guard⟩ (by simp) rfl).resolve_left (by decide)
        exact wpOp_if rfl rfl rfl rfl dg (fun h => absurd h (by decide)) (fun _ => hK _ _ hB (Or.inl rfl))
      · have dg : ac.tmps.getD 26 undef = .bool true := (hdep ⟨11, .guard⟩ (by simp) rfl).resolve_left (by decide)
        exact wpOp_if rfl rfl rfl rfl dg (fun h => absurd h (by decide)) (fun _ => hK _ _ hB (Or.inl rfl))
      · have dg : ac.tmps.getD 26 undef = .bool true := (hdep ⟨11, .guard⟩ (by simp) rfl).resolve_left (by decide)
        exact wpOp_if rfl rfl rfl rfl dg (fun h => absurd h (by decide)) (fun _ => hK _ _ hB (Or.inl rfl))
      · have d26 : ac.tmps.getD 26 undef = .bool true := (hdep ⟨11, .data⟩ (by simp) rfl).resolve_left (by decide)
        refine wpOp_of rfl rfl ?_
        go_simp
        exact hK _ _ hB (Or.inr rfl)
    · intro ac wz ha hT hv
      have v15 : ac.tmps.getD 15 undef = .slice A n c := (hv 0 (by decide)).resolve_left (by decide)
      have v16 : ac.tmps.getD 16 undef = .int .i64 Sl := (hv 1 (by decide)).resolve_left (by decide)
      have v17 : ac.tmps.getD 17 undef = .pointer (some ⟨gr, 2, none⟩) := (hv 2 (by decide)).resolve_left (by decide)
      have v18 : ac.tmps.getD 18 undef = .int .i64 nl := (hv 3 (by decide)).resolve_left (by decide)
      have v19 : ac.tmps.getD 19 undef = .bool true := (hv 4 (by decide)).resolve_left (by decide)
      have v20 : ac.tmps.getD 20 undef = .bool true := (hv 5 (by decide)).resolve_left (by decide)
      have v25 : ac.tmps.getD 25 undef = .bool true := (hv 10 (by decide)).resolve_left (by decide)
      have v26 : ac.tmps.getD 26 undef = .bool true := (hv 11 (by decide)).resolve_left (by decide)
      have v34 : ac.tmps.getD 34 undef = .bool true := (hv 19 (by decide)).resolve_left (by decide)
      clear hv
      simp only [List.map_cons, List.map_nil, Act.puts] at ha
      generalize ac.tmps.getD 15 undef = y15 at ha v15
      generalize ac.tmps.getD 16 undef = y16 at ha v16
      generalize ac.tmps.getD 17 undef = y17 at ha v17
      generalize ac.tmps.getD 18 undef = y18 at ha v18
      generalize ac.tmps.getD 19 undef = y19 at ha v19
      generalize ac.tmps.getD 20 undef = y20 at ha v20
      generalize ac.tmps.getD 21 undef = y21 at ha
      generalize ac.tmps.getD 22 undef = y22 at ha
      generalize ac.tmps.getD 23 undef = y23 at ha
      generalize ac.tmps.getD 24 undef = y24 at ha
      generalize ac.tmps.getD 25 undef = y25 at ha v25
      generalize ac.tmps.getD 26 undef = y26 at ha v26
      generalize ac.tmps.getD 27 undef = y27 at ha
      generalize ac.tmps.getD 28 undef = y28 at ha
      generalize ac.tmps.getD 29 undef = y29 at ha
      generalize ac.tmps.getD 30 undef = y30 at ha
      generalize ac.tmps.getD 31 undef = y31 at ha
      generalize ac.tmps.getD 32 undef = y32 at ha
      generalize ac.tmps.getD 33 undef = y33 at ha
      generalize ac.tmps.getD 34 undef = y34 at ha v34
      simp only [Act.put, List.setIfInBounds_toArray, List.set_cons_zero, List.set_cons_succ] at ha
      subst ha
      subst v15 v16 v17 v18 v19 v20 v25 v26 v34
      have HBz := hid (HB2.out.trans (hT.mono HB2.out.size))
      have HRz := hid (HR2.out.below hT HR2.out.lt)
      clear hT HTT HR2 HB2
      go_wp2_with fail
      go_ret
      exact ⟨by rw [HFB.out]; rfl, HBz.out⟩
  cases c2
  case true =>
    refine region_makes [15, 16, 17, 18, 19, 20, 21, 22, 23, 24, 25, 26, 27, 28, 29, 30, 31, 32, 33, 34] (fun jx vx _ => [12, 13, 14, 15, 16, 17, 18].elem jx = true ∨ vx = ([.slice A n c, .int .i64 Sl, .pointer (some ⟨gr, 2, none⟩), .int .i64 nl, .bool false, .bool false, .int .i64 Sw, .pointer (some ⟨gr, 3, none⟩), .int .i64 nw, .bool true, .bool true, .bool true, undef, undef, undef, undef, undef, undef, undef, .bool true] : List Value).getD jx undef) (fun _ => false) rfl (by kernel_rfl) rfl (by decide) (by simp) (fun _ _ _ _ h _ => h) (fun _ _ _ _ h _ => by cases h) ?_ ?_
    · intro io oo ac wz hj hbase hT hdep hx1 hx2 K hK'
      have hK : ∀ v w2, Below wz.heap.size wz w2 → ( [12, 13, 14, 15, 16, 17, 18].elem io = true ∨ v = ([.slice A n c, .int .i64 Sl, .pointer (some ⟨gr, 2, none⟩), .int .i64 nl, .bool false, .bool false, .int .i64 Sw, .pointer (some ⟨gr, 3, none⟩), .int .i64 nw, .bool true, .bool true, .bool true, undef, undef, undef, undef, undef, undef, undef, .bool true] : List Value).getD io undef) → K (ac.put (some (([15, 16, 17, 18, 19, 20, 21, 22, 23, 24, 25, 26, 27, 28, 29, 30, 31, 32, 33, 34] : List Nat).getD io 0)) v) w2 := fun v w2 h1 h2 => hK' v w2 h1 h2 (fun h => by cases h)
      clear hK' hx1 hx2
      have hB := Below.refl wz.heap.size wz
      have e1 : ac.tmps.getD 1 undef = .slice A n c := hbase 1 (by decide)
      have e2 : ac.tmps.getD 2 undef = .pointer (some ⟨gr, 0, none⟩) := hbase 2 (by decide)
      have e5 : ac.tmps.getD 5 undef = .int .i64 Sw := hbase 5 (by decide)
      have e6 : ac.tmps.getD 6 undef = .int .i64 Sb := hbase 6 (by decide)
      have r2 := (HR2.out.below hT HR2.out.lt).at 2 rfl
      have r3 := (HR2.out.below hT HR2.out.lt).at 3 rfl
      have r5 := (HR2.out.below hT HR2.out.lt).at 5 rfl
      have hio : io < 20 := (Array.getElem?_eq_some_iff.1 hj).1
      obtain rfl | rfl | rfl | rfl | rfl | rfl | rfl | rfl | rfl | rfl | rfl | rfl | rfl | rfl | rfl | rfl | rfl | rfl | rfl | rfl : io = 0 ∨ io = 1 ∨ io = 2 ∨ io = 3 ∨ io = 4 ∨ io = 5 ∨ io = 6 ∨ io = 7 ∨ io = 8 ∨ io = 9 ∨ io = 10 ∨ io = 11 ∨ io = 12 ∨ io = 13 ∨ io = 14 ∨ io = 15 ∨ io = 16 ∨ io = 17 ∨ io = 18 ∨ io = 19 := by omega
      all_goals (injection hj with hj; subst hj; clear hio)
      · refine wpOp_of rfl rfl ?_
        go_simp
        exact hK _ _ hB (Or.inr rfl)
      · have d15 : ac.tmps.getD 15 undef = .slice A n c := (hdep ⟨0, .data⟩ (by simp) rfl).resolve_left (by decide)
        refine wpOp_of rfl rfl ?_
        go_simp
        refine (HTT.out wz hT).mono ?_
        rintro e w2 ⟨rfl, hb⟩
        exact hK _ _ hb (Or.inr rfl)
      · refine wpOp_of rfl rfl ?_
        go_simp
        exact hK _ _ hB (Or.inr rfl)
      · have d17 : ac.tmps.getD 17 undef = .pointer (some ⟨gr, 2, none⟩) := (hdep ⟨2, .data⟩ (by simp) rfl).resolve_left (by decide)
        refine wpOp_of rfl rfl ?_
        go_simp
        exact hK _ _ hB (Or.inr rfl)
      · have d16 : ac.tmps.getD 16 undef = .int .i64 Sl := (hdep ⟨1, .data⟩ (by simp) rfl).resolve_left (by decide)
        have d18 : ac.tmps.getD 18 undef = .int .i64 nl := (hdep ⟨3, .data⟩ (by simp) rfl).resolve_left (by decide)
        refine wpOp_of rfl rfl ?_
        go_simp
        exact hK _ _ hB (Or.inr rfl)
      · have d19 : ac.tmps.getD 19 undef = .bool false := (hdep ⟨4, .data⟩ (by simp) rfl).resolve_left (by decide)
        refine wpOp_of rfl rfl ?_
        go_simp
        exact hK _ _ hB (Or.inr rfl)
      · have dg : ac.tmps.getD 20 undef = .bool false := (hdep ⟨5, .guard⟩ (by simp) rfl).resolve_left (by decide)
        refine wpOp_if rfl rfl rfl rfl dg (fun _ => ?_) (fun h => absurd rfl h)
        go_simp
        exact hK _ _ hB (Or.inr rfl)
      · have dg : ac.tmps.getD 20 undef = .bool false := (hdep ⟨5, .guard⟩ (by simp) rfl).resolve_left (by decide)
        refine wpOp_if rfl rfl rfl rfl dg (fun _ => ?_) (fun h => absurd rfl h)
        go_simp
        exact hK _ _ hB (Or.inr rfl)
      · have dg : ac.tmps.getD 20 undef = .bool false := (hdep ⟨5, .guard⟩ (by simp) rfl).resolve_left (by decide)
        refine wpOp_if rfl rfl rfl rfl dg (fun _ => ?_) (fun h => absurd rfl h)
        have d22 : ac.tmps.getD 22 undef = .pointer (some ⟨gr, 3, none⟩) := (hdep ⟨7, .data⟩ (by simp) rfl).resolve_left (by decide)
        go_simp
        exact hK _ _ hB (Or.inr rfl)
      · have dg : ac.tmps.getD 20 undef = .bool false := (hdep ⟨5, .guard⟩ (by simp) rfl).resolve_left (by decide)
        refine wpOp_if rfl rfl rfl rfl dg (fun _ => ?_) (fun h => absurd rfl h)
        have d21 : ac.tmps.getD 21 undef = .int .i64 Sw := (hdep ⟨6, .data⟩ (by simp) rfl).resolve_left (by decide)
        have d23 : ac.tmps.getD 23 undef = .int .i64 nw := (hdep ⟨8, .data⟩ (by simp) rfl).resolve_left (by decide)
        go_simp
        exact hK _ _ hB (Or.inr rfl)
      · have d20 : ac.tmps.getD 20 undef = .bool false := (hdep ⟨5, .data⟩ (by simp) rfl).resolve_left (by decide)
        have d24 : ac.tmps.getD 24 undef = .bool true := (hdep ⟨9, .data⟩ (by simp) rfl).resolve_left (by decide)
        refine wpOp_of rfl rfl ?_
        go_simp
        exact hK _ _ hB (Or.inr rfl)
      · have d25 : ac.tmps.getD 25 undef = .bool true := (hdep ⟨10, .data⟩ (by simp) rfl).resolve_left (by decide)
        refine wpOp_of rfl rfl ?_
        go_simp
        exact hK _ _ hB (Or.inr rfl)
      · have dg : ac.tmps.getD 26 undef = .bool true := (hdep ⟨11, .guard⟩ (by simp) rfl).resolve_left (by decide)
        exact wpOp_if rfl rfl rfl rfl dg (fun h => absurd h (by decide)) (fun _ => hK _ _ hB (Or.inl rfl))
      · have dg : ac.tmps.getD 26 undef = .bool true := (hdep ⟨11, .guard⟩ (by simp) rfl).resolve_left (by decide)
        exact wpOp_if rfl rfl rfl rfl dg (fun h => absurd h (by decide)) (fun _ => hK _ _ hB (Or.inl rfl))
      · have dg : ac.tmps.getD 26 undef = .bool true := (hdep ⟨11, .guard⟩ (by simp) rfl).resolve_left (by decide)
        exact wpOp_if rfl rfl rfl rfl dg (fun h => absurd h (by decide)) (fun _ => hK _ _ hB (Or.inl rfl))
      · have dg : ac.tmps.getD 26 undef = .bool true := (hdep ⟨11, .guard⟩ (by simp) rfl).resolve_left (by decide)
        exact wpOp_if rfl rfl rfl rfl dg (fun h => absurd h (by decide)) (fun _ => hK _ _ hB (Or.inl rfl))
      · have dg : ac.tmps.getD 26 undef = .bool true := (hdep ⟨11, .guard⟩ (by simp) rfl).resolve_left (by decide)
        exact wpOp_if rfl rfl rfl rfl dg (fun h => absurd h (by decide)) (fun _ => hK _ _ hB (Or.inl rfl))
      · have dg : ac.tmps.getD 26 undef = .bool true := (hdep ⟨11, .guard⟩ (by simp) rfl).resolve_left (by decide)
        exact wpOp_if rfl rfl rfl rfl dg (fun h => absurd h (by decide)) (fun _ => hK _ _ hB (Or.inl rfl))
      · have dg : ac.tmps.getD 26 undef = .bool true := (hdep ⟨11, .guard⟩ (by simp) rfl).resolve_left (by decide)
        exact wpOp_if rfl rfl rfl rfl dg (fun h => absurd h (by decide)) (fun _ => hK _ _ hB (Or.inl rfl))
      · have d26 : ac.tmps.getD 26 undef = .bool true := (hdep ⟨11, .data⟩ (by simp) rfl).resolve_left (by decide)
        refine wpOp_of rfl rfl ?_
        go_simp
        exact hK _ _ hB (Or.inr rfl)
    · intro ac wz ha hT hv
      have v15 : ac.tmps.getD 15 undef = .slice A n c := (hv 0 (by decide)).resolve_left (by decide)
      have v16 : ac.tmps.getD 16 undef = .int .i64 Sl := (hv 1 (by decide)).resolve_left (by decide)
      have v17 : ac.tmps.getD 17 undef = .pointer (some ⟨gr, 2, none⟩) := (hv 2 (by decide)).resolve_left (by decide)
      have v18 : ac.tmps.getD 18 undef = .int .i64 nl := (hv 3 (by decide)).resolve_left (by decide)
      have v19 : ac.tmps.getD 19 undef = .bool false := (hv 4 (by decide)).resolve_left (by decide)
      have v20 : ac.tmps.getD 20 undef = .bool false := (hv 5 (by decide)).resolve_left (by decide)
      have v21 : ac.tmps.getD 21 undef = .int .i64 Sw := (hv 6 (by decide)).resolve_left (by decide)
      have v22 : ac.tmps.getD 22 undef = .pointer (some ⟨gr, 3, none⟩) := (hv 7 (by decide)).resolve_left (by decide)
      have v23 : ac.tmps.getD 23 undef = .int .i64 nw := (hv 8 (by decide)).resolve_left (by decide)
      have v24 : ac.tmps.getD 24 undef = .bool true := (hv 9 (by decide)).resolve_left (by decide)
      have v25 : ac.tmps.getD 25 undef = .bool true := (hv 10 (by decide)).resolve_left (by decide)
      have v26 : ac.tmps.getD 26 undef = .bool true := (hv 11 (by decide)).resolve_left (by decide)
      have v34 : ac.tmps.getD 34 undef = .bool true := (hv 19 (by decide)).resolve_left (by decide)
      clear hv
      simp only [List.map_cons, List.map_nil, Act.puts] at ha
      generalize ac.tmps.getD 15 undef = y15 at ha v15
      generalize ac.tmps.getD 16 undef = y16 at ha v16
      generalize ac.tmps.getD 17 undef = y17 at ha v17
      generalize ac.tmps.getD 18 undef = y18 at ha v18
      generalize ac.tmps.getD 19 undef = y19 at ha v19
      generalize ac.tmps.getD 20 undef = y20 at ha v20
      generalize ac.tmps.getD 21 undef = y21 at ha v21
      generalize ac.tmps.getD 22 undef = y22 at ha v22
      generalize ac.tmps.getD 23 undef = y23 at ha v23
      generalize ac.tmps.getD 24 undef = y24 at ha v24
      generalize ac.tmps.getD 25 undef = y25 at ha v25
      generalize ac.tmps.getD 26 undef = y26 at ha v26
      generalize ac.tmps.getD 27 undef = y27 at ha
      generalize ac.tmps.getD 28 undef = y28 at ha
      generalize ac.tmps.getD 29 undef = y29 at ha
      generalize ac.tmps.getD 30 undef = y30 at ha
      generalize ac.tmps.getD 31 undef = y31 at ha
      generalize ac.tmps.getD 32 undef = y32 at ha
      generalize ac.tmps.getD 33 undef = y33 at ha
      generalize ac.tmps.getD 34 undef = y34 at ha v34
      simp only [Act.put, List.setIfInBounds_toArray, List.set_cons_zero, List.set_cons_succ] at ha
      subst ha
      subst v15 v16 v17 v18 v19 v20 v21 v22 v23 v24 v25 v26 v34
      have HBz := hid (HB2.out.trans (hT.mono HB2.out.size))
      have HRz := hid (HR2.out.below hT HR2.out.lt)
      clear hT HTT HR2 HB2
      go_wp2_with fail
      go_ret
      exact ⟨by rw [HFB.out]; rfl, HBz.out⟩
  cases c3
  case true =>
    refine region_makes [15, 16, 17, 18, 19, 20, 21, 22, 23, 24, 25, 26, 27, 28, 29, 30, 31, 32, 33, 34] (fun jx vx _ => vx = ([.slice A n c, .int .i64 Sl, .pointer (some ⟨gr, 2, none⟩), .int .i64 nl, .bool false, .bool false, .int .i64 Sw, .pointer (some ⟨gr, 3, none⟩), .int .i64 nw, .bool false, .bool false, .bool false, .int .i64 Sb, .int .i64 (100 * Sb), .pointer (some ⟨gr, 5, none⟩), .int .i64 bp, .int .i64 Sw, .int .i64 P, .bool true, .bool true] : List Value).getD jx undef) (fun _ => false) rfl (by kernel_rfl) rfl (by decide) (by simp) (fun _ _ _ _ h _ => h) (fun _ _ _ _ h _ => by cases h) ?_ ?_
    · intro io oo ac wz hj hbase hT hdep hx1 hx2 K hK'
      have hK : ∀ v w2, Below wz.heap.size wz w2 → ( v = ([.slice A n c, .int .i64 Sl, .pointer (some ⟨gr, 2, none⟩), .int .i64 nl, .bool false, .bool false, .int .i64 Sw, .pointer (some ⟨gr, 3, none⟩), .int .i64 nw, .bool false, .bool false, .bool false, .int .i64 Sb, .int .i64 (100 * Sb), .pointer (some ⟨gr, 5, none⟩), .int .i64 bp, .int .i64 Sw, .int .i64 P, .bool true, .bool true] : List Value).getD io undef) → K (ac.put (some (([15, 16, 17, 18, 19, 20, 21, 22, 23, 24, 25, 26, 27, 28, 29, 30, 31, 32, 33, 34] : List Nat).getD io 0)) v) w2 := fun v w2 h1 h2 => hK' v w2 h1 h2 (fun h => by cases h)
      clear hK' hx1 hx2
      have hB := Below.refl wz.heap.size wz
      have e1 : ac.tmps.getD 1 undef = .slice A n c := hbase 1 (by decide)
      have e2 : ac.tmps.getD 2 undef = .pointer (some ⟨gr, 0, none⟩) := hbase 2 (by decide)
      have e5 : ac.tmps.getD 5 undef = .int .i64 Sw := hbase 5 (by decide)
      have e6 : ac.tmps.getD 6 undef = .int .i64 Sb := hbase 6 (by decide)
      have r2 := (HR2.out.below hT HR2.out.lt).at 2 rfl
      have r3 := (HR2.out.below hT HR2.out.lt).at 3 rfl
      have r5 := (HR2.out.below hT HR2.out.lt).at 5 rfl
      have hio : io < 20 := (Array.getElem?_eq_some_iff.1 hj).1
      obtain rfl | rfl | rfl | rfl | rfl | rfl | rfl | rfl | rfl | rfl | rfl | rfl | rfl | rfl | rfl | rfl | rfl | rfl | rfl | rfl : io = 0 ∨ io = 1 ∨ io = 2 ∨ io = 3 ∨ io = 4 ∨ io = 5 ∨ io = 6 ∨ io = 7 ∨ io = 8 ∨ io = 9 ∨ io = 10 ∨ io = 11 ∨ io = 12 ∨ io = 13 ∨ io = 14 ∨ io = 15 ∨ io = 16 ∨ io = 17 ∨ io = 18 ∨ io = 19 := by omega
      all_goals (injection hj with hj; subst hj; clear hio)
      · refine wpOp_of rfl rfl ?_
        go_simp
        exact hK _ _ hB rfl
      · have d15 : ac.tmps.getD 15 undef = .slice A n c := (hdep ⟨0, .data⟩ (by simp) rfl)
        refine wpOp_of rfl rfl ?_
        go_simp
        refine (HTT.out wz hT).mono ?_
        rintro e w2 ⟨rfl, hb⟩
        exact hK _ _ hb rfl
      · refine wpOp_of rfl rfl ?_
        go_simp
        exact hK _ _ hB rfl
      · have d17 : ac.tmps.getD 17 undef = .pointer (some ⟨gr, 2, none⟩) := (hdep ⟨2, .data⟩ (by simp) rfl)
        refine wpOp_of rfl rfl ?_
        go_simp
        exact hK _ _ hB rfl
      · have d16 : ac.tmps.getD 16 undef = .int .i64 Sl := (hdep ⟨1, .data⟩ (by simp) rfl)
        have d18 : ac.tmps.getD 18 undef = .int .i64 nl := (hdep ⟨3, .data⟩ (by simp) rfl)
        refine wpOp_of rfl rfl ?_
        go_simp
        exact hK _ _ hB rfl
      · have d19 : ac.tmps.getD 19 undef = .bool false := (hdep ⟨4, .data⟩ (by simp) rfl)
        refine wpOp_of rfl rfl ?_
        go_simp
        exact hK _ _ hB rfl
      · have dg : ac.tmps.getD 20 undef = .bool false := (hdep ⟨5, .guard⟩ (by simp) rfl)
        refine wpOp_if rfl rfl rfl rfl dg (fun _ => ?_) (fun h => absurd rfl h)
        go_simp
        exact hK _ _ hB rfl
      · have dg : ac.tmps.getD 20 undef = .bool false := (hdep ⟨5, .guard⟩ (by simp) rfl)
        refine wpOp_if rfl rfl rfl rfl dg (fun _ => ?_) (fun h => absurd rfl h)
        go_simp
        exact hK _ _ hB rfl
      · have dg : ac.tmps.getD 20 undef = .bool false := (hdep ⟨5, .guard⟩ (by simp) rfl)
        refine wpOp_if rfl rfl rfl rfl dg (fun _ => ?_) (fun h => absurd rfl h)
        have d22 : ac.tmps.getD 22 undef = .pointer (some ⟨gr, 3, none⟩) := (hdep ⟨7, .data⟩ (by simp) rfl)
        go_simp
        exact hK _ _ hB rfl
      · have dg : ac.tmps.getD 20 undef = .bool false := (hdep ⟨5, .guard⟩ (by simp) rfl)
        refine wpOp_if rfl rfl rfl rfl dg (fun _ => ?_) (fun h => absurd rfl h)
        have d21 : ac.tmps.getD 21 undef = .int .i64 Sw := (hdep ⟨6, .data⟩ (by simp) rfl)
        have d23 : ac.tmps.getD 23 undef = .int .i64 nw := (hdep ⟨8, .data⟩ (by simp) rfl)
        go_simp
        exact hK _ _ hB rfl
      · have d20 : ac.tmps.getD 20 undef = .bool false := (hdep ⟨5, .data⟩ (by simp) rfl)
        have d24 : ac.tmps.getD 24 undef = .bool false := (hdep ⟨9, .data⟩ (by simp) rfl)
        refine wpOp_of rfl rfl ?_
        go_simp
        exact hK _ _ hB rfl
      · have d25 : ac.tmps.getD 25 undef = .bool false := (hdep ⟨10, .data⟩ (by simp) rfl)
        refine wpOp_of rfl rfl ?_
        go_simp
        exact hK _ _ hB rfl
      · have dg : ac.tmps.getD 26 undef = .bool false := (hdep ⟨11, .guard⟩ (by simp) rfl)
        refine wpOp_if rfl rfl rfl rfl dg (fun _ => ?_) (fun h => absurd rfl h)
        go_simp
        exact hK _ _ hB rfl
      · have dg : ac.tmps.getD 26 undef = .bool false := (hdep ⟨11, .guard⟩ (by simp) rfl)
        refine wpOp_if rfl rfl rfl rfl dg (fun _ => ?_) (fun h => absurd rfl h)
        have d27 : ac.tmps.getD 27 undef = .int .i64 Sb := (hdep ⟨12, .data⟩ (by simp) rfl)
        go_simp
        exact hK _ _ hB rfl
      · have dg : ac.tmps.getD 26 undef = .bool false := (hdep ⟨11, .guard⟩ (by simp) rfl)
        refine wpOp_if rfl rfl rfl rfl dg (fun _ => ?_) (fun h => absurd rfl h)
        go_simp
        exact hK _ _ hB rfl
      · have dg : ac.tmps.getD 26 undef = .bool false := (hdep ⟨11, .guard⟩ (by simp) rfl)
        refine wpOp_if rfl rfl rfl rfl dg (fun _ => ?_) (fun h => absurd rfl h)
        have d29 : ac.tmps.getD 29 undef = .pointer (some ⟨gr, 5, none⟩) := (hdep ⟨14, .data⟩ (by simp) rfl)
        go_simp
        exact hK _ _ hB rfl
      · have dg : ac.tmps.getD 26 undef = .bool false := (hdep ⟨11, .guard⟩ (by simp) rfl)
        refine wpOp_if rfl rfl rfl rfl dg (fun _ => ?_) (fun h => absurd rfl h)
        go_simp
        exact hK _ _ hB rfl
      · have dg : ac.tmps.getD 26 undef = .bool false := (hdep ⟨11, .guard⟩ (by simp) rfl)
        refine wpOp_if rfl rfl rfl rfl dg (fun _ => ?_) (fun h => absurd rfl h)
        have d30 : ac.tmps.getD 30 undef = .int .i64 bp := (hdep ⟨15, .data⟩ (by simp) rfl)
        have d31 : ac.tmps.getD 31 undef = .int .i64 Sw := (hdep ⟨16, .data⟩ (by simp) rfl)
        go_simp
        exact hK _ _ hB rfl
      · have dg : ac.tmps.getD 26 undef = .bool false := (hdep ⟨11, .guard⟩ (by simp) rfl)
        refine wpOp_if rfl rfl rfl rfl dg (fun _ => ?_) (fun h => absurd rfl h)
        have d28 : ac.tmps.getD 28 undef = .int .i64 (100 * Sb) := (hdep ⟨13, .data⟩ (by simp) rfl)
        have d32 : ac.tmps.getD 32 undef = .int .i64 P := (hdep ⟨17, .data⟩ (by simp) rfl)
        go_simp
        exact hK _ _ hB rfl
      · have d26 : ac.tmps.getD 26 undef = .bool false := (hdep ⟨11, .data⟩ (by simp) rfl)
        have d33 : ac.tmps.getD 33 undef = .bool true := (hdep ⟨18, .data⟩ (by simp) rfl)
        refine wpOp_of rfl rfl ?_
        go_simp
        exact hK _ _ hB rfl
    · intro ac wz ha hT hv
      have v15 : ac.tmps.getD 15 undef = .slice A n c := (hv 0 (by decide))
      have v16 : ac.tmps.getD 16 undef = .int .i64 Sl := (hv 1 (by decide))
      have v17 : ac.tmps.getD 17 undef = .pointer (some ⟨gr, 2, none⟩) := (hv 2 (by decide))
      have v18 : ac.tmps.getD 18 undef = .int .i64 nl := (hv 3 (by decide))
      have v19 : ac.tmps.getD 19 undef = .bool false := (hv 4 (by decide))
      have v20 : ac.tmps.getD 20 undef = .bool false := (hv 5 (by decide))
      have v21 : ac.tmps.getD 21 undef = .int .i64 Sw := (hv 6 (by decide))
      have v22 : ac.tmps.getD 22 undef = .pointer (some ⟨gr, 3, none⟩) := (hv 7 (by decide))
      have v23 : ac.tmps.getD 23 undef = .int .i64 nw := (hv 8 (by decide))
      have v24 : ac.tmps.getD 24 undef = .bool false := (hv 9 (by decide))
      have v25 : ac.tmps.getD 25 undef = .bool false := (hv 10 (by decide))
      have v26 : ac.tmps.getD 26 undef = .bool false := (hv 11 (by decide))
      have v27 : ac.tmps.getD 27 undef = .int .i64 Sb := (hv 12 (by decide))
      have v28 : ac.tmps.getD 28 undef = .int .i64 (100 * Sb) := (hv 13 (by decide))
      have v29 : ac.tmps.getD 29 undef = .pointer (some ⟨gr, 5, none⟩) := (hv 14 (by decide))
      have v30 : ac.tmps.getD 30 undef = .int .i64 bp := (hv 15 (by decide))
      have v31 : ac.tmps.getD 31 undef = .int .i64 Sw := (hv 16 (by decide))
      have v32 : ac.tmps.getD 32 undef = .int .i64 P := (hv 17 (by decide))
      have v33 : ac.tmps.getD 33 undef = .bool true := (hv 18 (by decide))
      have v34 : ac.tmps.getD 34 undef = .bool true := (hv 19 (by decide))
      clear hv
      simp only [List.map_cons, List.map_nil, Act.puts] at ha
      generalize ac.tmps.getD 15 undef = y15 at ha v15
      generalize ac.tmps.getD 16 undef = y16 at ha v16
      generalize ac.tmps.getD 17 undef = y17 at ha v17
      generalize ac.tmps.getD 18 undef = y18 at ha v18
      generalize ac.tmps.getD 19 undef = y19 at ha v19
      generalize ac.tmps.getD 20 undef = y20 at ha v20
      generalize ac.tmps.getD 21 undef = y21 at ha v21
      generalize ac.tmps.getD 22 undef = y22 at ha v22
      generalize ac.tmps.getD 23 undef = y23 at ha v23
      generalize ac.tmps.getD 24 undef = y24 at ha v24
      generalize ac.tmps.getD 25 undef = y25 at ha v25
      generalize ac.tmps.getD 26 undef = y26 at ha v26
      generalize ac.tmps.getD 27 undef = y27 at ha v27
      generalize ac.tmps.getD 28 undef = y28 at ha v28
      generalize ac.tmps.getD 29 undef = y29 at ha v29
      generalize ac.tmps.getD 30 undef = y30 at ha v30
      generalize ac.tmps.getD 31 undef = y31 at ha v31
      generalize ac.tmps.getD 32 undef = y32 at ha v32
      generalize ac.tmps.getD 33 undef = y33 at ha v33
      generalize ac.tmps.getD 34 undef = y34 at ha v34
      simp only [Act.put, List.setIfInBounds_toArray, List.set_cons_zero, List.set_cons_succ] at ha
      subst ha
      subst v15 v16 v17 v18 v19 v20 v21 v22 v23 v24 v25 v26 v27 v28 v29 v30 v31 v32 v33 v34
      have HBz := hid (HB2.out.trans (hT.mono HB2.out.size))
      have HRz := hid (HR2.out.below hT HR2.out.lt)
      clear hT HTT HR2 HB2
      go_wp2_with fail
      go_ret
      exact ⟨by rw [HFB.out]; rfl, HBz.out⟩
  refine region_makes [15, 16, 17, 18, 19, 20, 21, 22, 23, 24, 25, 26, 27, 28, 29, 30, 31, 32, 33, 34] (fun jx vx _ => vx = ([.slice A n c, .int .i64 Sl, .pointer (some ⟨gr, 2, none⟩), .int .i64 nl, .bool false, .bool false, .int .i64 Sw, .pointer (some ⟨gr, 3, none⟩), .int .i64 nw, .bool false, .bool false, .bool false, .int .i64 Sb, .int .i64 (100 * Sb), .pointer (some ⟨gr, 5, none⟩), .int .i64 bp, .int .i64 Sw, .int .i64 P, .bool false, .bool false] : List Value).getD jx undef) (fun _ => false) rfl (by kernel_rfl) rfl (by decide) (by simp) (fun _ _ _ _ h _ => h) (fun _ _ _ _ h _ => by cases h) ?_ ?_
  · intro io oo ac wz hj hbase hT hdep hx1 hx2 K hK'
    have hK : ∀ v w2, Below wz.heap.size wz w2 → ( v = ([.slice A n c, .int .i64 Sl, .pointer (some ⟨gr, 2, none⟩), .int .i64 nl, .bool false, .bool false, .int .i64 Sw, .pointer (some ⟨gr, 3, none⟩), .int .i64 nw, .bool false, .bool false, .bool false, .int .i64 Sb, .int .i64 (100 * Sb), .pointer (some ⟨gr, 5, none⟩), .int .i64 bp, .int .i64 Sw, .int .i64 P, .bool false, .bool false] : List Value).getD io undef) → K (ac.put (some (([15, 16, 17, 18, 19, 20, 21, 22, 23, 24, 25, 26, 27, 28, 29, 30, 31, 32, 33, 34] : List Nat).getD io 0)) v) w2 := fun v w2 h1 h2 => hK' v w2 h1 h2 (fun h => by cases h)
    clear hK' hx1 hx2
    have hB := Below.refl wz.heap.size wz
    have e1 : ac.tmps.getD 1 undef = .slice A n c := hbase 1 (by decide)
    have e2 : ac.tmps.getD 2 undef = .pointer (some ⟨gr, 0, none⟩) := hbase 2 (by decide)
    have e5 : ac.tmps.getD 5 undef = .int .i64 Sw := hbase 5 (by decide)
    have e6 : ac.tmps.getD 6 undef = .int .i64 Sb := hbase 6 (by decide)
    have r2 := (HR2.out.below hT HR2.out.lt).at 2 rfl
    have r3 := (HR2.out.below hT HR2.out.lt).at 3 rfl
    have r5 := (HR2.out.below hT HR2.out.lt).at 5 rfl
    have hio : io < 20 := (Array.getElem?_eq_some_iff.1 hj).1
    obtain rfl | rfl | rfl | rfl | rfl | rfl | rfl | rfl | rfl | rfl | rfl | rfl | rfl | rfl | rfl | rfl | rfl | rfl | rfl | rfl : io = 0 ∨ io = 1 ∨ io = 2 ∨ io = 3 ∨ io = 4 ∨ io = 5 ∨ io = 6 ∨ io = 7 ∨ io = 8 ∨ io = 9 ∨ io = 10 ∨ io = 11 ∨ io = 12 ∨ io = 13 ∨ io = 14 ∨ io = 15 ∨ io = 16 ∨ io = 17 ∨ io = 18 ∨ io = 19 := by omega
    all_goals (injection hj with hj; subst hj; clear hio)
    · refine wpOp_of rfl rfl ?_
      go_simp
      exact hK _ _ hB rfl
    · have d15 : ac.tmps.getD 15 undef = .slice A n c := (hdep ⟨0, .data⟩ (by simp) rfl)
      refine wpOp_of rfl rfl ?_
      go_simp
      refine (HTT.out wz hT).mono ?_
      rintro e w2 ⟨rfl, hb⟩
      exact hK _ _ hb rfl
    · refine wpOp_of rfl rfl ?_
      go_simp
      exact hK _ _ hB rfl
    · have d17 : ac.tmps.getD 17 undef = .pointer (some ⟨gr, 2, none⟩) := (hdep ⟨2, .data⟩ (by simp) rfl)
      refine wpOp_of rfl rfl ?_
      go_simp
      exact hK _ _ hB rfl
    · have d16 : ac.tmps.getD 16 undef = .int .i64 Sl := (hdep ⟨1, .data⟩ (by simp) rfl)
      have d18 : ac.tmps.getD 18 undef = .int .i64 nl := (hdep ⟨3, .data⟩ (by simp) rfl)
      refine wpOp_of rfl rfl ?_
      go_simp
      exact hK _ _ hB rfl
    · have d19 : ac.tmps.getD 19 undef = .bool false := (hdep ⟨4, .data⟩ (by simp) rfl)
      refine wpOp_of rfl rfl ?_
      go_simp
      exact hK _ _ hB rfl
    · have dg : ac.tmps.getD 20 undef = .bool false := (hdep ⟨5, .guard⟩ (by simp) rfl)
      refine wpOp_if rfl rfl rfl rfl dg (fun _ => ?_) (fun h => absurd rfl h)
      go_simp
      exact hK _ _ hB rfl
    · have dg : ac.tmps.getD 20 undef = .bool false := (hdep ⟨5, .guard⟩ (by simp) rfl)
      refine wpOp_if rfl rfl rfl rfl dg (fun _ => ?_) (fun h => absurd rfl h)
      go_simp
      exact hK _ _ hB rfl
    · have dg : ac.tmps.getD 20 undef = .bool false := (hdep ⟨5, .guard⟩ (by simp) rfl)
      refine wpOp_if rfl rfl rfl rfl dg (fun _ => ?_) (fun h => absurd rfl h)
      have d22 : ac.tmps.getD 22 undef = .pointer (some ⟨gr, 3, none⟩) := (hdep ⟨7, .data⟩ (by simp) rfl)
      go_simp
      exact hK _ _ hB rfl
    · have dg : ac.tmps.getD 20 undef = .bool false := (hdep ⟨5, .guard⟩ (by simp) rfl)
      refine wpOp_if rfl rfl rfl rfl dg (fun _ => ?_) (fun h => absurd rfl h)
      have d21 : ac.tmps.getD 21 undef = .int .i64 Sw := (hdep ⟨6, .data⟩ (by simp) rfl)
      have d23 : ac.tmps.getD 23 undef = .int .i64 nw := (hdep ⟨8, .data⟩ (by simp) rfl)
      go_simp
      exact hK _ _ hB rfl
    · have d20 : ac.tmps.getD 20 undef = .bool false := (hdep ⟨5, .data⟩ (by simp) rfl)
      have d24 : ac.tmps.getD 24 undef = .bool false := (hdep ⟨9, .data⟩ (by simp) rfl)
      refine wpOp_of rfl rfl ?_
      go_simp
      exact hK _ _ hB rfl
    · have d25 : ac.tmps.getD 25 undef = .bool false := (hdep ⟨10, .data⟩ (by simp) rfl)
      refine wpOp_of rfl rfl ?_
      go_simp
      exact hK _ _ hB rfl
    · have dg : ac.tmps.getD 26 undef = .bool false := (hdep ⟨11, .guard⟩ (by simp) rfl)
      refine wpOp_if rfl rfl rfl rfl dg (fun _ => ?_) (fun h => absurd rfl h)
      go_simp
      exact hK _ _ hB rfl
    · have dg : ac.tmps.getD 26 undef = .bool false := (hdep ⟨11, .guard⟩ (by simp) rfl)
      refine wpOp_if rfl rfl rfl rfl dg (fun _ => ?_) (fun h => absurd rfl h)
      have d27 : ac.tmps.getD 27 undef = .int .i64 Sb := (hdep ⟨12, .data⟩ (by simp) rfl)
      go_simp
      exact hK _ _ hB rfl
    · have dg : ac.tmps.getD 26 undef = .bool false := (hdep ⟨11, .guard⟩ (by simp) rfl)
      refine wpOp_if rfl rfl rfl rfl dg (fun _ => ?_) (fun h => absurd rfl h)
      go_simp
      exact hK _ _ hB rfl
    · have dg : ac.tmps.getD 26 undef = .bool false := (hdep ⟨11, .guard⟩ (by simp) rfl)
      refine wpOp_if rfl rfl rfl rfl dg (fun _ => ?_) (fun h => absurd rfl h)
      have d29 : ac.tmps.getD 29 undef = .pointer (some ⟨gr, 5, none⟩) := (hdep ⟨14, .data⟩ (by simp) rfl)
      go_simp
      exact hK _ _ hB rfl
    · have dg : ac.tmps.getD 26 undef = .bool false := (hdep ⟨11, .guard⟩ (by simp) rfl)
      refine wpOp_if rfl rfl rfl rfl dg (fun _ => ?_) (fun h => absurd rfl h)
      go_simp
      exact hK _ _ hB rfl
    · have dg : ac.tmps.getD 26 undef = .bool false := (hdep ⟨11, .guard⟩ (by simp) rfl)
      refine wpOp_if rfl rfl rfl rfl dg (fun _ => ?_) (fun h => absurd rfl h)
      have d30 : ac.tmps.getD 30 undef = .int .i64 bp := (hdep ⟨15, .data⟩ (by simp) rfl)
      have d31 : ac.tmps.getD 31 undef = .int .i64 Sw := (hdep ⟨16, .data⟩ (by simp) rfl)
      go_simp
      exact hK _ _ hB rfl
    · have dg : ac.tmps.getD 26 undef = .bool false := (hdep ⟨11, .guard⟩ (by simp) rfl)
      refine wpOp_if rfl rfl rfl rfl dg (fun _ => ?_) (fun h => absurd rfl h)
      have d28 : ac.tmps.getD 28 undef = .int .i64 (100 * Sb) := (hdep ⟨13, .data⟩ (by simp) rfl)
      have d32 : ac.tmps.getD 32 undef = .int .i64 P := (hdep ⟨17, .data⟩ (by simp) rfl)
      go_simp
      exact hK _ _ hB rfl
    · have d26 : ac.tmps.getD 26 undef = .bool false := (hdep ⟨11, .data⟩ (by simp) rfl)
      have d33 : ac.tmps.getD 33 undef = .bool false := (hdep ⟨18, .data⟩ (by simp) rfl)
      refine wpOp_of rfl rfl ?_
      go_simp
      exact hK _ _ hB rfl
  · intro ac wz ha hT hv
    have v15 : ac.tmps.getD 15 undef = .slice A n c := (hv 0 (by decide))
    have v16 : ac.tmps.getD 16 undef = .int .i64 Sl := (hv 1 (by decide))
    have v17 : ac.tmps.getD 17 undef = .pointer (some ⟨gr, 2, none⟩) := (hv 2 (by decide))
    have v18 : ac.tmps.getD 18 undef = .int .i64 nl := (hv 3 (by decide))
    have v19 : ac.tmps.getD 19 undef = .bool false := (hv 4 (by decide))
    have v20 : ac.tmps.getD 20 undef = .bool false := (hv 5 (by decide))
    have v21 : ac.tmps.getD 21 undef = .int .i64 Sw := (hv 6 (by decide))
    have v22 : ac.tmps.getD 22 undef = .pointer (some ⟨gr, 3, none⟩) := (hv 7 (by decide))
    have v23 : ac.tmps.getD 23 undef = .int .i64 nw := (hv 8 (by decide))
    have v24 : ac.tmps.getD 24 undef = .bool false := (hv 9 (by decide))
    have v25 : ac.tmps.getD 25 undef = .bool false := (hv 10 (by decide))
    have v26 : ac.tmps.getD 26 undef = .bool false := (hv 11 (by decide))
    have v27 : ac.tmps.getD 27 undef = .int .i64 Sb := (hv 12 (by decide))
    have v28 : ac.tmps.getD 28 undef = .int .i64 (100 * Sb) := (hv 13 (by decide))
    have v29 : ac.tmps.getD 29 undef = .pointer (some ⟨gr, 5, none⟩) := (hv 14 (by decide))
    have v30 : ac.tmps.getD 30 undef = .int .i64 bp := (hv 15 (by decide))
    have v31 : ac.tmps.getD 31 undef = .int .i64 Sw := (hv 16 (by decide))
    have v32 : ac.tmps.getD 32 undef = .int .i64 P := (hv 17 (by decide))
    have v33 : ac.tmps.getD 33 undef = .bool false := (hv 18 (by decide))
    have v34 : ac.tmps.getD 34 undef = .bool false := (hv 19 (by decide))
    clear hv
    simp only [List.map_cons, List.map_nil, Act.puts] at ha
    generalize ac.tmps.getD 15 undef = y15 at ha v15
    generalize ac.tmps.getD 16 undef = y16 at ha v16
    generalize ac.tmps.getD 17 undef = y17 at ha v17
    generalize ac.tmps.getD 18 undef = y18 at ha v18
    generalize ac.tmps.getD 19 undef = y19 at ha v19
    generalize ac.tmps.getD 20 undef = y20 at ha v20
    generalize ac.tmps.getD 21 undef = y21 at ha v21
    generalize ac.tmps.getD 22 undef = y22 at ha v22
    generalize ac.tmps.getD 23 undef = y23 at ha v23
    generalize ac.tmps.getD 24 undef = y24 at ha v24
    generalize ac.tmps.getD 25 undef = y25 at ha v25
    generalize ac.tmps.getD 26 undef = y26 at ha v26
    generalize ac.tmps.getD 27 undef = y27 at ha v27
    generalize ac.tmps.getD 28 undef = y28 at ha v28
    generalize ac.tmps.getD 29 undef = y29 at ha v29
    generalize ac.tmps.getD 30 undef = y30 at ha v30
    generalize ac.tmps.getD 31 undef = y31 at ha v31
    generalize ac.tmps.getD 32 undef = y32 at ha v32
    generalize ac.tmps.getD 33 undef = y33 at ha v33
    generalize ac.tmps.getD 34 undef = y34 at ha v34
    simp only [Act.put, List.setIfInBounds_toArray, List.set_cons_zero, List.set_cons_succ] at ha
    subst ha
    subst v15 v16 v17 v18 v19 v20 v21 v22 v23 v24 v25 v26 v27 v28 v29 v30 v31 v32 v33 v34
    have HBz := hid (HB2.out.trans (hT.mono HB2.out.size))
    have HRz := hid (HR2.out.below hT HR2.out.lt)
    clear hT HTT HR2 HB2
    clear hc1 hc2 hc3 wP wB
    go_wp2_with fail
    go_loopw [7, 8, 37] (fun s7 s8 s37 wr => ∃ i : Nat, i ≤ n ∧ s37 = .int .i64 i ∧ s7 = .int .i64 (lastD L i) ∧ s8 = .int .i64 (harmD L i : Nat) ∧ Hid (Below wz.heap.size wz wr ∧ ∀ j, j < i → okAt ⟨tr, tl, nl, nw, ga, bp, gp⟩ L j = true)) (fun _ _ s37 _ => n - (intOf s37).toNat)
    case atStart => exact ⟨0, by omega, rfl, rfl, rfl, hid ⟨Below.refl _ _, fun j hj => absurd hj (by omega)⟩⟩
    case round =>
      obtain ⟨i, hi, rfl, rfl, rfl, HH⟩ := hrel
      have HBW : Hid (Below gr w wr) := hid (by rw [← HGR.out]; exact HBz.out.trans (HH.out.1.mono HBz.out.size))
      by_cases hil : i < n
      · have hil2 : i < L.length := by have := HN.out; omega
        obtain ⟨b1, o1, hA1, hb1, hcc1⟩ := (HC.out.below (HBW.out.mono (Nat.le_of_eq HGR.out))).at (by omega)
        obtain ⟨l0, l1, l2, l3, l4, l5, l6⟩ := hcc1 i _ (getD_at hil2)
        have hla : lastD L (i + 1) = if 0 < (L.getD i default).da then (L.getD i default).da else lastD L i := rfl
        have hha : harmD L (i + 1) = if 0 < (L.getD i default).da then 0 else harmD L i + 1 := rfl
        have hok : okAt ⟨tr, tl, nl, nw, ga, bp, gp⟩ L i = !(decide (ga < (L.getD i default).ga) || (decide (0 < (L.getD i default).da) && decide (0 < lastD L i) && ((L.getD i default).da != lastD L i) && decide ((harmD L i : Int) < gp))) := rfl
        have hhl := harmD_le L i
        obtain ⟨cc, hcc⟩ : ∃ cc, L.getD i default = cc := ⟨_, rfl⟩
        rw [hcc] at l0 l1 l2 l3 l4 l5 l6 hla hha hok
        obtain ⟨id, bl, ln, wt, ga', br, da⟩ := cc
        simp only at l0 l1 l2 l3 l4 l5 l6 hla hha hok
        obtain ⟨la, hla0⟩ : ∃ x, lastD L i = x := ⟨_, rfl⟩
        obtain ⟨ha, hha0⟩ : ∃ x, harmD L i = x := ⟨_, rfl⟩
        rw [hla0] at hla hok ⊢
        rw [hha0] at hha hok hhl ⊢
        obtain ⟨G0, g0⟩ : ∃ b, decide (ga < ga') = b := ⟨_, rfl⟩
        obtain ⟨G1, g1⟩ : ∃ b, decide (0 < da) = b := ⟨_, rfl⟩
        obtain ⟨G2, g2⟩ : ∃ b, decide (0 < la) = b := ⟨_, rfl⟩
        obtain ⟨G3, g3⟩ : ∃ b, (da != la) = b := ⟨_, rfl⟩
        obtain ⟨G4, g4⟩ : ∃ b, decide ((ha : Int) < gp) = b := ⟨_, rfl⟩
        rw [g0, g1, g2, g3, g4] at hok
        have HOK := hid hok
        have HLA : Hid (lastD L (i + 1) = if G1 = true then da else la) := hid (by rw [hla, ← g1]; simp)
        have HHA : Hid (harmD L (i + 1) = if G1 = true then 0 else ha + 1) := hid (by rw [hha, ← g1]; simp)
        subst hA1
        have bi : (i : Int) < n := by omega
        have hbl : Below wr.heap.size wr (wr.alloc (.cells #[.int .i64 id, .int .i64 bl, .int .i64 ln, .int .i64 wt, .int .i64 ga', .int .i64 br, .int .i64 da] 33)) := (Below.refl _ _).alloc (Nat.le_refl _) _
        have HBX : Hid (Below gr w (wr.alloc (.cells #[.int .i64 id, .int .i64 bl, .int .i64 ln, .int .i64 wt, .int .i64 ga', .int .i64 br, .int .i64 da] 33))) := hid (HBW.out.trans (hbl.mono (by have := HBW.out.size; have := HGR.out; omega)))
        have HBL := hid hbl
        clear hcc1 hcc hb1 hla hha hok hla0 hha0 hbl
        have r4 := ((HRz.out.below HH.out.1 HRz.out.lt).below HBL.out (HRz.out.below HH.out.1 HRz.out.lt).lt).at 4 rfl
        have r6 := ((HRz.out.below HH.out.1 HRz.out.lt).below HBL.out (HRz.out.below HH.out.1 HRz.out.lt).lt).at 6 rfl
        have wh : IntKind.i64.wrap ((ha : Int) + 1) = ((ha + 1 : Nat) : Int) := by rw [IntWalk.i64_in _ (by omega)]; omega
        have HN2 : Hid (∀ W, Below wr.heap.size wr W → Below wz.heap.size wz W) := hid (fun W hb => HH.out.1.trans (hb.mono HH.out.1.size))
        have HOKN : Hid (okAt ⟨tr, tl, nl, nw, ga, bp, gp⟩ L i = true → ∀ j, j < i + 1 → okAt ⟨tr, tl, nl, nw, ga, bp, gp⟩ L j = true) := hid (fun h j hj => by
          by_cases e : j < i
          · exact HH.out.2 j e
          · have : j = i := by omega
            subst this; exact h)
        have HBAD : Hid (okAt ⟨tr, tl, nl, nw, ga, bp, gp⟩ L i = false → fitB ⟨tr, tl, nl, nw, ga, bp, gp⟩ L = false) := hid (fun h => by
          rw [HFB.out]
          simp only [Bool.or_self, Bool.not_false, Bool.true_and]
          rw [List.all_eq_false]
          exact ⟨i, List.mem_range.2 hil, by rw [h]; decide⟩)
        obtain ⟨h1, hh1⟩ : ∃ h1, ha + 1 = h1 := ⟨_, rfl⟩
        rw [hh1] at wh HHA
        clear hh1
        cases G0
        case true =>
          have HX : Hid (fitB ⟨tr, tl, nl, nw, ga, bp, gp⟩ L = false) := hid (HBAD.out (by rw [HOK.out]; rfl))
          clear HBAD HOKN HN2 HOK HLA HHA
          go_wp2_with fail
          go_ret
          exact ⟨by rw [HX.out]; rfl, by rw [HGR.out]; exact HBX.out⟩
        cases G1
        case false =>
          have HX : Hid (∀ j, j < i + 1 → okAt ⟨tr, tl, nl, nw, ga, bp, gp⟩ L j = true) := hid (HOKN.out (by rw [HOK.out]; rfl))
          have HY : Hid (lastD L (i + 1) = la) := hid (by rw [HLA.out]; simp)
          have HZ : Hid (harmD L (i + 1) = h1) := hid (by rw [HHA.out]; simp)
          have HW := hid (HN2.out _ HBL.out)
          clear HBAD HOKN HN2 HOK HLA HHA
          go_wp2_with fail
          exact ⟨⟨i + 1, by omega, by go_num, by rw [HY.out], by rw [HZ.out], hid ⟨HW.out, HX.out⟩⟩, by simp [intOf]; omega⟩
        cases G2
        case false =>
          have HX : Hid (∀ j, j < i + 1 → okAt ⟨tr, tl, nl, nw, ga, bp, gp⟩ L j = true) := hid (HOKN.out (by rw [HOK.out]; rfl))
          have HY : Hid (lastD L (i + 1) = da) := hid (by rw [HLA.out]; simp)
          have HZ : Hid (harmD L (i + 1) = 0) := hid (by rw [HHA.out]; simp)
          have HW := hid (HN2.out _ HBL.out)
          clear HBAD HOKN HN2 HOK HLA HHA
          go_wp2_with fail
          exact ⟨⟨i + 1, by omega, by go_num, by rw [HY.out], by rw [HZ.out]; rfl, hid ⟨HW.out, HX.out⟩⟩, by simp [intOf]; omega⟩
        cases G3
        case false =>
          have HX : Hid (∀ j, j < i + 1 → okAt ⟨tr, tl, nl, nw, ga, bp, gp⟩ L j = true) := hid (HOKN.out (by rw [HOK.out]; rfl))
          have HY : Hid (lastD L (i + 1) = da) := hid (by rw [HLA.out]; simp)
          have HZ : Hid (harmD L (i + 1) = 0) := hid (by rw [HHA.out]; simp)
          have HW := hid (HN2.out _ HBL.out)
          clear HBAD HOKN HN2 HOK HLA HHA
          go_wp2_with fail
          exact ⟨⟨i + 1, by omega, by go_num, by rw [HY.out], by rw [HZ.out]; rfl, hid ⟨HW.out, HX.out⟩⟩, by simp [intOf]; omega⟩
        cases G4
        case false =>
          have HX : Hid (∀ j, j < i + 1 → okAt ⟨tr, tl, nl, nw, ga, bp, gp⟩ L j = true) := hid (HOKN.out (by rw [HOK.out]; rfl))
          have HY : Hid (lastD L (i + 1) = da) := hid (by rw [HLA.out]; simp)
          have HZ : Hid (harmD L (i + 1) = 0) := hid (by rw [HHA.out]; simp)
          have HW := hid (HN2.out _ HBL.out)
          clear HBAD HOKN HN2 HOK HLA HHA
          go_wp2_with fail
          exact ⟨⟨i + 1, by omega, by go_num, by rw [HY.out], by rw [HZ.out]; rfl, hid ⟨HW.out, HX.out⟩⟩, by simp [intOf]; omega⟩
        have HX : Hid (fitB ⟨tr, tl, nl, nw, ga, bp, gp⟩ L = false) := hid (HBAD.out (by rw [HOK.out]; rfl))
        clear HBAD HOKN HN2 HOK HLA HHA
        go_wp2_with fail
        go_ret
        exact ⟨by rw [HX.out]; rfl, by rw [HGR.out]; exact HBX.out⟩
      · have : i = n := by omega
        subst this
        have HALL : Hid (fitB ⟨tr, tl, nl, nw, ga, bp, gp⟩ L = true) := hid (by
          rw [HFB.out]
          simp only [Bool.or_self, Bool.not_false, Bool.true_and]
          rw [List.all_eq_true]
          intro j hj
          exact HH.out.2 j (List.mem_range.1 hj))
        go_wp2_with fail
        go_ret
        exact ⟨by rw [HALL.out]; rfl, by rw [HGR.out]; exact HBW.out⟩
end Go.Proofs.Ythfoggbaoafpjaa
