/-
  The walk of the library's symMergeCmpFunc at the cars' indices: the whole. Conditions: both sides are sorted, the lower indices stand to the left.
-/
import Derived.Test.YthfoggbaoafpjaaSyB
namespace Go.Proofs.Ythfoggbaoafpjaa
open Go.RowKit

/-- Within the search for the halves' cut. -/
def SymI (k : Int → Int) (f : Nat → Int) (a m b mid i j : Nat) : Prop := ∃ s0 r0 : Nat, ((mid < m ∧ s0 = mid + m - b ∧ r0 = mid) ∨ (m ≤ mid ∧ s0 = a ∧ r0 = m)) ∧ s0 ≤ i ∧ i ≤ j ∧ j ≤ r0 ∧
  (∀ q, s0 ≤ q → q < i → ¬ k (f (mid + m - 1 - q)) < k (f q)) ∧ (∀ q, j ≤ q → q < r0 → k (f (mid + m - 1 - q)) < k (f q))
section
variable {k : Int → Int} {f : Nat → Int} {a m b mid i j : Nat}
theorem SymI.start1 (hm : mid < m) (hmid : (a + b) / 2 = mid) (hmb : m < b) (_ham : a < m) {S : Nat} (hS : mid + m - b = S) : SymI k f a m b mid S mid :=
  ⟨S, mid, Or.inl ⟨hm, hS.symm, rfl⟩, Nat.le_refl _, by omega, Nat.le_refl _, fun q h1 h2 => by omega, fun q h1 h2 => by omega⟩
theorem SymI.start2 (hm : ¬ mid < m) (ham : a < m) : SymI k f a m b mid a m :=
  ⟨a, m, Or.inr ⟨by omega, rfl, rfl⟩, Nat.le_refl _, by omega, Nat.le_refl _, fun q h1 h2 => by omega, fun q h1 h2 => by omega⟩
theorem SymI.bd (h : SymI k f a m b mid i j) (hmid : (a + b) / 2 = mid) (_ham : a < m) (_hmb : m < b) : a ≤ i ∧ i ≤ j ∧ j ≤ m ∧ j ≤ mid := by
  obtain ⟨s0, r0, h1, h2, h3, h4, _, _⟩ := h
  omega
theorem SymI.at_ (h : SymI k f a m b mid i j) (hmid : (a + b) / 2 = mid) (ham : a < m) (hmb : m < b) {c : Nat} (h1 : i ≤ c) (h2 : c < j) : a ≤ c ∧ c < m ∧ m ≤ mid + m - 1 - c ∧ mid + m - 1 - c < b := by
  obtain ⟨s0, r0, h1, h2, h3, h4, _, _⟩ := h
  omega
theorem SymI.up (h : SymI k f a m b mid i j) (hp : Pre k f a m b) (hmid : (a + b) / 2 = mid) (ham : a < m) (hmb : m < b) {c : Nat} (h1 : i ≤ c) (h2 : c < j) (hc : ¬ k (f (mid + m - 1 - c)) < k (f c)) : SymI k f a m b mid (c + 1) j := by
  obtain ⟨s0, r0, g1, g2, g3, g4, g5, g6⟩ := h
  refine ⟨s0, r0, g1, by omega, by omega, g4, fun q q1 q2 q3 => ?_, g6⟩
  have e1 := hp.key1 (i := q) (j := c) (by omega) (by omega) (by omega)
  have e2 := hp.key2 (i := mid + m - 1 - c) (j := mid + m - 1 - q) (by omega) (by omega) (by omega)
  omega
theorem SymI.down (h : SymI k f a m b mid i j) (hp : Pre k f a m b) (hmid : (a + b) / 2 = mid) (ham : a < m) (hmb : m < b) {c : Nat} (h1 : i ≤ c) (h2 : c < j) (hc : k (f (mid + m - 1 - c)) < k (f c)) : SymI k f a m b mid i c := by
  obtain ⟨s0, r0, g1, g2, g3, g4, g5, g6⟩ := h
  refine ⟨s0, r0, g1, g2, h1, by omega, g5, fun q q1 q2 => ?_⟩
  have e1 := hp.key1 (i := c) (j := q) (by omega) (by omega) (by omega)
  have e2 := hp.key2 (i := mid + m - 1 - q) (j := mid + m - 1 - c) (by omega) (by omega) (by omega)
  omega
theorem SymI.fin (h : SymI k f a m b mid i i) (hp : Pre k f a m b) (hmid : (a + b) / 2 = mid) (ham : a < m) (hmb : m < b) : Cut k f a m b mid i (mid + m - i) := by
  obtain ⟨s0, r0, g1, g2, g3, g4, g5, g6⟩ := h
  refine ⟨by omega, by omega, by omega, by omega, by omega, by omega, by omega, fun h1 h2 => ?_, fun h1 h2 => ?_⟩
  · have h3 := g5 (i - 1) (by omega) (by omega)
    rw [show mid + m - 1 - (i - 1) = mid + m - i by omega] at h3
    exact Bef.of_lt h3 (hp.lft _ _ (by omega) (by omega) (by omega) (by omega))
  · have h3 := g6 i (by omega) (by omega)
    rw [show mid + m - 1 - i = mid + m - i - 1 by omega] at h3
    exact Bef.of_key h3
theorem Pre.congr {g : Nat → Int} (h : Pre k f a m b) (ham : a ≤ m) (hmb : m ≤ b) (he : ∀ i, a ≤ i → i < b → g i = f i) : Pre k g a m b :=
  ⟨fun i j h1 h2 h3 => by rw [he i h1 (by omega), he j (by omega) (by omega)]; exact h.s1 i j h1 h2 h3,
   fun i j h1 h2 h3 => by rw [he i (by omega) (by omega), he j (by omega) h3]; exact h.s2 i j h1 h2 h3,
   fun i j h1 h2 h3 h4 => by rw [he i h1 (by omega), he j (by omega) h4]; exact h.lft i j h1 h2 h3 h4⟩
theorem Pre.side (h : Pre k f a m b) (hs : a = m ∨ m = b) : Srt k f a b := by
  rcases hs with rfl | rfl
  · exact h.s2
  · exact h.s1
end

set_option maxHeartbeats 16000000 in
set_option maxRecDepth 100000 in
theorem symC_any (L : List Car) (A : Option Addr) (c cb g n cap a m b : Nat) (f : Nat → Int) (w : World) (hE : Env L A c cb g w) (hR : RowF w g n f) (hi : Idx L.length f a b) (hp : Pre (keyL L) f a m b) (ham : a < m) (hmb : m < b) (hbn : b ≤ n) (hn : n ≤ 100000) (h1 : m ≠ a + 1) (h2 : b ≠ m + 1)
    (IH : ∀ (a' m' b' : Nat) (f' : Nat → Int) (w' : World), b' - a' < b - a → Env L A c cb g w' → RowF w' g n f' → Idx L.length f' a' b' → Pre (keyL L) f' a' m' b' → a' < m' → m' < b' → b' ≤ n → Calls Try.prog 81 #[.slice (some ⟨g, 0, none⟩) n cap, .int .i64 a', .int .i64 m', .int .i64 b', cloV cb] w' (RowP w' g n (Mrg (keyL L) a' b' f'))) :
    Calls Try.prog 81 #[.slice (some ⟨g, 0, none⟩) n cap, .int .i64 a, .int .i64 m, .int .i64 b, cloV cb] w (RowP w g n (Mrg (keyL L) a b f)) := by
  have HR := hid hR
  have HE := hid hE
  have HI := hid hi
  have HP := hid hp
  clear hR hE hi hp
  unfold cloV

  have HIH := hid IH
  clear IH
  unfold cloV at HIH
  obtain ⟨mid, hmid⟩ : ∃ x, (a + b) / 2 = x := ⟨_, rfl⟩
  have hm1 : a < mid := by omega
  have hm2 : mid < b := by omega
  have k0 : (((m - a : Nat) : Int) == 1) = false := by rw [beq_eq_false_iff_ne]; omega
  have k1 : (((b - m : Nat) : Int) == 1) = false := by rw [beq_eq_false_iff_ne]; omega
  have w0 : IntKind.i64.wrap ((m : Int) - (a : Int)) = ((m - a : Nat) : Int) := by rw [IntWalk.i64_in _ (by omega)]; omega
  have w1 : IntKind.i64.wrap ((b : Int) - (m : Int)) = ((b - m : Nat) : Int) := by rw [IntWalk.i64_in _ (by omega)]; omega
  have w2 : ((a : Int) + (b : Int)) / 2 = (mid : Int) := by omega
  have w3 : IntKind.i64.wrap ((mid : Int) + (m : Int)) = ((mid + m : Nat) : Int) := by rw [IntWalk.i64_in _ (by omega)]; omega
  have w4 : IntKind.i64.wrap (((mid + m : Nat) : Int) - 1) = ((mid + m - 1 : Nat) : Int) := by rw [IntWalk.i64_in _ (by omega)]; omega
  have HMID := hid hmid
  obtain ⟨N, hN⟩ : ∃ x, mid + m = x := ⟨_, rfl⟩
  obtain ⟨P, hP⟩ : ∃ x, mid + m - 1 = x := ⟨_, rfl⟩
  have HNN := hid hN
  have HPP := hid hP
  rw [hP, hN] at w4
  rw [hN] at w3
  have hPle : P < N := by omega
  have hNle : N ≤ 200000 := by omega
  have hab2 : b ≤ N + b := by omega
  generalize m - a = M at *
  generalize b - m = N' at *
  rcases (by omega : mid < m ∨ ¬ mid < m) with hm | hm
  · obtain ⟨S, hS⟩ : ∃ x, N - b = x := ⟨_, rfl⟩
    have w5 : IntKind.i64.wrap ((N : Int) - (b : Int)) = (S : Int) := by rw [IntWalk.i64_in _ (by omega)]; omega
    have HST : Hid (SymI (keyL L) f a m b mid S mid) := hid (SymI.start1 hm hmid hmb ham (by rw [hN]; exact hS))
    clear hS hmid hN hP h1 h2
    go_enter Try.func81, Try.ntmps81
    go_wp2_with fail
    clear w5 w0 w1 w2 w3 w4 k0 k1
    go_loopw [20, 21] (fun s20 s21 wr => ∃ i j : Nat, s20 = .int .i64 i ∧ s21 = .int .i64 j ∧ i ≤ j ∧ j ≤ mid ∧ Hid (RowF wr g n f ∧ SymI (keyL L) f a m b mid i j ∧ Exc (fun k => k = g) w wr)) (fun s20 s21 _ => (intOf s21).toNat - (intOf s20).toNat)
    case atStart => exact ⟨S, mid, rfl, rfl, (HST.out.bd HMID.out ham hmb).2.1, (HST.out.bd HMID.out ham hmb).2.2.2, hid ⟨HR.out, HST.out, Exc.refl _ _⟩⟩
    case round =>
      obtain ⟨i, j, rfl, rfl, hij, hjm, HH⟩ := hrel
      clear HST
      by_cases hlt : i < j
      · obtain ⟨H, hH⟩ : ∃ H, (i + j) / 2 = H := ⟨_, rfl⟩
        have hHi : i ≤ H := by omega
        have hHj : H < j := by omega
        have wh : ((i : Int) + (j : Int)) / 2 = (H : Int) := by omega
        clear hH
        obtain ⟨q1, q2, q3, q4⟩ := HH.out.2.1.at_ HMID.out ham hmb hHi hHj
        obtain ⟨G, hG⟩ : ∃ x, mid + m - 1 - H = x := ⟨_, rfl⟩
        rw [hG] at q3 q4
        have HG := hid hG
        have wg : IntKind.i64.wrap ((P : Int) - (H : Int)) = (G : Int) := by have := HPP.out; rw [IntWalk.i64_in _ (by omega)]; omega
        clear hG
        obtain ⟨xn, hx, hxl⟩ := HI.out.nat (i := G) (by omega) (by omega)
        obtain ⟨yn, hy, hyl⟩ := HI.out.nat (i := H) (by omega) (by omega)
        obtain ⟨r, hr⟩ : ∃ r, cmpI (keyL L xn) (keyL L yn) = r := ⟨_, rfl⟩
        obtain ⟨B, hB⟩ : ∃ B, decide (r < 0) = B := ⟨_, rfl⟩
        have HC := hid (fun (W : World) (hb : Below wr.heap.size wr W) => clo_any L A c cb g xn yn W ((HE.out.exc HH.out.2.2).below hb) hxl hyl)
        rw [hr] at HC
        have HX := hid hx
        have HY := hid hy
        have HRR := hid (And.intro hr hB)
        clear hx hy hr
        have b0 : (0 : Int) ≤ (H : Int) := by omega
        have b1 : (H : Int) < (n : Int) := by omega
        have b2 : (0 : Int) ≤ (G : Int) := by omega
        have b3 : (G : Int) < (n : Int) := by omega
        go_upto_region 35 with fail
        clear wh
        refine region_makes [158, 159, 160, 161, 162, 163, 164, 165, 166, 167, 168, 169, 170, 171] (fun jx vx _ => vx = ([.func (.func 54) #[] #[.pointer (some ⟨cb, 0, none⟩)], .slice (some ⟨g, 0, none⟩) n cap, .int .i64 (P : Nat), .int .i64 (H : Nat), .int .i64 (G : Nat), .pointer (some ⟨g, G, none⟩), .int .i64 (xn : Nat), .slice (some ⟨g, 0, none⟩) n cap, .int .i64 (H : Nat), .pointer (some ⟨g, H, none⟩), .int .i64 (yn : Nat), .int .i64 r, .bool B, .bool (!B)] : List Value).getD jx undef) (fun _ => false) rfl (by kernel_rfl) rfl (by decide) (by simp) (fun _ _ _ _ h _ => h) (fun _ _ _ _ h _ => by cases h) ?_ ?_
        · intro io oo ac wz hj hbase hT hdep hx1 hx2 K hK'
          have hK : ∀ v w2, Below wz.heap.size wz w2 → ( v = ([.func (.func 54) #[] #[.pointer (some ⟨cb, 0, none⟩)], .slice (some ⟨g, 0, none⟩) n cap, .int .i64 (P : Nat), .int .i64 (H : Nat), .int .i64 (G : Nat), .pointer (some ⟨g, G, none⟩), .int .i64 (xn : Nat), .slice (some ⟨g, 0, none⟩) n cap, .int .i64 (H : Nat), .pointer (some ⟨g, H, none⟩), .int .i64 (yn : Nat), .int .i64 r, .bool B, .bool (!B)] : List Value).getD io undef) → K (ac.put (some (([158, 159, 160, 161, 162, 163, 164, 165, 166, 167, 168, 169, 170, 171] : List Nat).getD io 0)) v) w2 := fun v w2 h1 h2 => hK' v w2 h1 h2 (fun h => by cases h)
          clear hK' hx1 hx2
          have hB := Below.refl wz.heap.size wz
          have e0 : ac.tmps.getD 0 undef = .slice (some ⟨g, 0, none⟩) n cap := hbase 0 (by decide)
          have e4 : ac.tmps.getD 4 undef = .func (.func 54) #[] #[.pointer (some ⟨cb, 0, none⟩)] := hbase 4 (by decide)
          have e22 : ac.tmps.getD 22 undef = .int .i64 (P : Nat) := hbase 22 (by decide)
          have e23 : ac.tmps.getD 23 undef = .int .i64 (H : Nat) := hbase 23 (by decide)
          have l0 := (HH.out.1.keep hT).at (i := G) (by omega)
          rw [HX.out] at l0
          have l1 := (HH.out.1.keep hT).at (i := H) (by omega)
          rw [HY.out] at l1
          have hio : io < 14 := (Array.getElem?_eq_some_iff.1 hj).1
          obtain rfl | rfl | rfl | rfl | rfl | rfl | rfl | rfl | rfl | rfl | rfl | rfl | rfl | rfl : io = 0 ∨ io = 1 ∨ io = 2 ∨ io = 3 ∨ io = 4 ∨ io = 5 ∨ io = 6 ∨ io = 7 ∨ io = 8 ∨ io = 9 ∨ io = 10 ∨ io = 11 ∨ io = 12 ∨ io = 13 := by omega
          all_goals (injection hj with hj; subst hj; clear hio)
          · refine wpOp_of rfl rfl ?_
            go_simp
            exact hK _ _ hB rfl
          · refine wpOp_of rfl rfl ?_
            go_simp
            exact hK _ _ hB rfl
          · refine wpOp_of rfl rfl ?_
            go_simp
            exact hK _ _ hB rfl
          · refine wpOp_of rfl rfl ?_
            go_simp
            exact hK _ _ hB rfl
          · have d160 : ac.tmps.getD 160 undef = .int .i64 (P : Nat) := (hdep ⟨2, .data⟩ (by simp) rfl)
            have d161 : ac.tmps.getD 161 undef = .int .i64 (H : Nat) := (hdep ⟨3, .data⟩ (by simp) rfl)
            refine wpOp_of rfl rfl ?_
            go_simp
            exact hK _ _ hB rfl
          · have d159 : ac.tmps.getD 159 undef = .slice (some ⟨g, 0, none⟩) n cap := (hdep ⟨1, .data⟩ (by simp) rfl)
            have d162 : ac.tmps.getD 162 undef = .int .i64 (G : Nat) := (hdep ⟨4, .data⟩ (by simp) rfl)
            refine wpOp_of rfl rfl ?_
            go_simp
            exact hK _ _ hB rfl
          · have d163 : ac.tmps.getD 163 undef = .pointer (some ⟨g, G, none⟩) := (hdep ⟨5, .data⟩ (by simp) rfl)
            refine wpOp_of rfl rfl ?_
            go_simp
            exact hK _ _ hB rfl
          · refine wpOp_of rfl rfl ?_
            go_simp
            exact hK _ _ hB rfl
          · refine wpOp_of rfl rfl ?_
            go_simp
            exact hK _ _ hB rfl
          · have d165 : ac.tmps.getD 165 undef = .slice (some ⟨g, 0, none⟩) n cap := (hdep ⟨7, .data⟩ (by simp) rfl)
            have d166 : ac.tmps.getD 166 undef = .int .i64 (H : Nat) := (hdep ⟨8, .data⟩ (by simp) rfl)
            refine wpOp_of rfl rfl ?_
            go_simp
            exact hK _ _ hB rfl
          · have d167 : ac.tmps.getD 167 undef = .pointer (some ⟨g, H, none⟩) := (hdep ⟨9, .data⟩ (by simp) rfl)
            refine wpOp_of rfl rfl ?_
            go_simp
            exact hK _ _ hB rfl
          · have d158 : ac.tmps.getD 158 undef = .func (.func 54) #[] #[.pointer (some ⟨cb, 0, none⟩)] := (hdep ⟨0, .data⟩ (by simp) rfl)
            have d164 : ac.tmps.getD 164 undef = .int .i64 (xn : Nat) := (hdep ⟨6, .data⟩ (by simp) rfl)
            have d168 : ac.tmps.getD 168 undef = .int .i64 (yn : Nat) := (hdep ⟨10, .data⟩ (by simp) rfl)
            refine wpOp_of rfl rfl ?_
            go_simp
            refine (HC.out wz hT).mono ?_
            rintro e w2 ⟨rfl, hb⟩
            exact hK _ _ hb rfl
          · have d169 : ac.tmps.getD 169 undef = .int .i64 r := (hdep ⟨11, .data⟩ (by simp) rfl)
            refine wpOp_of rfl rfl ?_
            go_simp
            exact hK _ _ hB rfl
          · have d170 : ac.tmps.getD 170 undef = .bool B := (hdep ⟨12, .data⟩ (by simp) rfl)
            refine wpOp_of rfl rfl ?_
            go_simp
            exact hK _ _ hB rfl
        · intro ac wz ha hT hv
          have v158 : ac.tmps.getD 158 undef = .func (.func 54) #[] #[.pointer (some ⟨cb, 0, none⟩)] := (hv 0 (by decide))
          have v159 : ac.tmps.getD 159 undef = .slice (some ⟨g, 0, none⟩) n cap := (hv 1 (by decide))
          have v160 : ac.tmps.getD 160 undef = .int .i64 (P : Nat) := (hv 2 (by decide))
          have v161 : ac.tmps.getD 161 undef = .int .i64 (H : Nat) := (hv 3 (by decide))
          have v162 : ac.tmps.getD 162 undef = .int .i64 (G : Nat) := (hv 4 (by decide))
          have v163 : ac.tmps.getD 163 undef = .pointer (some ⟨g, G, none⟩) := (hv 5 (by decide))
          have v164 : ac.tmps.getD 164 undef = .int .i64 (xn : Nat) := (hv 6 (by decide))
          have v165 : ac.tmps.getD 165 undef = .slice (some ⟨g, 0, none⟩) n cap := (hv 7 (by decide))
          have v166 : ac.tmps.getD 166 undef = .int .i64 (H : Nat) := (hv 8 (by decide))
          have v167 : ac.tmps.getD 167 undef = .pointer (some ⟨g, H, none⟩) := (hv 9 (by decide))
          have v168 : ac.tmps.getD 168 undef = .int .i64 (yn : Nat) := (hv 10 (by decide))
          have v169 : ac.tmps.getD 169 undef = .int .i64 r := (hv 11 (by decide))
          have v170 : ac.tmps.getD 170 undef = .bool B := (hv 12 (by decide))
          have v171 : ac.tmps.getD 171 undef = .bool (!B) := (hv 13 (by decide))
          clear hv
          simp only [List.map_cons, List.map_nil, Act.puts] at ha
          generalize ac.tmps.getD 158 undef = y158 at ha v158
          generalize ac.tmps.getD 159 undef = y159 at ha v159
          generalize ac.tmps.getD 160 undef = y160 at ha v160
          generalize ac.tmps.getD 161 undef = y161 at ha v161
          generalize ac.tmps.getD 162 undef = y162 at ha v162
          generalize ac.tmps.getD 163 undef = y163 at ha v163
          generalize ac.tmps.getD 164 undef = y164 at ha v164
          generalize ac.tmps.getD 165 undef = y165 at ha v165
          generalize ac.tmps.getD 166 undef = y166 at ha v166
          generalize ac.tmps.getD 167 undef = y167 at ha v167
          generalize ac.tmps.getD 168 undef = y168 at ha v168
          generalize ac.tmps.getD 169 undef = y169 at ha v169
          generalize ac.tmps.getD 170 undef = y170 at ha v170
          generalize ac.tmps.getD 171 undef = y171 at ha v171
          simp only [Act.put, List.setIfInBounds_toArray, List.set_cons_zero, List.set_cons_succ] at ha
          subst ha
          subst v158 v159 v160 v161 v162 v163 v164 v165 v166 v167 v168 v169 v170 v171
          have HF : Hid (RowF wz g n f ∧ Exc (fun k => k = g) w wz) := hid ⟨HH.out.1.keep hT, HH.out.2.2.trans (Exc.of_below hT)⟩
          clear hT hB HC wg
          cases B
          · have HN : Hid (SymI (keyL L) f a m b mid (H + 1) j) := hid (HH.out.2.1.up HP.out HMID.out ham hmb hHi hHj (by
              have h5 := HRR.out
              rw [← h5.1] at h5
              have h6 : ¬ cmpI (keyL L xn) (keyL L yn) < 0 := by simpa using h5.2
              rw [cmpI_neg, ← HX.out, ← HY.out] at h6
              rw [HG.out]; exact h6))
            go_wp2_with fail
            exact ⟨⟨H + 1, j, by go_num, rfl, by omega, hjm, hid ⟨HF.out.1, HN.out, HF.out.2⟩⟩, by simp [intOf]; omega⟩
          · have HN : Hid (SymI (keyL L) f a m b mid i H) := hid (HH.out.2.1.down HP.out HMID.out ham hmb hHi hHj (by
              have h5 := HRR.out
              rw [← h5.1] at h5
              have h6 : cmpI (keyL L xn) (keyL L yn) < 0 := by simpa using h5.2
              rw [cmpI_neg, ← HX.out, ← HY.out] at h6
              rw [HG.out]; exact h6))
            go_wp2_with fail
            exact ⟨⟨i, H, rfl, rfl, hHi, by omega, hid ⟨HF.out.1, HN.out, HF.out.2⟩⟩, by simp [intOf]; omega⟩
      · have : i = j := by omega
        subst this
        have HCUT := hid (HH.out.2.1.fin HP.out HMID.out ham hmb)
        obtain ⟨E, hE0⟩ : ∃ x, mid + m - i = x := ⟨_, rfl⟩
        rw [hE0] at HCUT
        have wE : IntKind.i64.wrap ((N : Int) - (i : Int)) = (E : Int) := by have := HNN.out; rw [IntWalk.i64_in _ (by omega)]; omega
        have hc1 := HCUT.out.as
        have hc2 := HCUT.out.sm
        have hc3 := HCUT.out.me
        have hc4 := HCUT.out.eb
        have hc5 := HCUT.out.de
        have HSUM := hid HCUT.out.sum
        clear hE0
        by_cases ho : i < m ∧ m < E
        · have j0 : decide (i < m) = true := by simpa using ho.1
          have j1 : decide (m < E) = true := by simpa using ho.2
          have HC := hid (rotate_any g n cap i m E (.func (.func 54) #[] #[.pointer (some ⟨cb, 0, none⟩)]) f wr HH.out.1 ho.1 ho.2 (by omega) hn)
          clear ho
          go_wp2_with fail
          refine HC.out.mono ?_
          rintro e w7 ⟨rfl, g1, u1, u2, u3⟩
          have HG1 : Hid (RowF w7 g n g1 ∧ Rot i m E f g1 ∧ Exc (fun k => k = g) w w7) := hid ⟨u1, u2, HH.out.2.2.trans (u3.mono (fun _ _ h => h))⟩
          clear u1 u2 u3
          obtain ⟨p1, p2, p3⟩ := HCUT.out.split HP.out HG1.out.2.1
          have hI1 := Idx.sam HI.out ((HG1.out.2.1.sam hc2 hc3).wide hc1 hc4)
          have HPA := hid p1
          have HPB := hid p2
          have HPX := hid p3
          have HI1 := hid hI1
          clear p1 p2 p3 hI1
          by_cases hl : a < i ∧ i < mid
          · have j2 : decide (a < i) = true := by simpa using hl.1
            have j3 : decide (i < mid) = true := by simpa using hl.2
            have HC := hid (HIH.out a i mid g1 _ (by omega) (HE.out.exc HG1.out.2.2) HG1.out.1 (fun q h1 h2 => HI1.out q h1 (by omega)) HPA.out hl.1 hl.2 (by omega))
            clear hl
            go_wp2_with fail
            refine HC.out.mono ?_
            rintro e w8 ⟨rfl, g2, u1, u2, u3⟩
            have HG2 : Hid (RowF w8 g n g2 ∧ Mrg (keyL L) a mid g1 g2 ∧ Exc (fun k => k = g) w w8) := hid ⟨u1, u2, HG1.out.2.2.trans (u3.mono (fun _ _ h => h))⟩
            clear u1 u2 u3
            have HPC : Hid (Pre (keyL L) g2 mid E b) := hid (HPB.out.congr hc5 hc4 (fun q h1 h2 => HG2.out.2.1.sam.out q (by omega)))
            have hI2 : Idx L.length g2 mid b := fun q h1 h2 => by rw [HG2.out.2.1.sam.out q (by omega)]; exact HI1.out q (by omega) h2
            have HI2 := hid hI2
            clear hI2
            by_cases hr : mid < E ∧ E < b
            · have j4 : decide (mid < E) = true := by simpa using hr.1
              have j5 : decide (E < b) = true := by simpa using hr.2
              have HC := hid (HIH.out mid E b g2 _ (by omega) (HE.out.exc HG2.out.2.2) HG2.out.1 HI2.out HPC.out hr.1 hr.2 hbn)
              clear hr
              go_wp2_with fail
              refine HC.out.mono ?_
              rintro e w9 ⟨rfl, g3, u1, u2, u3⟩
              have HF : Hid (RowP w g n (Mrg (keyL L) a b f) (.returned (.tuple #[])) w9) := hid ⟨rfl, g3, u1, Mrg.join (by omega) (by omega) ((HG1.out.2.1.sam hc2 hc3).wide hc1 hc4) HPX.out HG2.out.2.1 u2, HG2.out.2.2.trans (u3.mono (fun _ _ h => h))⟩
              clear u1 u2 u3
              go_wp2_with fail
              refine bodyPost_end (results_none rfl _ _ _) rfl ?_
              exact HF.out
            · have HF : Hid (RowP w g n (Mrg (keyL L) a b f) (.returned (.tuple #[])) w8) := hid ⟨rfl, g2, HG2.out.1, Mrg.join (by omega) (by omega) ((HG1.out.2.1.sam hc2 hc3).wide hc1 hc4) HPX.out HG2.out.2.1 (Mrg.none (HPC.out.side (by omega))), HG2.out.2.2⟩
              rcases (by omega : ¬ mid < E ∨ (mid < E ∧ ¬ E < b)) with hq | ⟨hq, hq2⟩
              · have j4 : decide (mid < E) = false := by simp; omega
                clear hr
                go_wp2_with fail
                refine bodyPost_end (results_none rfl _ _ _) rfl ?_
                exact HF.out
              · have j4 : decide (mid < E) = true := by simpa using hq
                have j5 : decide (E < b) = false := by simp; omega
                clear hr
                go_wp2_with fail
                refine bodyPost_end (results_none rfl _ _ _) rfl ?_
                exact HF.out
          · obtain ⟨g2, hg2⟩ : ∃ x, g1 = x := ⟨_, rfl⟩
            have HG2 : Hid (RowF w7 g n g2 ∧ Mrg (keyL L) a mid g1 g2 ∧ Exc (fun k => k = g) w w7) := hid ⟨by rw [← hg2]; exact HG1.out.1, by rw [← hg2]; exact Mrg.none (HPA.out.side (by have := HCUT.out.sd; omega)), HG1.out.2.2⟩
            clear hg2
            rcases (by omega : ¬ a < i ∨ (a < i ∧ ¬ i < mid)) with hq | ⟨hq, hq2⟩
            · have j2 : decide (a < i) = false := by simp; omega
              clear hl
              have HPC : Hid (Pre (keyL L) g2 mid E b) := hid (HPB.out.congr hc5 hc4 (fun q h1 h2 => HG2.out.2.1.sam.out q (by omega)))
              have hI2 : Idx L.length g2 mid b := fun q h1 h2 => by rw [HG2.out.2.1.sam.out q (by omega)]; exact HI1.out q (by omega) h2
              have HI2 := hid hI2
              clear hI2
              by_cases hr : mid < E ∧ E < b
              · have j4 : decide (mid < E) = true := by simpa using hr.1
                have j5 : decide (E < b) = true := by simpa using hr.2
                have HC := hid (HIH.out mid E b g2 _ (by omega) (HE.out.exc HG2.out.2.2) HG2.out.1 HI2.out HPC.out hr.1 hr.2 hbn)
                clear hr
                go_wp2_with fail
                refine HC.out.mono ?_
                rintro e w9 ⟨rfl, g3, u1, u2, u3⟩
                have HF : Hid (RowP w g n (Mrg (keyL L) a b f) (.returned (.tuple #[])) w9) := hid ⟨rfl, g3, u1, Mrg.join (by omega) (by omega) ((HG1.out.2.1.sam hc2 hc3).wide hc1 hc4) HPX.out HG2.out.2.1 u2, HG2.out.2.2.trans (u3.mono (fun _ _ h => h))⟩
                clear u1 u2 u3
                go_wp2_with fail
                refine bodyPost_end (results_none rfl _ _ _) rfl ?_
                exact HF.out
              · have HF : Hid (RowP w g n (Mrg (keyL L) a b f) (.returned (.tuple #[])) w7) := hid ⟨rfl, g2, HG2.out.1, Mrg.join (by omega) (by omega) ((HG1.out.2.1.sam hc2 hc3).wide hc1 hc4) HPX.out HG2.out.2.1 (Mrg.none (HPC.out.side (by omega))), HG2.out.2.2⟩
                rcases (by omega : ¬ mid < E ∨ (mid < E ∧ ¬ E < b)) with hq | ⟨hq, hq2⟩
                · have j4 : decide (mid < E) = false := by simp; omega
                  clear hr
                  go_wp2_with fail
                  refine bodyPost_end (results_none rfl _ _ _) rfl ?_
                  exact HF.out
                · have j4 : decide (mid < E) = true := by simpa using hq
                  have j5 : decide (E < b) = false := by simp; omega
                  clear hr
                  go_wp2_with fail
                  refine bodyPost_end (results_none rfl _ _ _) rfl ?_
                  exact HF.out
            · have j2 : decide (a < i) = true := by simpa using hq
              have j3 : decide (i < mid) = false := by simp; omega
              clear hl
              have HPC : Hid (Pre (keyL L) g2 mid E b) := hid (HPB.out.congr hc5 hc4 (fun q h1 h2 => HG2.out.2.1.sam.out q (by omega)))
              have hI2 : Idx L.length g2 mid b := fun q h1 h2 => by rw [HG2.out.2.1.sam.out q (by omega)]; exact HI1.out q (by omega) h2
              have HI2 := hid hI2
              clear hI2
              by_cases hr : mid < E ∧ E < b
              · have j4 : decide (mid < E) = true := by simpa using hr.1
                have j5 : decide (E < b) = true := by simpa using hr.2
                have HC := hid (HIH.out mid E b g2 _ (by omega) (HE.out.exc HG2.out.2.2) HG2.out.1 HI2.out HPC.out hr.1 hr.2 hbn)
                clear hr
                go_wp2_with fail
                refine HC.out.mono ?_
                rintro e w9 ⟨rfl, g3, u1, u2, u3⟩
                have HF : Hid (RowP w g n (Mrg (keyL L) a b f) (.returned (.tuple #[])) w9) := hid ⟨rfl, g3, u1, Mrg.join (by omega) (by omega) ((HG1.out.2.1.sam hc2 hc3).wide hc1 hc4) HPX.out HG2.out.2.1 u2, HG2.out.2.2.trans (u3.mono (fun _ _ h => h))⟩
                clear u1 u2 u3
                go_wp2_with fail
                refine bodyPost_end (results_none rfl _ _ _) rfl ?_
                exact HF.out
              · have HF : Hid (RowP w g n (Mrg (keyL L) a b f) (.returned (.tuple #[])) w7) := hid ⟨rfl, g2, HG2.out.1, Mrg.join (by omega) (by omega) ((HG1.out.2.1.sam hc2 hc3).wide hc1 hc4) HPX.out HG2.out.2.1 (Mrg.none (HPC.out.side (by omega))), HG2.out.2.2⟩
                rcases (by omega : ¬ mid < E ∨ (mid < E ∧ ¬ E < b)) with hq | ⟨hq, hq2⟩
                · have j4 : decide (mid < E) = false := by simp; omega
                  clear hr
                  go_wp2_with fail
                  refine bodyPost_end (results_none rfl _ _ _) rfl ?_
                  exact HF.out
                · have j4 : decide (mid < E) = true := by simpa using hq
                  have j5 : decide (E < b) = false := by simp; omega
                  clear hr
                  go_wp2_with fail
                  refine bodyPost_end (results_none rfl _ _ _) rfl ?_
                  exact HF.out
        · obtain ⟨g1, hg1⟩ : ∃ x, f = x := ⟨_, rfl⟩
          have HG1 : Hid (RowF wr g n g1 ∧ Rot i m E f g1 ∧ Exc (fun k => k = g) w wr) := hid ⟨by rw [← hg1]; exact HH.out.1, by rw [← hg1]; exact Rot.same f (by omega), HH.out.2.2⟩
          clear hg1
          obtain ⟨p1, p2, p3⟩ := HCUT.out.split HP.out HG1.out.2.1
          have hI1 := Idx.sam HI.out ((HG1.out.2.1.sam hc2 hc3).wide hc1 hc4)
          have HPA := hid p1
          have HPB := hid p2
          have HPX := hid p3
          have HI1 := hid hI1
          clear p1 p2 p3 hI1
          rcases (by omega : ¬ i < m ∨ (i < m ∧ ¬ m < E)) with hq0 | ⟨hq0, hq1⟩
          · have j0 : decide (i < m) = false := by simp; omega
            clear ho
            by_cases hl : a < i ∧ i < mid
            · have j2 : decide (a < i) = true := by simpa using hl.1
              have j3 : decide (i < mid) = true := by simpa using hl.2
              have HC := hid (HIH.out a i mid g1 _ (by omega) (HE.out.exc HG1.out.2.2) HG1.out.1 (fun q h1 h2 => HI1.out q h1 (by omega)) HPA.out hl.1 hl.2 (by omega))
              clear hl
              go_wp2_with fail
              refine HC.out.mono ?_
              rintro e w8 ⟨rfl, g2, u1, u2, u3⟩
              have HG2 : Hid (RowF w8 g n g2 ∧ Mrg (keyL L) a mid g1 g2 ∧ Exc (fun k => k = g) w w8) := hid ⟨u1, u2, HG1.out.2.2.trans (u3.mono (fun _ _ h => h))⟩
              clear u1 u2 u3
              have HPC : Hid (Pre (keyL L) g2 mid E b) := hid (HPB.out.congr hc5 hc4 (fun q h1 h2 => HG2.out.2.1.sam.out q (by omega)))
              have hI2 : Idx L.length g2 mid b := fun q h1 h2 => by rw [HG2.out.2.1.sam.out q (by omega)]; exact HI1.out q (by omega) h2
              have HI2 := hid hI2
              clear hI2
              by_cases hr : mid < E ∧ E < b
              · have j4 : decide (mid < E) = true := by simpa using hr.1
                have j5 : decide (E < b) = true := by simpa using hr.2
                have HC := hid (HIH.out mid E b g2 _ (by omega) (HE.out.exc HG2.out.2.2) HG2.out.1 HI2.out HPC.out hr.1 hr.2 hbn)
                clear hr
                go_wp2_with fail
                refine HC.out.mono ?_
                rintro e w9 ⟨rfl, g3, u1, u2, u3⟩
                have HF : Hid (RowP w g n (Mrg (keyL L) a b f) (.returned (.tuple #[])) w9) := hid ⟨rfl, g3, u1, Mrg.join (by omega) (by omega) ((HG1.out.2.1.sam hc2 hc3).wide hc1 hc4) HPX.out HG2.out.2.1 u2, HG2.out.2.2.trans (u3.mono (fun _ _ h => h))⟩
                clear u1 u2 u3
                go_wp2_with fail
                refine bodyPost_end (results_none rfl _ _ _) rfl ?_
                exact HF.out
              · have HF : Hid (RowP w g n (Mrg (keyL L) a b f) (.returned (.tuple #[])) w8) := hid ⟨rfl, g2, HG2.out.1, Mrg.join (by omega) (by omega) ((HG1.out.2.1.sam hc2 hc3).wide hc1 hc4) HPX.out HG2.out.2.1 (Mrg.none (HPC.out.side (by omega))), HG2.out.2.2⟩
                rcases (by omega : ¬ mid < E ∨ (mid < E ∧ ¬ E < b)) with hq | ⟨hq, hq2⟩
                · have j4 : decide (mid < E) = false := by simp; omega
                  clear hr
                  go_wp2_with fail
                  refine bodyPost_end (results_none rfl _ _ _) rfl ?_
                  exact HF.out
                · have j4 : decide (mid < E) = true := by simpa using hq
                  have j5 : decide (E < b) = false := by simp; omega
                  clear hr
                  go_wp2_with fail
                  refine bodyPost_end (results_none rfl _ _ _) rfl ?_
                  exact HF.out
            · obtain ⟨g2, hg2⟩ : ∃ x, g1 = x := ⟨_, rfl⟩
              have HG2 : Hid (RowF wr g n g2 ∧ Mrg (keyL L) a mid g1 g2 ∧ Exc (fun k => k = g) w wr) := hid ⟨by rw [← hg2]; exact HG1.out.1, by rw [← hg2]; exact Mrg.none (HPA.out.side (by have := HCUT.out.sd; omega)), HG1.out.2.2⟩
              clear hg2
              rcases (by omega : ¬ a < i ∨ (a < i ∧ ¬ i < mid)) with hq | ⟨hq, hq2⟩
              · have j2 : decide (a < i) = false := by simp; omega
                clear hl
                have HPC : Hid (Pre (keyL L) g2 mid E b) := hid (HPB.out.congr hc5 hc4 (fun q h1 h2 => HG2.out.2.1.sam.out q (by omega)))
                have hI2 : Idx L.length g2 mid b := fun q h1 h2 => by rw [HG2.out.2.1.sam.out q (by omega)]; exact HI1.out q (by omega) h2
                have HI2 := hid hI2
                clear hI2
                by_cases hr : mid < E ∧ E < b
                · have j4 : decide (mid < E) = true := by simpa using hr.1
                  have j5 : decide (E < b) = true := by simpa using hr.2
                  have HC := hid (HIH.out mid E b g2 _ (by omega) (HE.out.exc HG2.out.2.2) HG2.out.1 HI2.out HPC.out hr.1 hr.2 hbn)
                  clear hr
                  go_wp2_with fail
                  refine HC.out.mono ?_
                  rintro e w9 ⟨rfl, g3, u1, u2, u3⟩
                  have HF : Hid (RowP w g n (Mrg (keyL L) a b f) (.returned (.tuple #[])) w9) := hid ⟨rfl, g3, u1, Mrg.join (by omega) (by omega) ((HG1.out.2.1.sam hc2 hc3).wide hc1 hc4) HPX.out HG2.out.2.1 u2, HG2.out.2.2.trans (u3.mono (fun _ _ h => h))⟩
                  clear u1 u2 u3
                  go_wp2_with fail
                  refine bodyPost_end (results_none rfl _ _ _) rfl ?_
                  exact HF.out
                · have HF : Hid (RowP w g n (Mrg (keyL L) a b f) (.returned (.tuple #[])) wr) := hid ⟨rfl, g2, HG2.out.1, Mrg.join (by omega) (by omega) ((HG1.out.2.1.sam hc2 hc3).wide hc1 hc4) HPX.out HG2.out.2.1 (Mrg.none (HPC.out.side (by omega))), HG2.out.2.2⟩
                  rcases (by omega : ¬ mid < E ∨ (mid < E ∧ ¬ E < b)) with hq | ⟨hq, hq2⟩
                  · have j4 : decide (mid < E) = false := by simp; omega
                    clear hr
                    go_wp2_with fail
                    refine bodyPost_end (results_none rfl _ _ _) rfl ?_
                    exact HF.out
                  · have j4 : decide (mid < E) = true := by simpa using hq
                    have j5 : decide (E < b) = false := by simp; omega
                    clear hr
                    go_wp2_with fail
                    refine bodyPost_end (results_none rfl _ _ _) rfl ?_
                    exact HF.out
              · have j2 : decide (a < i) = true := by simpa using hq
                have j3 : decide (i < mid) = false := by simp; omega
                clear hl
                have HPC : Hid (Pre (keyL L) g2 mid E b) := hid (HPB.out.congr hc5 hc4 (fun q h1 h2 => HG2.out.2.1.sam.out q (by omega)))
                have hI2 : Idx L.length g2 mid b := fun q h1 h2 => by rw [HG2.out.2.1.sam.out q (by omega)]; exact HI1.out q (by omega) h2
                have HI2 := hid hI2
                clear hI2
                by_cases hr : mid < E ∧ E < b
                · have j4 : decide (mid < E) = true := by simpa using hr.1
                  have j5 : decide (E < b) = true := by simpa using hr.2
                  have HC := hid (HIH.out mid E b g2 _ (by omega) (HE.out.exc HG2.out.2.2) HG2.out.1 HI2.out HPC.out hr.1 hr.2 hbn)
                  clear hr
                  go_wp2_with fail
                  refine HC.out.mono ?_
                  rintro e w9 ⟨rfl, g3, u1, u2, u3⟩
                  have HF : Hid (RowP w g n (Mrg (keyL L) a b f) (.returned (.tuple #[])) w9) := hid ⟨rfl, g3, u1, Mrg.join (by omega) (by omega) ((HG1.out.2.1.sam hc2 hc3).wide hc1 hc4) HPX.out HG2.out.2.1 u2, HG2.out.2.2.trans (u3.mono (fun _ _ h => h))⟩
                  clear u1 u2 u3
                  go_wp2_with fail
                  refine bodyPost_end (results_none rfl _ _ _) rfl ?_
                  exact HF.out
                · have HF : Hid (RowP w g n (Mrg (keyL L) a b f) (.returned (.tuple #[])) wr) := hid ⟨rfl, g2, HG2.out.1, Mrg.join (by omega) (by omega) ((HG1.out.2.1.sam hc2 hc3).wide hc1 hc4) HPX.out HG2.out.2.1 (Mrg.none (HPC.out.side (by omega))), HG2.out.2.2⟩
                  rcases (by omega : ¬ mid < E ∨ (mid < E ∧ ¬ E < b)) with hq | ⟨hq, hq2⟩
                  · have j4 : decide (mid < E) = false := by simp; omega
                    clear hr
                    go_wp2_with fail
                    refine bodyPost_end (results_none rfl _ _ _) rfl ?_
                    exact HF.out
                  · have j4 : decide (mid < E) = true := by simpa using hq
                    have j5 : decide (E < b) = false := by simp; omega
                    clear hr
                    go_wp2_with fail
                    refine bodyPost_end (results_none rfl _ _ _) rfl ?_
                    exact HF.out
          · have j0 : decide (i < m) = true := by simpa using hq0
            have j1 : decide (m < E) = false := by simp; omega
            clear ho
            by_cases hl : a < i ∧ i < mid
            · have j2 : decide (a < i) = true := by simpa using hl.1
              have j3 : decide (i < mid) = true := by simpa using hl.2
              have HC := hid (HIH.out a i mid g1 _ (by omega) (HE.out.exc HG1.out.2.2) HG1.out.1 (fun q h1 h2 => HI1.out q h1 (by omega)) HPA.out hl.1 hl.2 (by omega))
              clear hl
              go_wp2_with fail
              refine HC.out.mono ?_
              rintro e w8 ⟨rfl, g2, u1, u2, u3⟩
              have HG2 : Hid (RowF w8 g n g2 ∧ Mrg (keyL L) a mid g1 g2 ∧ Exc (fun k => k = g) w w8) := hid ⟨u1, u2, HG1.out.2.2.trans (u3.mono (fun _ _ h => h))⟩
              clear u1 u2 u3
              have HPC : Hid (Pre (keyL L) g2 mid E b) := hid (HPB.out.congr hc5 hc4 (fun q h1 h2 => HG2.out.2.1.sam.out q (by omega)))
              have hI2 : Idx L.length g2 mid b := fun q h1 h2 => by rw [HG2.out.2.1.sam.out q (by omega)]; exact HI1.out q (by omega) h2
              have HI2 := hid hI2
              clear hI2
              by_cases hr : mid < E ∧ E < b
              · have j4 : decide (mid < E) = true := by simpa using hr.1
                have j5 : decide (E < b) = true := by simpa using hr.2
                have HC := hid (HIH.out mid E b g2 _ (by omega) (HE.out.exc HG2.out.2.2) HG2.out.1 HI2.out HPC.out hr.1 hr.2 hbn)
                clear hr
                go_wp2_with fail
                refine HC.out.mono ?_
                rintro e w9 ⟨rfl, g3, u1, u2, u3⟩
                have HF : Hid (RowP w g n (Mrg (keyL L) a b f) (.returned (.tuple #[])) w9) := hid ⟨rfl, g3, u1, Mrg.join (by omega) (by omega) ((HG1.out.2.1.sam hc2 hc3).wide hc1 hc4) HPX.out HG2.out.2.1 u2, HG2.out.2.2.trans (u3.mono (fun _ _ h => h))⟩
                clear u1 u2 u3
                go_wp2_with fail
                refine bodyPost_end (results_none rfl _ _ _) rfl ?_
                exact HF.out
              · have HF : Hid (RowP w g n (Mrg (keyL L) a b f) (.returned (.tuple #[])) w8) := hid ⟨rfl, g2, HG2.out.1, Mrg.join (by omega) (by omega) ((HG1.out.2.1.sam hc2 hc3).wide hc1 hc4) HPX.out HG2.out.2.1 (Mrg.none (HPC.out.side (by omega))), HG2.out.2.2⟩
                rcases (by omega : ¬ mid < E ∨ (mid < E ∧ ¬ E < b)) with hq | ⟨hq, hq2⟩
                · have j4 : decide (mid < E) = false := by simp; omega
                  clear hr
                  go_wp2_with fail
                  refine bodyPost_end (results_none rfl _ _ _) rfl ?_
                  exact HF.out
                · have j4 : decide (mid < E) = true := by simpa using hq
                  have j5 : decide (E < b) = false := by simp; omega
                  clear hr
                  go_wp2_with fail
                  refine bodyPost_end (results_none rfl _ _ _) rfl ?_
                  exact HF.out
            · obtain ⟨g2, hg2⟩ : ∃ x, g1 = x := ⟨_, rfl⟩
              have HG2 : Hid (RowF wr g n g2 ∧ Mrg (keyL L) a mid g1 g2 ∧ Exc (fun k => k = g) w wr) := hid ⟨by rw [← hg2]; exact HG1.out.1, by rw [← hg2]; exact Mrg.none (HPA.out.side (by have := HCUT.out.sd; omega)), HG1.out.2.2⟩
              clear hg2
              rcases (by omega : ¬ a < i ∨ (a < i ∧ ¬ i < mid)) with hq | ⟨hq, hq2⟩
              · have j2 : decide (a < i) = false := by simp; omega
                clear hl
                have HPC : Hid (Pre (keyL L) g2 mid E b) := hid (HPB.out.congr hc5 hc4 (fun q h1 h2 => HG2.out.2.1.sam.out q (by omega)))
                have hI2 : Idx L.length g2 mid b := fun q h1 h2 => by rw [HG2.out.2.1.sam.out q (by omega)]; exact HI1.out q (by omega) h2
                have HI2 := hid hI2
                clear hI2
                by_cases hr : mid < E ∧ E < b
                · have j4 : decide (mid < E) = true := by simpa using hr.1
                  have j5 : decide (E < b) = true := by simpa using hr.2
                  have HC := hid (HIH.out mid E b g2 _ (by omega) (HE.out.exc HG2.out.2.2) HG2.out.1 HI2.out HPC.out hr.1 hr.2 hbn)
                  clear hr
                  go_wp2_with fail
                  refine HC.out.mono ?_
                  rintro e w9 ⟨rfl, g3, u1, u2, u3⟩
                  have HF : Hid (RowP w g n (Mrg (keyL L) a b f) (.returned (.tuple #[])) w9) := hid ⟨rfl, g3, u1, Mrg.join (by omega) (by omega) ((HG1.out.2.1.sam hc2 hc3).wide hc1 hc4) HPX.out HG2.out.2.1 u2, HG2.out.2.2.trans (u3.mono (fun _ _ h => h))⟩
                  clear u1 u2 u3
                  go_wp2_with fail
                  refine bodyPost_end (results_none rfl _ _ _) rfl ?_
                  exact HF.out
                · have HF : Hid (RowP w g n (Mrg (keyL L) a b f) (.returned (.tuple #[])) wr) := hid ⟨rfl, g2, HG2.out.1, Mrg.join (by omega) (by omega) ((HG1.out.2.1.sam hc2 hc3).wide hc1 hc4) HPX.out HG2.out.2.1 (Mrg.none (HPC.out.side (by omega))), HG2.out.2.2⟩
                  rcases (by omega : ¬ mid < E ∨ (mid < E ∧ ¬ E < b)) with hq | ⟨hq, hq2⟩
                  · have j4 : decide (mid < E) = false := by simp; omega
                    clear hr
                    go_wp2_with fail
                    refine bodyPost_end (results_none rfl _ _ _) rfl ?_
                    exact HF.out
                  · have j4 : decide (mid < E) = true := by simpa using hq
                    have j5 : decide (E < b) = false := by simp; omega
                    clear hr
                    go_wp2_with fail
                    refine bodyPost_end (results_none rfl _ _ _) rfl ?_
                    exact HF.out
              · have j2 : decide (a < i) = true := by simpa using hq
                have j3 : decide (i < mid) = false := by simp; omega
                clear hl
                have HPC : Hid (Pre (keyL L) g2 mid E b) := hid (HPB.out.congr hc5 hc4 (fun q h1 h2 => HG2.out.2.1.sam.out q (by omega)))
                have hI2 : Idx L.length g2 mid b := fun q h1 h2 => by rw [HG2.out.2.1.sam.out q (by omega)]; exact HI1.out q (by omega) h2
                have HI2 := hid hI2
                clear hI2
                by_cases hr : mid < E ∧ E < b
                · have j4 : decide (mid < E) = true := by simpa using hr.1
                  have j5 : decide (E < b) = true := by simpa using hr.2
                  have HC := hid (HIH.out mid E b g2 _ (by omega) (HE.out.exc HG2.out.2.2) HG2.out.1 HI2.out HPC.out hr.1 hr.2 hbn)
                  clear hr
                  go_wp2_with fail
                  refine HC.out.mono ?_
                  rintro e w9 ⟨rfl, g3, u1, u2, u3⟩
                  have HF : Hid (RowP w g n (Mrg (keyL L) a b f) (.returned (.tuple #[])) w9) := hid ⟨rfl, g3, u1, Mrg.join (by omega) (by omega) ((HG1.out.2.1.sam hc2 hc3).wide hc1 hc4) HPX.out HG2.out.2.1 u2, HG2.out.2.2.trans (u3.mono (fun _ _ h => h))⟩
                  clear u1 u2 u3
                  go_wp2_with fail
                  refine bodyPost_end (results_none rfl _ _ _) rfl ?_
                  exact HF.out
                · have HF : Hid (RowP w g n (Mrg (keyL L) a b f) (.returned (.tuple #[])) wr) := hid ⟨rfl, g2, HG2.out.1, Mrg.join (by omega) (by omega) ((HG1.out.2.1.sam hc2 hc3).wide hc1 hc4) HPX.out HG2.out.2.1 (Mrg.none (HPC.out.side (by omega))), HG2.out.2.2⟩
                  rcases (by omega : ¬ mid < E ∨ (mid < E ∧ ¬ E < b)) with hq | ⟨hq, hq2⟩
                  · have j4 : decide (mid < E) = false := by simp; omega
                    clear hr
                    go_wp2_with fail
                    refine bodyPost_end (results_none rfl _ _ _) rfl ?_
                    exact HF.out
                  · have j4 : decide (mid < E) = true := by simpa using hq
                    have j5 : decide (E < b) = false := by simp; omega
                    clear hr
                    go_wp2_with fail
                    refine bodyPost_end (results_none rfl _ _ _) rfl ?_
                    exact HF.out
  · have HST : Hid (SymI (keyL L) f a m b mid a m) := hid (SymI.start2 hm ham)
    clear hmid hN hP h1 h2
    go_enter Try.func81, Try.ntmps81
    go_wp2_with fail
    clear w0 w1 w2 w3 w4 k0 k1
    go_loopw [20, 21] (fun s20 s21 wr => ∃ i j : Nat, s20 = .int .i64 i ∧ s21 = .int .i64 j ∧ i ≤ j ∧ j ≤ mid ∧ Hid (RowF wr g n f ∧ SymI (keyL L) f a m b mid i j ∧ Exc (fun k => k = g) w wr)) (fun s20 s21 _ => (intOf s21).toNat - (intOf s20).toNat)
    case atStart => exact ⟨a, m, rfl, rfl, (HST.out.bd HMID.out ham hmb).2.1, (HST.out.bd HMID.out ham hmb).2.2.2, hid ⟨HR.out, HST.out, Exc.refl _ _⟩⟩
    case round =>
      obtain ⟨i, j, rfl, rfl, hij, hjm, HH⟩ := hrel
      clear HST
      by_cases hlt : i < j
      · obtain ⟨H, hH⟩ : ∃ H, (i + j) / 2 = H := ⟨_, rfl⟩
        have hHi : i ≤ H := by omega
        have hHj : H < j := by omega
        have wh : ((i : Int) + (j : Int)) / 2 = (H : Int) := by omega
        clear hH
        obtain ⟨q1, q2, q3, q4⟩ := HH.out.2.1.at_ HMID.out ham hmb hHi hHj
        obtain ⟨G, hG⟩ : ∃ x, mid + m - 1 - H = x := ⟨_, rfl⟩
        rw [hG] at q3 q4
        have HG := hid hG
        have wg : IntKind.i64.wrap ((P : Int) - (H : Int)) = (G : Int) := by have := HPP.out; rw [IntWalk.i64_in _ (by omega)]; omega
        clear hG
        obtain ⟨xn, hx, hxl⟩ := HI.out.nat (i := G) (by omega) (by omega)
        obtain ⟨yn, hy, hyl⟩ := HI.out.nat (i := H) (by omega) (by omega)
        obtain ⟨r, hr⟩ : ∃ r, cmpI (keyL L xn) (keyL L yn) = r := ⟨_, rfl⟩
        obtain ⟨B, hB⟩ : ∃ B, decide (r < 0) = B := ⟨_, rfl⟩
        have HC := hid (fun (W : World) (hb : Below wr.heap.size wr W) => clo_any L A c cb g xn yn W ((HE.out.exc HH.out.2.2).below hb) hxl hyl)
        rw [hr] at HC
        have HX := hid hx
        have HY := hid hy
        have HRR := hid (And.intro hr hB)
        clear hx hy hr
        have b0 : (0 : Int) ≤ (H : Int) := by omega
        have b1 : (H : Int) < (n : Int) := by omega
        have b2 : (0 : Int) ≤ (G : Int) := by omega
        have b3 : (G : Int) < (n : Int) := by omega
        go_upto_region 35 with fail
        clear wh
        refine region_makes [158, 159, 160, 161, 162, 163, 164, 165, 166, 167, 168, 169, 170, 171] (fun jx vx _ => vx = ([.func (.func 54) #[] #[.pointer (some ⟨cb, 0, none⟩)], .slice (some ⟨g, 0, none⟩) n cap, .int .i64 (P : Nat), .int .i64 (H : Nat), .int .i64 (G : Nat), .pointer (some ⟨g, G, none⟩), .int .i64 (xn : Nat), .slice (some ⟨g, 0, none⟩) n cap, .int .i64 (H : Nat), .pointer (some ⟨g, H, none⟩), .int .i64 (yn : Nat), .int .i64 r, .bool B, .bool (!B)] : List Value).getD jx undef) (fun _ => false) rfl (by kernel_rfl) rfl (by decide) (by simp) (fun _ _ _ _ h _ => h) (fun _ _ _ _ h _ => by cases h) ?_ ?_
        · intro io oo ac wz hj hbase hT hdep hx1 hx2 K hK'
          have hK : ∀ v w2, Below wz.heap.size wz w2 → ( v = ([.func (.func 54) #[] #[.pointer (some ⟨cb, 0, none⟩)], .slice (some ⟨g, 0, none⟩) n cap, .int .i64 (P : Nat), .int .i64 (H : Nat), .int .i64 (G : Nat), .pointer (some ⟨g, G, none⟩), .int .i64 (xn : Nat), .slice (some ⟨g, 0, none⟩) n cap, .int .i64 (H : Nat), .pointer (some ⟨g, H, none⟩), .int .i64 (yn : Nat), .int .i64 r, .bool B, .bool (!B)] : List Value).getD io undef) → K (ac.put (some (([158, 159, 160, 161, 162, 163, 164, 165, 166, 167, 168, 169, 170, 171] : List Nat).getD io 0)) v) w2 := fun v w2 h1 h2 => hK' v w2 h1 h2 (fun h => by cases h)
          clear hK' hx1 hx2
          have hB := Below.refl wz.heap.size wz
          have e0 : ac.tmps.getD 0 undef = .slice (some ⟨g, 0, none⟩) n cap := hbase 0 (by decide)
          have e4 : ac.tmps.getD 4 undef = .func (.func 54) #[] #[.pointer (some ⟨cb, 0, none⟩)] := hbase 4 (by decide)
          have e22 : ac.tmps.getD 22 undef = .int .i64 (P : Nat) := hbase 22 (by decide)
          have e23 : ac.tmps.getD 23 undef = .int .i64 (H : Nat) := hbase 23 (by decide)
          have l0 := (HH.out.1.keep hT).at (i := G) (by omega)
          rw [HX.out] at l0
          have l1 := (HH.out.1.keep hT).at (i := H) (by omega)
          rw [HY.out] at l1
          have hio : io < 14 := (Array.getElem?_eq_some_iff.1 hj).1
          obtain rfl | rfl | rfl | rfl | rfl | rfl | rfl | rfl | rfl | rfl | rfl | rfl | rfl | rfl : io = 0 ∨ io = 1 ∨ io = 2 ∨ io = 3 ∨ io = 4 ∨ io = 5 ∨ io = 6 ∨ io = 7 ∨ io = 8 ∨ io = 9 ∨ io = 10 ∨ io = 11 ∨ io = 12 ∨ io = 13 := by omega
          all_goals (injection hj with hj; subst hj; clear hio)
          · refine wpOp_of rfl rfl ?_
            go_simp
            exact hK _ _ hB rfl
          · refine wpOp_of rfl rfl ?_
            go_simp
            exact hK _ _ hB rfl
          · refine wpOp_of rfl rfl ?_
            go_simp
            exact hK _ _ hB rfl
          · refine wpOp_of rfl rfl ?_
            go_simp
            exact hK _ _ hB rfl
          · have d160 : ac.tmps.getD 160 undef = .int .i64 (P : Nat) := (hdep ⟨2, .data⟩ (by simp) rfl)
            have d161 : ac.tmps.getD 161 undef = .int .i64 (H : Nat) := (hdep ⟨3, .data⟩ (by simp) rfl)
            refine wpOp_of rfl rfl ?_
            go_simp
            exact hK _ _ hB rfl
          · have d159 : ac.tmps.getD 159 undef = .slice (some ⟨g, 0, none⟩) n cap := (hdep ⟨1, .data⟩ (by simp) rfl)
            have d162 : ac.tmps.getD 162 undef = .int .i64 (G : Nat) := (hdep ⟨4, .data⟩ (by simp) rfl)
            refine wpOp_of rfl rfl ?_
            go_simp
            exact hK _ _ hB rfl
          · have d163 : ac.tmps.getD 163 undef = .pointer (some ⟨g, G, none⟩) := (hdep ⟨5, .data⟩ (by simp) rfl)
            refine wpOp_of rfl rfl ?_
            go_simp
            exact hK _ _ hB rfl
          · refine wpOp_of rfl rfl ?_
            go_simp
            exact hK _ _ hB rfl
          · refine wpOp_of rfl rfl ?_
            go_simp
            exact hK _ _ hB rfl
          · have d165 : ac.tmps.getD 165 undef = .slice (some ⟨g, 0, none⟩) n cap := (hdep ⟨7, .data⟩ (by simp) rfl)
            have d166 : ac.tmps.getD 166 undef = .int .i64 (H : Nat) := (hdep ⟨8, .data⟩ (by simp) rfl)
            refine wpOp_of rfl rfl ?_
            go_simp
            exact hK _ _ hB rfl
          · have d167 : ac.tmps.getD 167 undef = .pointer (some ⟨g, H, none⟩) := (hdep ⟨9, .data⟩ (by simp) rfl)
            refine wpOp_of rfl rfl ?_
            go_simp
            exact hK _ _ hB rfl
          · have d158 : ac.tmps.getD 158 undef = .func (.func 54) #[] #[.pointer (some ⟨cb, 0, none⟩)] := (hdep ⟨0, .data⟩ (by simp) rfl)
            have d164 : ac.tmps.getD 164 undef = .int .i64 (xn : Nat) := (hdep ⟨6, .data⟩ (by simp) rfl)
            have d168 : ac.tmps.getD 168 undef = .int .i64 (yn : Nat) := (hdep ⟨10, .data⟩ (by simp) rfl)
            refine wpOp_of rfl rfl ?_
            go_simp
            refine (HC.out wz hT).mono ?_
            rintro e w2 ⟨rfl, hb⟩
            exact hK _ _ hb rfl
          · have d169 : ac.tmps.getD 169 undef = .int .i64 r := (hdep ⟨11, .data⟩ (by simp) rfl)
            refine wpOp_of rfl rfl ?_
            go_simp
            exact hK _ _ hB rfl
          · have d170 : ac.tmps.getD 170 undef = .bool B := (hdep ⟨12, .data⟩ (by simp) rfl)
            refine wpOp_of rfl rfl ?_
            go_simp
            exact hK _ _ hB rfl
        · intro ac wz ha hT hv
          have v158 : ac.tmps.getD 158 undef = .func (.func 54) #[] #[.pointer (some ⟨cb, 0, none⟩)] := (hv 0 (by decide))
          have v159 : ac.tmps.getD 159 undef = .slice (some ⟨g, 0, none⟩) n cap := (hv 1 (by decide))
          have v160 : ac.tmps.getD 160 undef = .int .i64 (P : Nat) := (hv 2 (by decide))
          have v161 : ac.tmps.getD 161 undef = .int .i64 (H : Nat) := (hv 3 (by decide))
          have v162 : ac.tmps.getD 162 undef = .int .i64 (G : Nat) := (hv 4 (by decide))
          have v163 : ac.tmps.getD 163 undef = .pointer (some ⟨g, G, none⟩) := (hv 5 (by decide))
          have v164 : ac.tmps.getD 164 undef = .int .i64 (xn : Nat) := (hv 6 (by decide))
          have v165 : ac.tmps.getD 165 undef = .slice (some ⟨g, 0, none⟩) n cap := (hv 7 (by decide))
          have v166 : ac.tmps.getD 166 undef = .int .i64 (H : Nat) := (hv 8 (by decide))
          have v167 : ac.tmps.getD 167 undef = .pointer (some ⟨g, H, none⟩) := (hv 9 (by decide))
          have v168 : ac.tmps.getD 168 undef = .int .i64 (yn : Nat) := (hv 10 (by decide))
          have v169 : ac.tmps.getD 169 undef = .int .i64 r := (hv 11 (by decide))
          have v170 : ac.tmps.getD 170 undef = .bool B := (hv 12 (by decide))
          have v171 : ac.tmps.getD 171 undef = .bool (!B) := (hv 13 (by decide))
          clear hv
          simp only [List.map_cons, List.map_nil, Act.puts] at ha
          generalize ac.tmps.getD 158 undef = y158 at ha v158
          generalize ac.tmps.getD 159 undef = y159 at ha v159
          generalize ac.tmps.getD 160 undef = y160 at ha v160
          generalize ac.tmps.getD 161 undef = y161 at ha v161
          generalize ac.tmps.getD 162 undef = y162 at ha v162
          generalize ac.tmps.getD 163 undef = y163 at ha v163
          generalize ac.tmps.getD 164 undef = y164 at ha v164
          generalize ac.tmps.getD 165 undef = y165 at ha v165
          generalize ac.tmps.getD 166 undef = y166 at ha v166
          generalize ac.tmps.getD 167 undef = y167 at ha v167
          generalize ac.tmps.getD 168 undef = y168 at ha v168
          generalize ac.tmps.getD 169 undef = y169 at ha v169
          generalize ac.tmps.getD 170 undef = y170 at ha v170
          generalize ac.tmps.getD 171 undef = y171 at ha v171
          simp only [Act.put, List.setIfInBounds_toArray, List.set_cons_zero, List.set_cons_succ] at ha
          subst ha
          subst v158 v159 v160 v161 v162 v163 v164 v165 v166 v167 v168 v169 v170 v171
          have HF : Hid (RowF wz g n f ∧ Exc (fun k => k = g) w wz) := hid ⟨HH.out.1.keep hT, HH.out.2.2.trans (Exc.of_below hT)⟩
          clear hT hB HC wg
          cases B
          · have HN : Hid (SymI (keyL L) f a m b mid (H + 1) j) := hid (HH.out.2.1.up HP.out HMID.out ham hmb hHi hHj (by
              have h5 := HRR.out
              rw [← h5.1] at h5
              have h6 : ¬ cmpI (keyL L xn) (keyL L yn) < 0 := by simpa using h5.2
              rw [cmpI_neg, ← HX.out, ← HY.out] at h6
              rw [HG.out]; exact h6))
            go_wp2_with fail
            exact ⟨⟨H + 1, j, by go_num, rfl, by omega, hjm, hid ⟨HF.out.1, HN.out, HF.out.2⟩⟩, by simp [intOf]; omega⟩
          · have HN : Hid (SymI (keyL L) f a m b mid i H) := hid (HH.out.2.1.down HP.out HMID.out ham hmb hHi hHj (by
              have h5 := HRR.out
              rw [← h5.1] at h5
              have h6 : cmpI (keyL L xn) (keyL L yn) < 0 := by simpa using h5.2
              rw [cmpI_neg, ← HX.out, ← HY.out] at h6
              rw [HG.out]; exact h6))
            go_wp2_with fail
            exact ⟨⟨i, H, rfl, rfl, hHi, by omega, hid ⟨HF.out.1, HN.out, HF.out.2⟩⟩, by simp [intOf]; omega⟩
      · have : i = j := by omega
        subst this
        have HCUT := hid (HH.out.2.1.fin HP.out HMID.out ham hmb)
        obtain ⟨E, hE0⟩ : ∃ x, mid + m - i = x := ⟨_, rfl⟩
        rw [hE0] at HCUT
        have wE : IntKind.i64.wrap ((N : Int) - (i : Int)) = (E : Int) := by have := HNN.out; rw [IntWalk.i64_in _ (by omega)]; omega
        have hc1 := HCUT.out.as
        have hc2 := HCUT.out.sm
        have hc3 := HCUT.out.me
        have hc4 := HCUT.out.eb
        have hc5 := HCUT.out.de
        have HSUM := hid HCUT.out.sum
        clear hE0
        by_cases ho : i < m ∧ m < E
        · have j0 : decide (i < m) = true := by simpa using ho.1
          have j1 : decide (m < E) = true := by simpa using ho.2
          have HC := hid (rotate_any g n cap i m E (.func (.func 54) #[] #[.pointer (some ⟨cb, 0, none⟩)]) f wr HH.out.1 ho.1 ho.2 (by omega) hn)
          clear ho
          go_wp2_with fail
          refine HC.out.mono ?_
          rintro e w7 ⟨rfl, g1, u1, u2, u3⟩
          have HG1 : Hid (RowF w7 g n g1 ∧ Rot i m E f g1 ∧ Exc (fun k => k = g) w w7) := hid ⟨u1, u2, HH.out.2.2.trans (u3.mono (fun _ _ h => h))⟩
          clear u1 u2 u3
          obtain ⟨p1, p2, p3⟩ := HCUT.out.split HP.out HG1.out.2.1
          have hI1 := Idx.sam HI.out ((HG1.out.2.1.sam hc2 hc3).wide hc1 hc4)
          have HPA := hid p1
          have HPB := hid p2
          have HPX := hid p3
          have HI1 := hid hI1
          clear p1 p2 p3 hI1
          by_cases hl : a < i ∧ i < mid
          · have j2 : decide (a < i) = true := by simpa using hl.1
            have j3 : decide (i < mid) = true := by simpa using hl.2
            have HC := hid (HIH.out a i mid g1 _ (by omega) (HE.out.exc HG1.out.2.2) HG1.out.1 (fun q h1 h2 => HI1.out q h1 (by omega)) HPA.out hl.1 hl.2 (by omega))
            clear hl
            go_wp2_with fail
            refine HC.out.mono ?_
            rintro e w8 ⟨rfl, g2, u1, u2, u3⟩
            have HG2 : Hid (RowF w8 g n g2 ∧ Mrg (keyL L) a mid g1 g2 ∧ Exc (fun k => k = g) w w8) := hid ⟨u1, u2, HG1.out.2.2.trans (u3.mono (fun _ _ h => h))⟩
            clear u1 u2 u3
            have HPC : Hid (Pre (keyL L) g2 mid E b) := hid (HPB.out.congr hc5 hc4 (fun q h1 h2 => HG2.out.2.1.sam.out q (by omega)))
            have hI2 : Idx L.length g2 mid b := fun q h1 h2 => by rw [HG2.out.2.1.sam.out q (by omega)]; exact HI1.out q (by omega) h2
            have HI2 := hid hI2
            clear hI2
            by_cases hr : mid < E ∧ E < b
            · have j4 : decide (mid < E) = true := by simpa using hr.1
              have j5 : decide (E < b) = true := by simpa using hr.2
              have HC := hid (HIH.out mid E b g2 _ (by omega) (HE.out.exc HG2.out.2.2) HG2.out.1 HI2.out HPC.out hr.1 hr.2 hbn)
              clear hr
              go_wp2_with fail
              refine HC.out.mono ?_
              rintro e w9 ⟨rfl, g3, u1, u2, u3⟩
              have HF : Hid (RowP w g n (Mrg (keyL L) a b f) (.returned (.tuple #[])) w9) := hid ⟨rfl, g3, u1, Mrg.join (by omega) (by omega) ((HG1.out.2.1.sam hc2 hc3).wide hc1 hc4) HPX.out HG2.out.2.1 u2, HG2.out.2.2.trans (u3.mono (fun _ _ h => h))⟩
              clear u1 u2 u3
              go_wp2_with fail
              refine bodyPost_end (results_none rfl _ _ _) rfl ?_
              exact HF.out
            · have HF : Hid (RowP w g n (Mrg (keyL L) a b f) (.returned (.tuple #[])) w8) := hid ⟨rfl, g2, HG2.out.1, Mrg.join (by omega) (by omega) ((HG1.out.2.1.sam hc2 hc3).wide hc1 hc4) HPX.out HG2.out.2.1 (Mrg.none (HPC.out.side (by omega))), HG2.out.2.2⟩
              rcases (by omega : ¬ mid < E ∨ (mid < E ∧ ¬ E < b)) with hq | ⟨hq, hq2⟩
              · have j4 : decide (mid < E) = false := by simp; omega
                clear hr
                go_wp2_with fail
                refine bodyPost_end (results_none rfl _ _ _) rfl ?_
                exact HF.out
              · have j4 : decide (mid < E) = true := by simpa using hq
                have j5 : decide (E < b) = false := by simp; omega
                clear hr
                go_wp2_with fail
                refine bodyPost_end (results_none rfl _ _ _) rfl ?_
                exact HF.out
          · obtain ⟨g2, hg2⟩ : ∃ x, g1 = x := ⟨_, rfl⟩
            have HG2 : Hid (RowF w7 g n g2 ∧ Mrg (keyL L) a mid g1 g2 ∧ Exc (fun k => k = g) w w7) := hid ⟨by rw [← hg2]; exact HG1.out.1, by rw [← hg2]; exact Mrg.none (HPA.out.side (by have := HCUT.out.sd; omega)), HG1.out.2.2⟩
            clear hg2
            rcases (by omega : ¬ a < i ∨ (a < i ∧ ¬ i < mid)) with hq | ⟨hq, hq2⟩
            · have j2 : decide (a < i) = false := by simp; omega
              clear hl
              have HPC : Hid (Pre (keyL L) g2 mid E b) := hid (HPB.out.congr hc5 hc4 (fun q h1 h2 => HG2.out.2.1.sam.out q (by omega)))
              have hI2 : Idx L.length g2 mid b := fun q h1 h2 => by rw [HG2.out.2.1.sam.out q (by omega)]; exact HI1.out q (by omega) h2
              have HI2 := hid hI2
              clear hI2
              by_cases hr : mid < E ∧ E < b
              · have j4 : decide (mid < E) = true := by simpa using hr.1
                have j5 : decide (E < b) = true := by simpa using hr.2
                have HC := hid (HIH.out mid E b g2 _ (by omega) (HE.out.exc HG2.out.2.2) HG2.out.1 HI2.out HPC.out hr.1 hr.2 hbn)
                clear hr
                go_wp2_with fail
                refine HC.out.mono ?_
                rintro e w9 ⟨rfl, g3, u1, u2, u3⟩
                have HF : Hid (RowP w g n (Mrg (keyL L) a b f) (.returned (.tuple #[])) w9) := hid ⟨rfl, g3, u1, Mrg.join (by omega) (by omega) ((HG1.out.2.1.sam hc2 hc3).wide hc1 hc4) HPX.out HG2.out.2.1 u2, HG2.out.2.2.trans (u3.mono (fun _ _ h => h))⟩
                clear u1 u2 u3
                go_wp2_with fail
                refine bodyPost_end (results_none rfl _ _ _) rfl ?_
                exact HF.out
              · have HF : Hid (RowP w g n (Mrg (keyL L) a b f) (.returned (.tuple #[])) w7) := hid ⟨rfl, g2, HG2.out.1, Mrg.join (by omega) (by omega) ((HG1.out.2.1.sam hc2 hc3).wide hc1 hc4) HPX.out HG2.out.2.1 (Mrg.none (HPC.out.side (by omega))), HG2.out.2.2⟩
                rcases (by omega : ¬ mid < E ∨ (mid < E ∧ ¬ E < b)) with hq | ⟨hq, hq2⟩
                · have j4 : decide (mid < E) = false := by simp; omega
                  clear hr
                  go_wp2_with fail
                  refine bodyPost_end (results_none rfl _ _ _) rfl ?_
                  exact HF.out
                · have j4 : decide (mid < E) = true := by simpa using hq
                  have j5 : decide (E < b) = false := by simp; omega
                  clear hr
                  go_wp2_with fail
                  refine bodyPost_end (results_none rfl _ _ _) rfl ?_
                  exact HF.out
            · have j2 : decide (a < i) = true := by simpa using hq
              have j3 : decide (i < mid) = false := by simp; omega
              clear hl
              have HPC : Hid (Pre (keyL L) g2 mid E b) := hid (HPB.out.congr hc5 hc4 (fun q h1 h2 => HG2.out.2.1.sam.out q (by omega)))
              have hI2 : Idx L.length g2 mid b := fun q h1 h2 => by rw [HG2.out.2.1.sam.out q (by omega)]; exact HI1.out q (by omega) h2
              have HI2 := hid hI2
              clear hI2
              by_cases hr : mid < E ∧ E < b
              · have j4 : decide (mid < E) = true := by simpa using hr.1
                have j5 : decide (E < b) = true := by simpa using hr.2
                have HC := hid (HIH.out mid E b g2 _ (by omega) (HE.out.exc HG2.out.2.2) HG2.out.1 HI2.out HPC.out hr.1 hr.2 hbn)
                clear hr
                go_wp2_with fail
                refine HC.out.mono ?_
                rintro e w9 ⟨rfl, g3, u1, u2, u3⟩
                have HF : Hid (RowP w g n (Mrg (keyL L) a b f) (.returned (.tuple #[])) w9) := hid ⟨rfl, g3, u1, Mrg.join (by omega) (by omega) ((HG1.out.2.1.sam hc2 hc3).wide hc1 hc4) HPX.out HG2.out.2.1 u2, HG2.out.2.2.trans (u3.mono (fun _ _ h => h))⟩
                clear u1 u2 u3
                go_wp2_with fail
                refine bodyPost_end (results_none rfl _ _ _) rfl ?_
                exact HF.out
              · have HF : Hid (RowP w g n (Mrg (keyL L) a b f) (.returned (.tuple #[])) w7) := hid ⟨rfl, g2, HG2.out.1, Mrg.join (by omega) (by omega) ((HG1.out.2.1.sam hc2 hc3).wide hc1 hc4) HPX.out HG2.out.2.1 (Mrg.none (HPC.out.side (by omega))), HG2.out.2.2⟩
                rcases (by omega : ¬ mid < E ∨ (mid < E ∧ ¬ E < b)) with hq | ⟨hq, hq2⟩
                · have j4 : decide (mid < E) = false := by simp; omega
                  clear hr
                  go_wp2_with fail
                  refine bodyPost_end (results_none rfl _ _ _) rfl ?_
                  exact HF.out
                · have j4 : decide (mid < E) = true := by simpa using hq
                  have j5 : decide (E < b) = false := by simp; omega
                  clear hr
                  go_wp2_with fail
                  refine bodyPost_end (results_none rfl _ _ _) rfl ?_
                  exact HF.out
        · obtain ⟨g1, hg1⟩ : ∃ x, f = x := ⟨_, rfl⟩
          have HG1 : Hid (RowF wr g n g1 ∧ Rot i m E f g1 ∧ Exc (fun k => k = g) w wr) := hid ⟨by rw [← hg1]; exact HH.out.1, by rw [← hg1]; exact Rot.same f (by omega), HH.out.2.2⟩
          clear hg1
          obtain ⟨p1, p2, p3⟩ := HCUT.out.split HP.out HG1.out.2.1
          have hI1 := Idx.sam HI.out ((HG1.out.2.1.sam hc2 hc3).wide hc1 hc4)
          have HPA := hid p1
          have HPB := hid p2
          have HPX := hid p3
          have HI1 := hid hI1
          clear p1 p2 p3 hI1
          rcases (by omega : ¬ i < m ∨ (i < m ∧ ¬ m < E)) with hq0 | ⟨hq0, hq1⟩
          · have j0 : decide (i < m) = false := by simp; omega
            clear ho
            by_cases hl : a < i ∧ i < mid
            · have j2 : decide (a < i) = true := by simpa using hl.1
              have j3 : decide (i < mid) = true := by simpa using hl.2
              have HC := hid (HIH.out a i mid g1 _ (by omega) (HE.out.exc HG1.out.2.2) HG1.out.1 (fun q h1 h2 => HI1.out q h1 (by omega)) HPA.out hl.1 hl.2 (by omega))
              clear hl
              go_wp2_with fail
              refine HC.out.mono ?_
              rintro e w8 ⟨rfl, g2, u1, u2, u3⟩
              have HG2 : Hid (RowF w8 g n g2 ∧ Mrg (keyL L) a mid g1 g2 ∧ Exc (fun k => k = g) w w8) := hid ⟨u1, u2, HG1.out.2.2.trans (u3.mono (fun _ _ h => h))⟩
              clear u1 u2 u3
              have HPC : Hid (Pre (keyL L) g2 mid E b) := hid (HPB.out.congr hc5 hc4 (fun q h1 h2 => HG2.out.2.1.sam.out q (by omega)))
              have hI2 : Idx L.length g2 mid b := fun q h1 h2 => by rw [HG2.out.2.1.sam.out q (by omega)]; exact HI1.out q (by omega) h2
              have HI2 := hid hI2
              clear hI2
              by_cases hr : mid < E ∧ E < b
              · have j4 : decide (mid < E) = true := by simpa using hr.1
                have j5 : decide (E < b) = true := by simpa using hr.2
                have HC := hid (HIH.out mid E b g2 _ (by omega) (HE.out.exc HG2.out.2.2) HG2.out.1 HI2.out HPC.out hr.1 hr.2 hbn)
                clear hr
                go_wp2_with fail
                refine HC.out.mono ?_
                rintro e w9 ⟨rfl, g3, u1, u2, u3⟩
                have HF : Hid (RowP w g n (Mrg (keyL L) a b f) (.returned (.tuple #[])) w9) := hid ⟨rfl, g3, u1, Mrg.join (by omega) (by omega) ((HG1.out.2.1.sam hc2 hc3).wide hc1 hc4) HPX.out HG2.out.2.1 u2, HG2.out.2.2.trans (u3.mono (fun _ _ h => h))⟩
                clear u1 u2 u3
                go_wp2_with fail
                refine bodyPost_end (results_none rfl _ _ _) rfl ?_
                exact HF.out
              · have HF : Hid (RowP w g n (Mrg (keyL L) a b f) (.returned (.tuple #[])) w8) := hid ⟨rfl, g2, HG2.out.1, Mrg.join (by omega) (by omega) ((HG1.out.2.1.sam hc2 hc3).wide hc1 hc4) HPX.out HG2.out.2.1 (Mrg.none (HPC.out.side (by omega))), HG2.out.2.2⟩
                rcases (by omega : ¬ mid < E ∨ (mid < E ∧ ¬ E < b)) with hq | ⟨hq, hq2⟩
                · have j4 : decide (mid < E) = false := by simp; omega
                  clear hr
                  go_wp2_with fail
                  refine bodyPost_end (results_none rfl _ _ _) rfl ?_
                  exact HF.out
                · have j4 : decide (mid < E) = true := by simpa using hq
                  have j5 : decide (E < b) = false := by simp; omega
                  clear hr
                  go_wp2_with fail
                  refine bodyPost_end (results_none rfl _ _ _) rfl ?_
                  exact HF.out
            · obtain ⟨g2, hg2⟩ : ∃ x, g1 = x := ⟨_, rfl⟩
              have HG2 : Hid (RowF wr g n g2 ∧ Mrg (keyL L) a mid g1 g2 ∧ Exc (fun k => k = g) w wr) := hid ⟨by rw [← hg2]; exact HG1.out.1, by rw [← hg2]; exact Mrg.none (HPA.out.side (by have := HCUT.out.sd; omega)), HG1.out.2.2⟩
              clear hg2
              rcases (by omega : ¬ a < i ∨ (a < i ∧ ¬ i < mid)) with hq | ⟨hq, hq2⟩
              · have j2 : decide (a < i) = false := by simp; omega
                clear hl
                have HPC : Hid (Pre (keyL L) g2 mid E b) := hid (HPB.out.congr hc5 hc4 (fun q h1 h2 => HG2.out.2.1.sam.out q (by omega)))
                have hI2 : Idx L.length g2 mid b := fun q h1 h2 => by rw [HG2.out.2.1.sam.out q (by omega)]; exact HI1.out q (by omega) h2
                have HI2 := hid hI2
                clear hI2
                by_cases hr : mid < E ∧ E < b
                · have j4 : decide (mid < E) = true := by simpa using hr.1
                  have j5 : decide (E < b) = true := by simpa using hr.2
                  have HC := hid (HIH.out mid E b g2 _ (by omega) (HE.out.exc HG2.out.2.2) HG2.out.1 HI2.out HPC.out hr.1 hr.2 hbn)
                  clear hr
                  go_wp2_with fail
                  refine HC.out.mono ?_
                  rintro e w9 ⟨rfl, g3, u1, u2, u3⟩
                  have HF : Hid (RowP w g n (Mrg (keyL L) a b f) (.returned (.tuple #[])) w9) := hid ⟨rfl, g3, u1, Mrg.join (by omega) (by omega) ((HG1.out.2.1.sam hc2 hc3).wide hc1 hc4) HPX.out HG2.out.2.1 u2, HG2.out.2.2.trans (u3.mono (fun _ _ h => h))⟩
                  clear u1 u2 u3
                  go_wp2_with fail
                  refine bodyPost_end (results_none rfl _ _ _) rfl ?_
                  exact HF.out
                · have HF : Hid (RowP w g n (Mrg (keyL L) a b f) (.returned (.tuple #[])) wr) := hid ⟨rfl, g2, HG2.out.1, Mrg.join (by omega) (by omega) ((HG1.out.2.1.sam hc2 hc3).wide hc1 hc4) HPX.out HG2.out.2.1 (Mrg.none (HPC.out.side (by omega))), HG2.out.2.2⟩
                  rcases (by omega : ¬ mid < E ∨ (mid < E ∧ ¬ E < b)) with hq | ⟨hq, hq2⟩
                  · have j4 : decide (mid < E) = false := by simp; omega
                    clear hr
                    go_wp2_with fail
                    refine bodyPost_end (results_none rfl _ _ _) rfl ?_
                    exact HF.out
                  · have j4 : decide (mid < E) = true := by simpa using hq
                    have j5 : decide (E < b) = false := by simp; omega
                    clear hr
                    go_wp2_with fail
                    refine bodyPost_end (results_none rfl _ _ _) rfl ?_
                    exact HF.out
              · have j2 : decide (a < i) = true := by simpa using hq
                have j3 : decide (i < mid) = false := by simp; omega
                clear hl
                have HPC : Hid (Pre (keyL L) g2 mid E b) := hid (HPB.out.congr hc5 hc4 (fun q h1 h2 => HG2.out.2.1.sam.out q (by omega)))
                have hI2 : Idx L.length g2 mid b := fun q h1 h2 => by rw [HG2.out.2.1.sam.out q (by omega)]; exact HI1.out q (by omega) h2
                have HI2 := hid hI2
                clear hI2
                by_cases hr : mid < E ∧ E < b
                · have j4 : decide (mid < E) = true := by simpa using hr.1
                  have j5 : decide (E < b) = true := by simpa using hr.2
                  have HC := hid (HIH.out mid E b g2 _ (by omega) (HE.out.exc HG2.out.2.2) HG2.out.1 HI2.out HPC.out hr.1 hr.2 hbn)
                  clear hr
                  go_wp2_with fail
                  refine HC.out.mono ?_
                  rintro e w9 ⟨rfl, g3, u1, u2, u3⟩
                  have HF : Hid (RowP w g n (Mrg (keyL L) a b f) (.returned (.tuple #[])) w9) := hid ⟨rfl, g3, u1, Mrg.join (by omega) (by omega) ((HG1.out.2.1.sam hc2 hc3).wide hc1 hc4) HPX.out HG2.out.2.1 u2, HG2.out.2.2.trans (u3.mono (fun _ _ h => h))⟩
                  clear u1 u2 u3
                  go_wp2_with fail
                  refine bodyPost_end (results_none rfl _ _ _) rfl ?_
                  exact HF.out
                · have HF : Hid (RowP w g n (Mrg (keyL L) a b f) (.returned (.tuple #[])) wr) := hid ⟨rfl, g2, HG2.out.1, Mrg.join (by omega) (by omega) ((HG1.out.2.1.sam hc2 hc3).wide hc1 hc4) HPX.out HG2.out.2.1 (Mrg.none (HPC.out.side (by omega))), HG2.out.2.2⟩
                  rcases (by omega : ¬ mid < E ∨ (mid < E ∧ ¬ E < b)) with hq | ⟨hq, hq2⟩
                  · have j4 : decide (mid < E) = false := by simp; omega
                    clear hr
                    go_wp2_with fail
                    refine bodyPost_end (results_none rfl _ _ _) rfl ?_
                    exact HF.out
                  · have j4 : decide (mid < E) = true := by simpa using hq
                    have j5 : decide (E < b) = false := by simp; omega
                    clear hr
                    go_wp2_with fail
                    refine bodyPost_end (results_none rfl _ _ _) rfl ?_
                    exact HF.out
          · have j0 : decide (i < m) = true := by simpa using hq0
            have j1 : decide (m < E) = false := by simp; omega
            clear ho
            by_cases hl : a < i ∧ i < mid
            · have j2 : decide (a < i) = true := by simpa using hl.1
              have j3 : decide (i < mid) = true := by simpa using hl.2
              have HC := hid (HIH.out a i mid g1 _ (by omega) (HE.out.exc HG1.out.2.2) HG1.out.1 (fun q h1 h2 => HI1.out q h1 (by omega)) HPA.out hl.1 hl.2 (by omega))
              clear hl
              go_wp2_with fail
              refine HC.out.mono ?_
              rintro e w8 ⟨rfl, g2, u1, u2, u3⟩
              have HG2 : Hid (RowF w8 g n g2 ∧ Mrg (keyL L) a mid g1 g2 ∧ Exc (fun k => k = g) w w8) := hid ⟨u1, u2, HG1.out.2.2.trans (u3.mono (fun _ _ h => h))⟩
              clear u1 u2 u3
              have HPC : Hid (Pre (keyL L) g2 mid E b) := hid (HPB.out.congr hc5 hc4 (fun q h1 h2 => HG2.out.2.1.sam.out q (by omega)))
              have hI2 : Idx L.length g2 mid b := fun q h1 h2 => by rw [HG2.out.2.1.sam.out q (by omega)]; exact HI1.out q (by omega) h2
              have HI2 := hid hI2
              clear hI2
              by_cases hr : mid < E ∧ E < b
              · have j4 : decide (mid < E) = true := by simpa using hr.1
                have j5 : decide (E < b) = true := by simpa using hr.2
                have HC := hid (HIH.out mid E b g2 _ (by omega) (HE.out.exc HG2.out.2.2) HG2.out.1 HI2.out HPC.out hr.1 hr.2 hbn)
                clear hr
                go_wp2_with fail
                refine HC.out.mono ?_
                rintro e w9 ⟨rfl, g3, u1, u2, u3⟩
                have HF : Hid (RowP w g n (Mrg (keyL L) a b f) (.returned (.tuple #[])) w9) := hid ⟨rfl, g3, u1, Mrg.join (by omega) (by omega) ((HG1.out.2.1.sam hc2 hc3).wide hc1 hc4) HPX.out HG2.out.2.1 u2, HG2.out.2.2.trans (u3.mono (fun _ _ h => h))⟩
                clear u1 u2 u3
                go_wp2_with fail
                refine bodyPost_end (results_none rfl _ _ _) rfl ?_
                exact HF.out
              · have HF : Hid (RowP w g n (Mrg (keyL L) a b f) (.returned (.tuple #[])) w8) := hid ⟨rfl, g2, HG2.out.1, Mrg.join (by omega) (by omega) ((HG1.out.2.1.sam hc2 hc3).wide hc1 hc4) HPX.out HG2.out.2.1 (Mrg.none (HPC.out.side (by omega))), HG2.out.2.2⟩
                rcases (by omega : ¬ mid < E ∨ (mid < E ∧ ¬ E < b)) with hq | ⟨hq, hq2⟩
                · have j4 : decide (mid < E) = false := by simp; omega
                  clear hr
                  go_wp2_with fail
                  refine bodyPost_end (results_none rfl _ _ _) rfl ?_
                  exact HF.out
                · have j4 : decide (mid < E) = true := by simpa using hq
                  have j5 : decide (E < b) = false := by simp; omega
                  clear hr
                  go_wp2_with fail
                  refine bodyPost_end (results_none rfl _ _ _) rfl ?_
                  exact HF.out
            · obtain ⟨g2, hg2⟩ : ∃ x, g1 = x := ⟨_, rfl⟩
              have HG2 : Hid (RowF wr g n g2 ∧ Mrg (keyL L) a mid g1 g2 ∧ Exc (fun k => k = g) w wr) := hid ⟨by rw [← hg2]; exact HG1.out.1, by rw [← hg2]; exact Mrg.none (HPA.out.side (by have := HCUT.out.sd; omega)), HG1.out.2.2⟩
              clear hg2
              rcases (by omega : ¬ a < i ∨ (a < i ∧ ¬ i < mid)) with hq | ⟨hq, hq2⟩
              · have j2 : decide (a < i) = false := by simp; omega
                clear hl
                have HPC : Hid (Pre (keyL L) g2 mid E b) := hid (HPB.out.congr hc5 hc4 (fun q h1 h2 => HG2.out.2.1.sam.out q (by omega)))
                have hI2 : Idx L.length g2 mid b := fun q h1 h2 => by rw [HG2.out.2.1.sam.out q (by omega)]; exact HI1.out q (by omega) h2
                have HI2 := hid hI2
                clear hI2
                by_cases hr : mid < E ∧ E < b
                · have j4 : decide (mid < E) = true := by simpa using hr.1
                  have j5 : decide (E < b) = true := by simpa using hr.2
                  have HC := hid (HIH.out mid E b g2 _ (by omega) (HE.out.exc HG2.out.2.2) HG2.out.1 HI2.out HPC.out hr.1 hr.2 hbn)
                  clear hr
                  go_wp2_with fail
                  refine HC.out.mono ?_
                  rintro e w9 ⟨rfl, g3, u1, u2, u3⟩
                  have HF : Hid (RowP w g n (Mrg (keyL L) a b f) (.returned (.tuple #[])) w9) := hid ⟨rfl, g3, u1, Mrg.join (by omega) (by omega) ((HG1.out.2.1.sam hc2 hc3).wide hc1 hc4) HPX.out HG2.out.2.1 u2, HG2.out.2.2.trans (u3.mono (fun _ _ h => h))⟩
                  clear u1 u2 u3
                  go_wp2_with fail
                  refine bodyPost_end (results_none rfl _ _ _) rfl ?_
                  exact HF.out
                · have HF : Hid (RowP w g n (Mrg (keyL L) a b f) (.returned (.tuple #[])) wr) := hid ⟨rfl, g2, HG2.out.1, Mrg.join (by omega) (by omega) ((HG1.out.2.1.sam hc2 hc3).wide hc1 hc4) HPX.out HG2.out.2.1 (Mrg.none (HPC.out.side (by omega))), HG2.out.2.2⟩
                  rcases (by omega : ¬ mid < E ∨ (mid < E ∧ ¬ E < b)) with hq | ⟨hq, hq2⟩
                  · have j4 : decide (mid < E) = false := by simp; omega
                    clear hr
                    go_wp2_with fail
                    refine bodyPost_end (results_none rfl _ _ _) rfl ?_
                    exact HF.out
                  · have j4 : decide (mid < E) = true := by simpa using hq
                    have j5 : decide (E < b) = false := by simp; omega
                    clear hr
                    go_wp2_with fail
                    refine bodyPost_end (results_none rfl _ _ _) rfl ?_
                    exact HF.out
              · have j2 : decide (a < i) = true := by simpa using hq
                have j3 : decide (i < mid) = false := by simp; omega
                clear hl
                have HPC : Hid (Pre (keyL L) g2 mid E b) := hid (HPB.out.congr hc5 hc4 (fun q h1 h2 => HG2.out.2.1.sam.out q (by omega)))
                have hI2 : Idx L.length g2 mid b := fun q h1 h2 => by rw [HG2.out.2.1.sam.out q (by omega)]; exact HI1.out q (by omega) h2
                have HI2 := hid hI2
                clear hI2
                by_cases hr : mid < E ∧ E < b
                · have j4 : decide (mid < E) = true := by simpa using hr.1
                  have j5 : decide (E < b) = true := by simpa using hr.2
                  have HC := hid (HIH.out mid E b g2 _ (by omega) (HE.out.exc HG2.out.2.2) HG2.out.1 HI2.out HPC.out hr.1 hr.2 hbn)
                  clear hr
                  go_wp2_with fail
                  refine HC.out.mono ?_
                  rintro e w9 ⟨rfl, g3, u1, u2, u3⟩
                  have HF : Hid (RowP w g n (Mrg (keyL L) a b f) (.returned (.tuple #[])) w9) := hid ⟨rfl, g3, u1, Mrg.join (by omega) (by omega) ((HG1.out.2.1.sam hc2 hc3).wide hc1 hc4) HPX.out HG2.out.2.1 u2, HG2.out.2.2.trans (u3.mono (fun _ _ h => h))⟩
                  clear u1 u2 u3
                  go_wp2_with fail
                  refine bodyPost_end (results_none rfl _ _ _) rfl ?_
                  exact HF.out
                · have HF : Hid (RowP w g n (Mrg (keyL L) a b f) (.returned (.tuple #[])) wr) := hid ⟨rfl, g2, HG2.out.1, Mrg.join (by omega) (by omega) ((HG1.out.2.1.sam hc2 hc3).wide hc1 hc4) HPX.out HG2.out.2.1 (Mrg.none (HPC.out.side (by omega))), HG2.out.2.2⟩
                  rcases (by omega : ¬ mid < E ∨ (mid < E ∧ ¬ E < b)) with hq | ⟨hq, hq2⟩
                  · have j4 : decide (mid < E) = false := by simp; omega
                    clear hr
                    go_wp2_with fail
                    refine bodyPost_end (results_none rfl _ _ _) rfl ?_
                    exact HF.out
                  · have j4 : decide (mid < E) = true := by simpa using hq
                    have j5 : decide (E < b) = false := by simp; omega
                    clear hr
                    go_wp2_with fail
                    refine bodyPost_end (results_none rfl _ _ _) rfl ?_
                    exact HF.out
end Go.Proofs.Ythfoggbaoafpjaa
