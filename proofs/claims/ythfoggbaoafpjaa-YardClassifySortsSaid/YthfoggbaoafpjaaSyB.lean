/-
  The walk of the library's symMergeCmpFunc at the cars' indices: a single index on the right. Conditions: both sides are sorted, the lower indices stand to the left.
-/
import Derived.Test.YthfoggbaoafpjaaSyA
namespace Go.Proofs.Ythfoggbaoafpjaa
open Go.RowKit

set_option maxHeartbeats 8000000 in
set_option maxRecDepth 100000 in
theorem symB_any (L : List Car) (A : Option Addr) (c cb g n cap a m b : Nat) (f : Nat → Int) (w : World) (hE : Env L A c cb g w) (hR : RowF w g n f) (hi : Idx L.length f a b) (hp : Pre (keyL L) f a m b) (ham : a < m) (hmb : m < b) (hbn : b ≤ n) (hn : n ≤ 100000) (h1 : m ≠ a + 1) (h2 : b = m + 1) :
    Calls Try.prog 81 #[.slice (some ⟨g, 0, none⟩) n cap, .int .i64 a, .int .i64 m, .int .i64 b, cloV cb] w (RowP w g n (Mrg (keyL L) a b f)) := by
  have HR := hid hR
  have HE := hid hE
  have HI := hid hi
  have HP := hid hp
  clear hR hE hi hp
  unfold cloV

  have k0 : (((m - a : Nat) : Int) == 1) = false := by rw [beq_eq_false_iff_ne]; omega
  have k1 : (((b - m : Nat) : Int) == 1) = true := by rw [h2]; simp
  have w0 : IntKind.i64.wrap ((m : Int) - (a : Int)) = ((m - a : Nat) : Int) := by rw [IntWalk.i64_in _ (by omega)]; omega
  have w1 : IntKind.i64.wrap ((b : Int) - (m : Int)) = ((b - m : Nat) : Int) := by rw [IntWalk.i64_in _ (by omega)]; omega
  generalize m - a = M at *
  generalize b - m = N at *
  have H2 := hid h2
  clear h1 h2
  go_enter Try.func81, Try.ntmps81
  go_wp2_with fail
  clear k0 w0 k1 w1
  go_loopw [14, 15] (fun s14 s15 wr => ∃ i j : Nat, a ≤ i ∧ i ≤ j ∧ j ≤ m ∧ s14 = .int .i64 i ∧ s15 = .int .i64 j ∧ Hid (RowF wr g n f ∧ (∀ q, a ≤ q → q < i → ¬ keyL L (f m) < keyL L (f q)) ∧ (∀ q, j ≤ q → q < m → keyL L (f m) < keyL L (f q)) ∧ Exc (fun k => k = g) w wr)) (fun s14 s15 _ => (intOf s15).toNat - (intOf s14).toNat)
  case atStart => exact ⟨a, m, Nat.le_refl _, by omega, Nat.le_refl _, rfl, rfl, hid ⟨HR.out, fun q h1 h2 => by omega, fun q h1 h2 => by omega, Exc.refl _ _⟩⟩
  case round =>
    obtain ⟨i, j, hmi, hij, hjb, rfl, rfl, HH⟩ := hrel
    by_cases hlt : i < j
    · obtain ⟨H, hH⟩ : ∃ H, (i + j) / 2 = H := ⟨_, rfl⟩
      have hHi : i ≤ H := by omega
      have hHj : H < j := by omega
      have wh : ((i : Int) + (j : Int)) / 2 = (H : Int) := by omega
      clear hH
      obtain ⟨xn, hx, hxl⟩ := HI.out.nat (i := m) (by omega) (by omega)
      obtain ⟨yn, hy, hyl⟩ := HI.out.nat (i := H) (by omega) (by omega)
      obtain ⟨r, hr⟩ : ∃ r, cmpI (keyL L xn) (keyL L yn) = r := ⟨_, rfl⟩
      obtain ⟨B, hB⟩ : ∃ B, decide (r < 0) = B := ⟨_, rfl⟩
      have HC := hid (fun (W : World) (hb : Below wr.heap.size wr W) => clo_any L A c cb g xn yn W ((HE.out.exc HH.out.2.2.2).below hb) hxl hyl)
      rw [hr] at HC
      have HX := hid hx
      have HY := hid hy
      have HRR := hid (And.intro hr hB)
      clear hx hy hr
      have b0 : (0 : Int) ≤ (H : Int) := by omega
      have b1 : (H : Int) < (n : Int) := by omega
      have b2 : (0 : Int) ≤ (m : Int) := by omega
      have b3 : (m : Int) < (n : Int) := by omega
      go_upto_region 17 with fail
      clear wh
      refine region_makes [92, 93, 94, 95, 96, 97, 98, 99, 100, 101, 102, 103] (fun jx vx _ => vx = ([.func (.func 54) #[] #[.pointer (some ⟨cb, 0, none⟩)], .slice (some ⟨g, 0, none⟩) n cap, .int .i64 (m : Nat), .pointer (some ⟨g, m, none⟩), .int .i64 (xn : Nat), .slice (some ⟨g, 0, none⟩) n cap, .int .i64 (H : Nat), .pointer (some ⟨g, H, none⟩), .int .i64 (yn : Nat), .int .i64 r, .bool B, .bool (!B)] : List Value).getD jx undef) (fun _ => false) rfl (by kernel_rfl) rfl (by decide) (by simp) (fun _ _ _ _ h _ => h) (fun _ _ _ _ h _ => by cases h) ?_ ?_
      · intro io oo ac wz hj hbase hT hdep hx1 hx2 K hK'
        have hK : ∀ v w2, Below wz.heap.size wz w2 → ( v = ([.func (.func 54) #[] #[.pointer (some ⟨cb, 0, none⟩)], .slice (some ⟨g, 0, none⟩) n cap, .int .i64 (m : Nat), .pointer (some ⟨g, m, none⟩), .int .i64 (xn : Nat), .slice (some ⟨g, 0, none⟩) n cap, .int .i64 (H : Nat), .pointer (some ⟨g, H, none⟩), .int .i64 (yn : Nat), .int .i64 r, .bool B, .bool (!B)] : List Value).getD io undef) → K (ac.put (some (([92, 93, 94, 95, 96, 97, 98, 99, 100, 101, 102, 103] : List Nat).getD io 0)) v) w2 := fun v w2 h1 h2 => hK' v w2 h1 h2 (fun h => by cases h)
        clear hK' hx1 hx2
        have hB := Below.refl wz.heap.size wz
        have e0 : ac.tmps.getD 0 undef = .slice (some ⟨g, 0, none⟩) n cap := hbase 0 (by decide)
        have e2 : ac.tmps.getD 2 undef = .int .i64 (m : Nat) := hbase 2 (by decide)
        have e4 : ac.tmps.getD 4 undef = .func (.func 54) #[] #[.pointer (some ⟨cb, 0, none⟩)] := hbase 4 (by decide)
        have e16 : ac.tmps.getD 16 undef = .int .i64 (H : Nat) := hbase 16 (by decide)
        have l0 := (HH.out.1.keep hT).at (i := m) (by omega)
        rw [HX.out] at l0
        have l1 := (HH.out.1.keep hT).at (i := H) (by omega)
        rw [HY.out] at l1
        have hio : io < 12 := (Array.getElem?_eq_some_iff.1 hj).1
        obtain rfl | rfl | rfl | rfl | rfl | rfl | rfl | rfl | rfl | rfl | rfl | rfl : io = 0 ∨ io = 1 ∨ io = 2 ∨ io = 3 ∨ io = 4 ∨ io = 5 ∨ io = 6 ∨ io = 7 ∨ io = 8 ∨ io = 9 ∨ io = 10 ∨ io = 11 := by omega
        all_goals (injection hj with hj; subst hj; clear hio)
        · refine wpOp_of rfl rfl ?_
          go_simp
          exact hK _ _ hB rfl
        · refine wpOp_of rfl rfl ?_
          go_simp
          exact hK _ _ hB rfl
        · refine wpOp_of rfl rfl ?_
          go_simp
          exact hK _ _ hB rfl
        · have d93 : ac.tmps.getD 93 undef = .slice (some ⟨g, 0, none⟩) n cap := (hdep ⟨1, .data⟩ (by simp) rfl)
          have d94 : ac.tmps.getD 94 undef = .int .i64 (m : Nat) := (hdep ⟨2, .data⟩ (by simp) rfl)
          refine wpOp_of rfl rfl ?_
          go_simp
          exact hK _ _ hB rfl
        · have d95 : ac.tmps.getD 95 undef = .pointer (some ⟨g, m, none⟩) := (hdep ⟨3, .data⟩ (by simp) rfl)
          refine wpOp_of rfl rfl ?_
          go_simp
          exact hK _ _ hB rfl
        · refine wpOp_of rfl rfl ?_
          go_simp
          exact hK _ _ hB rfl
        · refine wpOp_of rfl rfl ?_
          go_simp
          exact hK _ _ hB rfl
        · have d97 : ac.tmps.getD 97 undef = .slice (some ⟨g, 0, none⟩) n cap := (hdep ⟨5, .data⟩ (by simp) rfl)
          have d98 : ac.tmps.getD 98 undef = .int .i64 (H : Nat) := (hdep ⟨6, .data⟩ (by simp) rfl)
          refine wpOp_of rfl rfl ?_
          go_simp
          exact hK _ _ hB rfl
        · have d99 : ac.tmps.getD 99 undef = .pointer (some ⟨g, H, none⟩) := (hdep ⟨7, .data⟩ (by simp) rfl)
          refine wpOp_of rfl rfl ?_
          go_simp
          exact hK _ _ hB rfl
        · have d92 : ac.tmps.getD 92 undef = .func (.func 54) #[] #[.pointer (some ⟨cb, 0, none⟩)] := (hdep ⟨0, .data⟩ (by simp) rfl)
          have d96 : ac.tmps.getD 96 undef = .int .i64 (xn : Nat) := (hdep ⟨4, .data⟩ (by simp) rfl)
          have d100 : ac.tmps.getD 100 undef = .int .i64 (yn : Nat) := (hdep ⟨8, .data⟩ (by simp) rfl)
          refine wpOp_of rfl rfl ?_
          go_simp
          refine (HC.out wz hT).mono ?_
          rintro e w2 ⟨rfl, hb⟩
          exact hK _ _ hb rfl
        · have d101 : ac.tmps.getD 101 undef = .int .i64 r := (hdep ⟨9, .data⟩ (by simp) rfl)
          refine wpOp_of rfl rfl ?_
          go_simp
          exact hK _ _ hB rfl
        · have d102 : ac.tmps.getD 102 undef = .bool B := (hdep ⟨10, .data⟩ (by simp) rfl)
          refine wpOp_of rfl rfl ?_
          go_simp
          exact hK _ _ hB rfl
      · intro ac wz ha hT hv
        have v92 : ac.tmps.getD 92 undef = .func (.func 54) #[] #[.pointer (some ⟨cb, 0, none⟩)] := (hv 0 (by decide))
        have v93 : ac.tmps.getD 93 undef = .slice (some ⟨g, 0, none⟩) n cap := (hv 1 (by decide))
        have v94 : ac.tmps.getD 94 undef = .int .i64 (m : Nat) := (hv 2 (by decide))
        have v95 : ac.tmps.getD 95 undef = .pointer (some ⟨g, m, none⟩) := (hv 3 (by decide))
        have v96 : ac.tmps.getD 96 undef = .int .i64 (xn : Nat) := (hv 4 (by decide))
        have v97 : ac.tmps.getD 97 undef = .slice (some ⟨g, 0, none⟩) n cap := (hv 5 (by decide))
        have v98 : ac.tmps.getD 98 undef = .int .i64 (H : Nat) := (hv 6 (by decide))
        have v99 : ac.tmps.getD 99 undef = .pointer (some ⟨g, H, none⟩) := (hv 7 (by decide))
        have v100 : ac.tmps.getD 100 undef = .int .i64 (yn : Nat) := (hv 8 (by decide))
        have v101 : ac.tmps.getD 101 undef = .int .i64 r := (hv 9 (by decide))
        have v102 : ac.tmps.getD 102 undef = .bool B := (hv 10 (by decide))
        have v103 : ac.tmps.getD 103 undef = .bool (!B) := (hv 11 (by decide))
        clear hv
        simp only [List.map_cons, List.map_nil, Act.puts] at ha
        generalize ac.tmps.getD 92 undef = y92 at ha v92
        generalize ac.tmps.getD 93 undef = y93 at ha v93
        generalize ac.tmps.getD 94 undef = y94 at ha v94
        generalize ac.tmps.getD 95 undef = y95 at ha v95
        generalize ac.tmps.getD 96 undef = y96 at ha v96
        generalize ac.tmps.getD 97 undef = y97 at ha v97
        generalize ac.tmps.getD 98 undef = y98 at ha v98
        generalize ac.tmps.getD 99 undef = y99 at ha v99
        generalize ac.tmps.getD 100 undef = y100 at ha v100
        generalize ac.tmps.getD 101 undef = y101 at ha v101
        generalize ac.tmps.getD 102 undef = y102 at ha v102
        generalize ac.tmps.getD 103 undef = y103 at ha v103
        simp only [Act.put, List.setIfInBounds_toArray, List.set_cons_zero, List.set_cons_succ] at ha
        subst ha
        subst v92 v93 v94 v95 v96 v97 v98 v99 v100 v101 v102 v103
        have HF : Hid (RowF wz g n f ∧ Exc (fun k => k = g) w wz) := hid ⟨HH.out.1.keep hT, HH.out.2.2.2.trans (Exc.of_below hT)⟩
        clear hT hB HC
        cases B
        · have HN : Hid (∀ q, a ≤ q → q < H + 1 → ¬ keyL L (f m) < keyL L (f q)) := hid (fun q h1 h2 h3 => by
            have h4 := HP.out.key1 (i := q) (j := H) h1 (by omega) (by omega)
            have h5 := HRR.out
            rw [← h5.1] at h5
            have h6 : ¬ cmpI (keyL L xn) (keyL L yn) < 0 := by simpa using h5.2
            rw [cmpI_neg, ← HX.out, ← HY.out] at h6
            omega)
          go_wp2_with fail
          exact ⟨⟨H + 1, j, by omega, by omega, by omega, by go_num, rfl, hid ⟨HF.out.1, HN.out, HH.out.2.2.1, HF.out.2⟩⟩, by simp [intOf]; omega⟩
        · have HN : Hid (∀ q, H ≤ q → q < m → keyL L (f m) < keyL L (f q)) := hid (fun q h1 h2 => by
            have h4 := HP.out.key1 (i := H) (j := q) (by omega) h1 h2
            have h5 := HRR.out
            rw [← h5.1] at h5
            have h6 : cmpI (keyL L xn) (keyL L yn) < 0 := by simpa using h5.2
            rw [cmpI_neg, ← HX.out, ← HY.out] at h6
            omega)
          go_wp2_with fail
          exact ⟨⟨i, H, by omega, by omega, by omega, rfl, rfl, hid ⟨HF.out.1, HH.out.2.1, HN.out, HF.out.2⟩⟩, by simp [intOf]; omega⟩
    · have : i = j := by omega
      subst this
      go_wp2_with fail
      go_loopw [17] (fun s17 wv => ∃ k : Nat, i ≤ k ∧ k ≤ m ∧ s17 = .int .i64 k ∧ ∃ h : Nat → Int, Hid (RowF wv g n h ∧ Rot k m (m + 1) f h ∧ Exc (fun k => k = g) w wv)) (fun s17 _ => (intOf s17).toNat)
      case atStart => exact ⟨m, by omega, Nat.le_refl _, rfl, f, hid ⟨HH.out.1, Rot.same f (Or.inl rfl), HH.out.2.2.2⟩⟩
      case round =>
        obtain ⟨k, hak, hkI, rfl, h, HJ⟩ := hrel
        by_cases hk : i < k
        · obtain ⟨Z, hK0⟩ : ∃ Z, k - 1 = Z := ⟨_, rfl⟩
          have HK := hid (show k = Z + 1 by omega)
          have wk : IntKind.i64.wrap ((k : Int) - 1) = (Z : Int) := by rw [IntWalk.i64_in _ (by omega)]; omega
          have hKk : Z < k := by omega
          have hKI : i ≤ Z := by omega
          obtain ⟨xv, hxv⟩ : ∃ x, h k = x := ⟨_, rfl⟩
          obtain ⟨yv, hyv⟩ : ∃ x, h Z = x := ⟨_, rfl⟩
          have HX := hid hxv
          have HY := hid hyv
          have l0 := HJ.out.1.at (i := k) (by omega)
          have l1 := HJ.out.1.at (i := Z) (by omega)
          rw [hxv] at l0
          rw [hyv] at l1
          have f0 := HJ.out.1.frozen k
          have f1 := HJ.out.1.frozen Z
          have m0 := (HJ.out.1.set k yv).at (i := Z) (by omega)
          have m1 := (HJ.out.1.set k yv).frozen Z
          have b0 : (0 : Int) ≤ (k : Int) := by omega
          have b1 : (k : Int) < (n : Int) := by omega
          have b2 : (0 : Int) ≤ (Z : Int) := by omega
          have b3 : (Z : Int) < (n : Int) := by omega
          clear hxv hyv hK0
          go_upto_region 23 with fail
          refine region_two 15 17 (fun jx => ([113, 114, 115, 116, 117, 118, 119, 120, 121, 122, 123, 124, 125, 126, 127, 0, 128, 0] : List Nat).getD jx 0) [113, 114, 115, 116, 117, 118, 119, 120, 121, 122, 123, 124, 125, 126, 127, 128] (fun jx => [9, 13].elem jx) (fun jx => ([.slice (some ⟨g, 0, none⟩) n cap, .int .i64 (k : Nat), .slice (some ⟨g, 0, none⟩) n cap, .int .i64 (k : Nat), .int .i64 (Z : Nat), .slice (some ⟨g, 0, none⟩) n cap, .int .i64 (k : Nat), .int .i64 (Z : Nat), .pointer (some ⟨g, Z, none⟩), .int .i64 yv, .slice (some ⟨g, 0, none⟩) n cap, .int .i64 (k : Nat), .pointer (some ⟨g, k, none⟩), .int .i64 xv, .pointer (some ⟨g, k, none⟩), undef, .pointer (some ⟨g, Z, none⟩), undef] : List Value).getD jx undef) (wr.drew.setCell ⟨g, k, none⟩ (.int .i64 yv)) ((wr.drew.setCell ⟨g, k, none⟩ (.int .i64 yv)).setCell ⟨g, Z, none⟩ (.int .i64 xv)) rfl (by kernel_rfl) (by kernel_rfl) (by simp) ?_ ?_ ?_ ?_
          · intro io oo ac Wz hio q1 q2 hj hbase hw hdep K hK
            have e0 : ac.tmps.getD 0 undef = .slice (some ⟨g, 0, none⟩) n cap := hbase 0 (by decide)
            have e17 : ac.tmps.getD 17 undef = .int .i64 (k : Nat) := hbase 17 (by decide)
            replace hio : io < 18 := hio
            obtain rfl | rfl | rfl | rfl | rfl | rfl | rfl | rfl | rfl | rfl | rfl | rfl | rfl | rfl | rfl | rfl | rfl | rfl : io = 0 ∨ io = 1 ∨ io = 2 ∨ io = 3 ∨ io = 4 ∨ io = 5 ∨ io = 6 ∨ io = 7 ∨ io = 8 ∨ io = 9 ∨ io = 10 ∨ io = 11 ∨ io = 12 ∨ io = 13 ∨ io = 14 ∨ io = 15 ∨ io = 16 ∨ io = 17 := by omega
            all_goals (injection hj with hj; subst hj)
            · refine wpOp_of rfl rfl ?_
              go_simp
              exact hK
            · refine wpOp_of rfl rfl ?_
              go_simp
              exact hK
            · refine wpOp_of rfl rfl ?_
              go_simp
              exact hK
            · refine wpOp_of rfl rfl ?_
              go_simp
              exact hK
            · have d116 : ac.tmps.getD 116 undef = .int .i64 (k : Nat) := hdep ⟨3, .data⟩ (by simp) rfl (by decide) (by decide)
              refine wpOp_of rfl rfl ?_
              go_simp
              exact hK
            · refine wpOp_of rfl rfl ?_
              go_simp
              exact hK
            · refine wpOp_of rfl rfl ?_
              go_simp
              exact hK
            · have d119 : ac.tmps.getD 119 undef = .int .i64 (k : Nat) := hdep ⟨6, .data⟩ (by simp) rfl (by decide) (by decide)
              refine wpOp_of rfl rfl ?_
              go_simp
              exact hK
            · have d118 : ac.tmps.getD 118 undef = .slice (some ⟨g, 0, none⟩) n cap := hdep ⟨5, .data⟩ (by simp) rfl (by decide) (by decide)
              have d120 : ac.tmps.getD 120 undef = .int .i64 (Z : Nat) := hdep ⟨7, .data⟩ (by simp) rfl (by decide) (by decide)
              refine wpOp_of rfl rfl ?_
              go_simp
              exact hK
            · have hw := hw rfl
              subst hw
              have d121 : ac.tmps.getD 121 undef = .pointer (some ⟨g, Z, none⟩) := hdep ⟨8, .data⟩ (by simp) rfl (by decide) (by decide)
              refine wpOp_of rfl rfl ?_
              go_simp
              exact hK
            · refine wpOp_of rfl rfl ?_
              go_simp
              exact hK
            · refine wpOp_of rfl rfl ?_
              go_simp
              exact hK
            · have d123 : ac.tmps.getD 123 undef = .slice (some ⟨g, 0, none⟩) n cap := hdep ⟨10, .data⟩ (by simp) rfl (by decide) (by decide)
              have d124 : ac.tmps.getD 124 undef = .int .i64 (k : Nat) := hdep ⟨11, .data⟩ (by simp) rfl (by decide) (by decide)
              refine wpOp_of rfl rfl ?_
              go_simp
              exact hK
            · have hw := hw rfl
              subst hw
              have d125 : ac.tmps.getD 125 undef = .pointer (some ⟨g, k, none⟩) := hdep ⟨12, .data⟩ (by simp) rfl (by decide) (by decide)
              refine wpOp_of rfl rfl ?_
              go_simp
              exact hK
            · have d113 : ac.tmps.getD 113 undef = .slice (some ⟨g, 0, none⟩) n cap := hdep ⟨0, .data⟩ (by simp) rfl (by decide) (by decide)
              have d114 : ac.tmps.getD 114 undef = .int .i64 (k : Nat) := hdep ⟨1, .data⟩ (by simp) rfl (by decide) (by decide)
              refine wpOp_of rfl rfl ?_
              go_simp
              exact hK
            · exact absurd rfl q1
            · have d115 : ac.tmps.getD 115 undef = .slice (some ⟨g, 0, none⟩) n cap := hdep ⟨2, .data⟩ (by simp) rfl (by decide) (by decide)
              have d117 : ac.tmps.getD 117 undef = .int .i64 (Z : Nat) := hdep ⟨4, .data⟩ (by simp) rfl (by decide) (by decide)
              refine wpOp_of rfl rfl ?_
              go_simp
              exact hK
            · exact absurd rfl q2
          · intro oo ac hj hbase hdep K hK
            injection hj with hj
            subst hj
            have d127 : ac.tmps.getD 127 undef = .pointer (some ⟨g, k, none⟩) := hdep ⟨14, .data⟩ (by simp) rfl (by decide) (by decide)
            have d122 : ac.tmps.getD 122 undef = .int .i64 yv := hdep ⟨9, .data⟩ (by simp) rfl (by decide) (by decide)
            refine wpOp_of rfl rfl ?_
            go_simp
            exact hK
          · intro oo ac hj hbase hdep K hK
            injection hj with hj
            subst hj
            have d128 : ac.tmps.getD 128 undef = .pointer (some ⟨g, Z, none⟩) := hdep ⟨16, .data⟩ (by simp) rfl (by decide) (by decide)
            have d126 : ac.tmps.getD 126 undef = .int .i64 xv := hdep ⟨13, .data⟩ (by simp) rfl (by decide) (by decide)
            refine wpOp_of rfl rfl ?_
            go_simp
            exact hK
          · intro ac ha _
            simp only [List.map_cons, List.map_nil, Act.puts] at ha
            generalize ac.tmps.getD 113 undef = y113 at ha
            generalize ac.tmps.getD 114 undef = y114 at ha
            generalize ac.tmps.getD 115 undef = y115 at ha
            generalize ac.tmps.getD 116 undef = y116 at ha
            generalize ac.tmps.getD 117 undef = y117 at ha
            generalize ac.tmps.getD 118 undef = y118 at ha
            generalize ac.tmps.getD 119 undef = y119 at ha
            generalize ac.tmps.getD 120 undef = y120 at ha
            generalize ac.tmps.getD 121 undef = y121 at ha
            generalize ac.tmps.getD 122 undef = y122 at ha
            generalize ac.tmps.getD 123 undef = y123 at ha
            generalize ac.tmps.getD 124 undef = y124 at ha
            generalize ac.tmps.getD 125 undef = y125 at ha
            generalize ac.tmps.getD 126 undef = y126 at ha
            generalize ac.tmps.getD 127 undef = y127 at ha
            generalize ac.tmps.getD 128 undef = y128 at ha
            simp only [Act.put, List.setIfInBounds_toArray, List.set_cons_zero, List.set_cons_succ] at ha
            subst ha
            obtain ⟨W, hW⟩ : ∃ W, ((wr.drew.setCell ⟨g, k, none⟩ (.int .i64 yv)).setCell ⟨g, Z, none⟩ (.int .i64 xv)) = W := ⟨_, rfl⟩
            rw [hW]
            have HN : Hid (RowF W g n (swp h k Z) ∧ Rot Z m (m + 1) f (swp h k Z) ∧ Exc (fun k => k = g) w W) := hid (by
              rw [← hW]
              have hkK := HK.out
              refine ⟨?_, ?_, ((HJ.out.2.2.drew).setCell (p := ⟨g, k, none⟩) (Or.inl rfl) _).setCell (p := ⟨g, Z, none⟩) (Or.inl rfl) _⟩
              · have := (HJ.out.1.drew.set k yv).set Z xv
                refine this.congr (fun p _ => ?_)
                rw [← HX.out, ← HY.out]
                unfold upd swp
                by_cases e1 : p = Z
                · rw [if_pos e1, if_neg (by omega), if_pos e1]
                · rw [if_neg e1]
                  by_cases e2 : p = k
                  · rw [if_pos e2, if_pos e2]
                  · rw [if_neg e2, if_neg e2, if_neg e1]
              · have h1 := HJ.out.2.1
                rw [hkK] at h1 ⊢
                exact h1.down (by omega))
            clear hW l0 l1 f0 f1 m0 m1
            go_wp2_with fail
            have hkK := HK.out
            exact ⟨⟨Z, by omega, by omega, by go_num, swp h k Z, HN⟩, by simp [intOf]; omega⟩
        · have : k = i := by omega
          subst this
          have HF : Hid (Mrg (keyL L) a b f h) := hid (by
            have e1 := H2.out
            subst e1
            exact Mrg.one_right HP.out (by omega) (by omega) (fun j h1 h2 => by have := HH.out.2.1 j h1 h2; omega) HH.out.2.2.1 HJ.out.2.1)
          go_wp2_with fail
          refine bodyPost_end (results_none rfl _ _ _) rfl ?_
          exact ⟨rfl, h, HJ.out.1, HF.out, HJ.out.2.2⟩
end Go.Proofs.Ythfoggbaoafpjaa
