/-
  The walk of the library's symMergeCmpFunc at the cars' indices: a single index on the left. Conditions: both sides are sorted, the lower indices stand to the left.
-/
import Derived.Test.YthfoggbaoafpjaaIns
namespace Go.Proofs.Ythfoggbaoafpjaa
open Go.RowKit

theorem Pre.key2 {k : Int → Int} {f : Nat → Int} {a m b : Nat} (h : Pre k f a m b) {i j : Nat} (h1 : m ≤ i) (h2 : i ≤ j) (h3 : j < b) : k (f i) ≤ k (f j) := by
  rcases (by omega : i = j ∨ i < j) with rfl | hlt
  · exact Int.le_refl _
  · rcases h.s2 i j h1 hlt h3 with h4 | ⟨h4, _⟩
    · omega
    · omega
theorem Pre.key1 {k : Int → Int} {f : Nat → Int} {a m b : Nat} (h : Pre k f a m b) {i j : Nat} (h1 : a ≤ i) (h2 : i ≤ j) (h3 : j < m) : k (f i) ≤ k (f j) := by
  rcases (by omega : i = j ∨ i < j) with rfl | hlt
  · exact Int.le_refl _
  · rcases h.s1 i j h1 hlt h3 with h4 | ⟨h4, _⟩
    · omega
    · omega
theorem Rot.up {a k : Nat} {f h : Nat → Int} (H : Rot a (a + 1) (k + 1) f h) (hk : a ≤ k) : Rot a (a + 1) (k + 2) f (swp h k (k + 1)) := by
  have hk0 : h k = f a := by
    rw [H.hi k (by omega) (by omega)]; congr 1; omega
  have hk1 : h (k + 1) = f (k + 1) := H.out _ (by omega)
  refine ⟨fun i hi => ?_, fun i h1 h2 => ?_, fun i h1 h2 => ?_⟩
  · unfold swp; rw [if_neg (by omega), if_neg (by omega)]; exact H.out i (by omega)
  · unfold swp
    by_cases e : i = k
    · rw [if_pos e, hk1]; congr 1; omega
    · rw [if_neg e, if_neg (by omega)]; exact H.lo i h1 (by omega)
  · have : i = k + 1 := by omega
    subst this
    unfold swp; rw [if_neg (by omega), if_pos rfl, hk0]; congr 1; omega
theorem Rot.down {k m : Nat} {f h : Nat → Int} (H : Rot (k + 1) m (m + 1) f h) (hk : k + 1 ≤ m) : Rot k m (m + 1) f (swp h (k + 1) k) := by
  have hk0 : h (k + 1) = f m := by
    rw [H.lo (k + 1) (by omega) (by omega)]; congr 1; omega
  have hk1 : h k = f k := H.out _ (by omega)
  refine ⟨fun i hi => ?_, fun i h1 h2 => ?_, fun i h1 h2 => ?_⟩
  · unfold swp; rw [if_neg (by omega), if_neg (by omega)]; exact H.out i (by omega)
  · have : i = k := by omega
    subst this
    unfold swp; rw [if_neg (by omega), if_pos rfl, hk0]; congr 1; omega
  · unfold swp
    by_cases e : i = k + 1
    · rw [if_pos e, hk1]; congr 1; omega
    · rw [if_neg e, if_neg (by omega), H.hi i (by omega) (by omega)]
theorem Rot.same {a m b : Nat} (f : Nat → Int) (h : a = m ∨ b = m) : Rot a m b f f := by
  refine ⟨fun _ _ => rfl, fun i h1 h2 => ?_, fun i h1 h2 => ?_⟩
  · rcases h with rfl | rfl
    · congr 1; omega
    · omega
  · rcases h with rfl | rfl
    · omega
    · congr 1; omega

set_option maxHeartbeats 8000000 in
set_option maxRecDepth 100000 in
theorem symA_any (L : List Car) (A : Option Addr) (c cb g n cap a m b : Nat) (f : Nat → Int) (w : World) (hE : Env L A c cb g w) (hR : RowF w g n f) (hi : Idx L.length f a b) (hp : Pre (keyL L) f a m b) (ham : a < m) (hmb : m < b) (hbn : b ≤ n) (hn : n ≤ 100000) (h1 : m = a + 1) :
    Calls Try.prog 81 #[.slice (some ⟨g, 0, none⟩) n cap, .int .i64 a, .int .i64 m, .int .i64 b, cloV cb] w (RowP w g n (Mrg (keyL L) a b f)) := by
  have HR := hid hR
  have HE := hid hE
  have HI := hid hi
  have HP := hid hp
  clear hR hE hi hp
  unfold cloV

  have k0 : (((m - a : Nat) : Int) == 1) = true := by rw [h1]; simp
  have w0 : IntKind.i64.wrap ((m : Int) - (a : Int)) = ((m - a : Nat) : Int) := by rw [IntWalk.i64_in _ (by omega)]; omega
  generalize m - a = M at *
  have H1 := hid h1
  clear h1
  go_enter Try.func81, Try.ntmps81
  go_wp2_with fail
  clear k0 w0
  go_loopw [10, 11] (fun s10 s11 wr => ∃ i j : Nat, m ≤ i ∧ i ≤ j ∧ j ≤ b ∧ s10 = .int .i64 i ∧ s11 = .int .i64 j ∧ Hid (RowF wr g n f ∧ (∀ q, m ≤ q → q < i → keyL L (f q) < keyL L (f a)) ∧ (∀ q, j ≤ q → q < b → ¬ keyL L (f q) < keyL L (f a)) ∧ Exc (fun k => k = g) w wr)) (fun s10 s11 _ => (intOf s11).toNat - (intOf s10).toNat)
  case atStart => exact ⟨m, b, Nat.le_refl _, by omega, Nat.le_refl _, rfl, rfl, hid ⟨HR.out, fun q h1 h2 => by omega, fun q h1 h2 => by omega, Exc.refl _ _⟩⟩
  case round =>
    obtain ⟨i, j, hmi, hij, hjb, rfl, rfl, HH⟩ := hrel
    by_cases hlt : i < j
    · obtain ⟨H, hH⟩ : ∃ H, (i + j) / 2 = H := ⟨_, rfl⟩
      have hHi : i ≤ H := by omega
      have hHj : H < j := by omega
      have wh : ((i : Int) + (j : Int)) / 2 = (H : Int) := by omega
      clear hH
      obtain ⟨xn, hx, hxl⟩ := HI.out.nat (i := H) (by omega) (by omega)
      obtain ⟨yn, hy, hyl⟩ := HI.out.nat (i := a) (by omega) (by omega)
      obtain ⟨r, hr⟩ : ∃ r, cmpI (keyL L xn) (keyL L yn) = r := ⟨_, rfl⟩
      obtain ⟨B, hB⟩ : ∃ B, decide (r < 0) = B := ⟨_, rfl⟩
      have HC := hid (fun (W : World) (hb : Below wr.heap.size wr W) => clo_any L A c cb g xn yn W ((HE.out.exc HH.out.2.2.2).below hb) hxl hyl)
      rw [hr] at HC
      have HX := hid hx
      have HY := hid hy
      have HRR := hid (And.intro hr hB)
      clear hx hy hr
      have b0 : (0 : Int) ≤ (H : Int) := by omega
      have b1 : (H : Int) < (n : Int) := by omega
      have b2 : (0 : Int) ≤ (a : Int) := by omega
      have b3 : (a : Int) < (n : Int) := by omega
      go_upto_region 5 with fail
      clear wh
      refine region_makes [40, 41, 42, 43, 44, 45, 46, 47, 48, 49, 50] (fun jx vx _ => vx = ([.func (.func 54) #[] #[.pointer (some ⟨cb, 0, none⟩)], .slice (some ⟨g, 0, none⟩) n cap, .int .i64 (H : Nat), .pointer (some ⟨g, H, none⟩), .int .i64 (xn : Nat), .slice (some ⟨g, 0, none⟩) n cap, .int .i64 (a : Nat), .pointer (some ⟨g, a, none⟩), .int .i64 (yn : Nat), .int .i64 r, .bool B] : List Value).getD jx undef) (fun _ => false) rfl (by kernel_rfl) rfl (by decide) (by simp) (fun _ _ _ _ h _ => h) (fun _ _ _ _ h _ => by cases h) ?_ ?_
      · intro io oo ac wz hj hbase hT hdep hx1 hx2 K hK'
        have hK : ∀ v w2, Below wz.heap.size wz w2 → ( v = ([.func (.func 54) #[] #[.pointer (some ⟨cb, 0, none⟩)], .slice (some ⟨g, 0, none⟩) n cap, .int .i64 (H : Nat), .pointer (some ⟨g, H, none⟩), .int .i64 (xn : Nat), .slice (some ⟨g, 0, none⟩) n cap, .int .i64 (a : Nat), .pointer (some ⟨g, a, none⟩), .int .i64 (yn : Nat), .int .i64 r, .bool B] : List Value).getD io undef) → K (ac.put (some (([40, 41, 42, 43, 44, 45, 46, 47, 48, 49, 50] : List Nat).getD io 0)) v) w2 := fun v w2 h1 h2 => hK' v w2 h1 h2 (fun h => by cases h)
        clear hK' hx1 hx2
        have hB := Below.refl wz.heap.size wz
        have e0 : ac.tmps.getD 0 undef = .slice (some ⟨g, 0, none⟩) n cap := hbase 0 (by decide)
        have e1 : ac.tmps.getD 1 undef = .int .i64 (a : Nat) := hbase 1 (by decide)
        have e4 : ac.tmps.getD 4 undef = .func (.func 54) #[] #[.pointer (some ⟨cb, 0, none⟩)] := hbase 4 (by decide)
        have e12 : ac.tmps.getD 12 undef = .int .i64 (H : Nat) := hbase 12 (by decide)
        have l0 := (HH.out.1.keep hT).at (i := H) (by omega)
        rw [HX.out] at l0
        have l1 := (HH.out.1.keep hT).at (i := a) (by omega)
        rw [HY.out] at l1
        have hio : io < 11 := (Array.getElem?_eq_some_iff.1 hj).1
        obtain rfl | rfl | rfl | rfl | rfl | rfl | rfl | rfl | rfl | rfl | rfl : io = 0 ∨ io = 1 ∨ io = 2 ∨ io = 3 ∨ io = 4 ∨ io = 5 ∨ io = 6 ∨ io = 7 ∨ io = 8 ∨ io = 9 ∨ io = 10 := by omega
        all_goals (injection hj with hj; subst hj; clear hio)
        · refine wpOp_of rfl rfl ?_
          go_simp
          exact hK _ _ hB rfl
        · refine wpOp_of rfl rfl ?_
          go_simp
          exact hK _ _ hB rfl
        · refine wpOp_of rfl rfl ?_
          go_simp
          exact hK _ _ hB rfl
        · have d41 : ac.tmps.getD 41 undef = .slice (some ⟨g, 0, none⟩) n cap := (hdep ⟨1, .data⟩ (by simp) rfl)
          have d42 : ac.tmps.getD 42 undef = .int .i64 (H : Nat) := (hdep ⟨2, .data⟩ (by simp) rfl)
          refine wpOp_of rfl rfl ?_
          go_simp
          exact hK _ _ hB rfl
        · have d43 : ac.tmps.getD 43 undef = .pointer (some ⟨g, H, none⟩) := (hdep ⟨3, .data⟩ (by simp) rfl)
          refine wpOp_of rfl rfl ?_
          go_simp
          exact hK _ _ hB rfl
        · refine wpOp_of rfl rfl ?_
          go_simp
          exact hK _ _ hB rfl
        · refine wpOp_of rfl rfl ?_
          go_simp
          exact hK _ _ hB rfl
        · have d45 : ac.tmps.getD 45 undef = .slice (some ⟨g, 0, none⟩) n cap := (hdep ⟨5, .data⟩ (by simp) rfl)
          have d46 : ac.tmps.getD 46 undef = .int .i64 (a : Nat) := (hdep ⟨6, .data⟩ (by simp) rfl)
          refine wpOp_of rfl rfl ?_
          go_simp
          exact hK _ _ hB rfl
        · have d47 : ac.tmps.getD 47 undef = .pointer (some ⟨g, a, none⟩) := (hdep ⟨7, .data⟩ (by simp) rfl)
          refine wpOp_of rfl rfl ?_
          go_simp
          exact hK _ _ hB rfl
        · have d40 : ac.tmps.getD 40 undef = .func (.func 54) #[] #[.pointer (some ⟨cb, 0, none⟩)] := (hdep ⟨0, .data⟩ (by simp) rfl)
          have d44 : ac.tmps.getD 44 undef = .int .i64 (xn : Nat) := (hdep ⟨4, .data⟩ (by simp) rfl)
          have d48 : ac.tmps.getD 48 undef = .int .i64 (yn : Nat) := (hdep ⟨8, .data⟩ (by simp) rfl)
          refine wpOp_of rfl rfl ?_
          go_simp
          refine (HC.out wz hT).mono ?_
          rintro e w2 ⟨rfl, hb⟩
          exact hK _ _ hb rfl
        · have d49 : ac.tmps.getD 49 undef = .int .i64 r := (hdep ⟨9, .data⟩ (by simp) rfl)
          refine wpOp_of rfl rfl ?_
          go_simp
          exact hK _ _ hB rfl
      · intro ac wz ha hT hv
        have v40 : ac.tmps.getD 40 undef = .func (.func 54) #[] #[.pointer (some ⟨cb, 0, none⟩)] := (hv 0 (by decide))
        have v41 : ac.tmps.getD 41 undef = .slice (some ⟨g, 0, none⟩) n cap := (hv 1 (by decide))
        have v42 : ac.tmps.getD 42 undef = .int .i64 (H : Nat) := (hv 2 (by decide))
        have v43 : ac.tmps.getD 43 undef = .pointer (some ⟨g, H, none⟩) := (hv 3 (by decide))
        have v44 : ac.tmps.getD 44 undef = .int .i64 (xn : Nat) := (hv 4 (by decide))
        have v45 : ac.tmps.getD 45 undef = .slice (some ⟨g, 0, none⟩) n cap := (hv 5 (by decide))
        have v46 : ac.tmps.getD 46 undef = .int .i64 (a : Nat) := (hv 6 (by decide))
        have v47 : ac.tmps.getD 47 undef = .pointer (some ⟨g, a, none⟩) := (hv 7 (by decide))
        have v48 : ac.tmps.getD 48 undef = .int .i64 (yn : Nat) := (hv 8 (by decide))
        have v49 : ac.tmps.getD 49 undef = .int .i64 r := (hv 9 (by decide))
        have v50 : ac.tmps.getD 50 undef = .bool B := (hv 10 (by decide))
        clear hv
        simp only [List.map_cons, List.map_nil, Act.puts] at ha
        generalize ac.tmps.getD 40 undef = y40 at ha v40
        generalize ac.tmps.getD 41 undef = y41 at ha v41
        generalize ac.tmps.getD 42 undef = y42 at ha v42
        generalize ac.tmps.getD 43 undef = y43 at ha v43
        generalize ac.tmps.getD 44 undef = y44 at ha v44
        generalize ac.tmps.getD 45 undef = y45 at ha v45
        generalize ac.tmps.getD 46 undef = y46 at ha v46
        generalize ac.tmps.getD 47 undef = y47 at ha v47
        generalize ac.tmps.getD 48 undef = y48 at ha v48
        generalize ac.tmps.getD 49 undef = y49 at ha v49
        generalize ac.tmps.getD 50 undef = y50 at ha v50
        simp only [Act.put, List.setIfInBounds_toArray, List.set_cons_zero, List.set_cons_succ] at ha
        subst ha
        subst v40 v41 v42 v43 v44 v45 v46 v47 v48 v49 v50
        have HF : Hid (RowF wz g n f ∧ Exc (fun k => k = g) w wz) := hid ⟨HH.out.1.keep hT, HH.out.2.2.2.trans (Exc.of_below hT)⟩
        clear hT hB HC
        cases B
        · have HN : Hid (∀ q, H ≤ q → q < b → ¬ keyL L (f q) < keyL L (f a)) := hid (fun q h1 h2 h3 => by
            have h4 := HP.out.key2 (i := H) (j := q) (by omega) h1 h2
            have h5 := HRR.out
            rw [← h5.1] at h5
            have h6 : ¬ cmpI (keyL L xn) (keyL L yn) < 0 := by simpa using h5.2
            rw [cmpI_neg, ← HX.out, ← HY.out] at h6
            omega)
          go_wp2_with fail
          exact ⟨⟨i, H, by omega, by omega, by omega, rfl, rfl, hid ⟨HF.out.1, HH.out.2.1, HN.out, HF.out.2⟩⟩, by simp [intOf]; omega⟩
        · have HN : Hid (∀ q, m ≤ q → q < H + 1 → keyL L (f q) < keyL L (f a)) := hid (fun q h1 h2 => by
            have h4 := HP.out.key2 (i := q) (j := H) h1 (by omega) (by omega)
            have h5 := HRR.out
            rw [← h5.1] at h5
            have h6 : cmpI (keyL L xn) (keyL L yn) < 0 := by simpa using h5.2
            rw [cmpI_neg, ← HX.out, ← HY.out] at h6
            omega)
          go_wp2_with fail
          exact ⟨⟨H + 1, j, by omega, by omega, by omega, by go_num, rfl, hid ⟨HF.out.1, HN.out, HH.out.2.2.1, HF.out.2⟩⟩, by simp [intOf]; omega⟩
    · have : i = j := by omega
      subst this
      obtain ⟨I, hI⟩ : ∃ I, i - 1 = I := ⟨_, rfl⟩
      have wi : IntKind.i64.wrap ((i : Int) - 1) = (I : Int) := by rw [IntWalk.i64_in _ (by omega)]; omega
      have hIi : I < i := by omega
      have HIi := hid (show i = I + 1 by omega)
      have haI : a ≤ I := by have := H1.out; omega
      clear hI
      go_wp2_with fail
      go_loopw [13] (fun s13 wv => ∃ k : Nat, a ≤ k ∧ k ≤ I ∧ s13 = .int .i64 k ∧ ∃ h : Nat → Int, Hid (RowF wv g n h ∧ Rot a (a + 1) (k + 1) f h ∧ Exc (fun k => k = g) w wv)) (fun s13 _ => I - (intOf s13).toNat)
      case atStart => exact ⟨a, Nat.le_refl _, haI, rfl, f, hid ⟨HH.out.1, Rot.same f (Or.inr rfl), HH.out.2.2.2⟩⟩
      case round =>
        obtain ⟨k, hak, hkI, rfl, h, HJ⟩ := hrel
        by_cases hk : k < I
        · obtain ⟨Z, hK0⟩ : ∃ Z, k + 1 = Z := ⟨_, rfl⟩
          have HK := hid hK0
          have wk : IntKind.i64.wrap ((k : Int) + 1) = (Z : Int) := by rw [IntWalk.i64_in _ (by omega)]; omega
          have hKk : k < Z := by omega
          have hKI : Z ≤ I := by omega
          have hh1 := Idx.sam (fun q h1 h2 => HI.out q h1 (by have := HJ.out; omega)) ((HJ.out.2.1.sam (by omega) (by omega)).wide (Nat.le_refl a) (show k + 1 ≤ b by omega))
          obtain ⟨xv, hxv⟩ : ∃ x, h k = x := ⟨_, rfl⟩
          obtain ⟨yv, hyv⟩ : ∃ x, h Z = x := ⟨_, rfl⟩
          have HX := hid hxv
          have HY := hid hyv
          have l0 := HJ.out.1.at (i := k) (by omega)
          have l1 := HJ.out.1.at (i := Z) (by omega)
          rw [hxv] at l0
          rw [hyv] at l1
          have f0 := HJ.out.1.frozen k
          have f1 := HJ.out.1.frozen Z
          have m0 := (HJ.out.1.set k yv).at (i := Z) (by omega)
          have m1 := (HJ.out.1.set k yv).frozen Z
          have b0 : (0 : Int) ≤ (k : Int) := by omega
          have b1 : (k : Int) < (n : Int) := by omega
          have b2 : (0 : Int) ≤ (Z : Int) := by omega
          have b3 : (Z : Int) < (n : Int) := by omega
          clear hxv hyv hK0 hh1
          go_upto_region 11 with fail
          refine region_two 15 17 (fun jx => ([61, 62, 63, 64, 65, 66, 67, 68, 69, 70, 71, 72, 73, 74, 75, 0, 76, 0] : List Nat).getD jx 0) [61, 62, 63, 64, 65, 66, 67, 68, 69, 70, 71, 72, 73, 74, 75, 76] (fun jx => [9, 13].elem jx) (fun jx => ([.slice (some ⟨g, 0, none⟩) n cap, .int .i64 (k : Nat), .slice (some ⟨g, 0, none⟩) n cap, .int .i64 (k : Nat), .int .i64 (Z : Nat), .slice (some ⟨g, 0, none⟩) n cap, .int .i64 (k : Nat), .int .i64 (Z : Nat), .pointer (some ⟨g, Z, none⟩), .int .i64 yv, .slice (some ⟨g, 0, none⟩) n cap, .int .i64 (k : Nat), .pointer (some ⟨g, k, none⟩), .int .i64 xv, .pointer (some ⟨g, k, none⟩), undef, .pointer (some ⟨g, Z, none⟩), undef] : List Value).getD jx undef) (wr.drew.setCell ⟨g, k, none⟩ (.int .i64 yv)) ((wr.drew.setCell ⟨g, k, none⟩ (.int .i64 yv)).setCell ⟨g, Z, none⟩ (.int .i64 xv)) rfl (by kernel_rfl) (by kernel_rfl) (by simp) ?_ ?_ ?_ ?_
          · intro io oo ac Wz hio q1 q2 hj hbase hw hdep K hK
            have e0 : ac.tmps.getD 0 undef = .slice (some ⟨g, 0, none⟩) n cap := hbase 0 (by decide)
            have e13 : ac.tmps.getD 13 undef = .int .i64 (k : Nat) := hbase 13 (by decide)
            replace hio : io < 18 := hio
            obtain rfl | rfl | rfl | rfl | rfl | rfl | rfl | rfl | rfl | rfl | rfl | rfl | rfl | rfl | rfl | rfl | rfl | rfl : io = 0 ∨ io = 1 ∨ io = 2 ∨ io = 3 ∨ io = 4 ∨ io = 5 ∨ io = 6 ∨ io = 7 ∨ io = 8 ∨ io = 9 ∨ io = 10 ∨ io = 11 ∨ io = 12 ∨ io = 13 ∨ io = 14 ∨ io = 15 ∨ io = 16 ∨ io = 17 := by omega
            all_goals (injection hj with hj; subst hj)
            · refine wpOp_of rfl rfl ?_
              go_simp
              exact hK
            · refine wpOp_of rfl rfl ?_
              go_simp
              exact hK
            · refine wpOp_of rfl rfl ?_
              go_simp
              exact hK
            · refine wpOp_of rfl rfl ?_
              go_simp
              exact hK
            · have d64 : ac.tmps.getD 64 undef = .int .i64 (k : Nat) := hdep ⟨3, .data⟩ (by simp) rfl (by decide) (by decide)
              refine wpOp_of rfl rfl ?_
              go_simp
              exact hK
            · refine wpOp_of rfl rfl ?_
              go_simp
              exact hK
            · refine wpOp_of rfl rfl ?_
              go_simp
              exact hK
            · have d67 : ac.tmps.getD 67 undef = .int .i64 (k : Nat) := hdep ⟨6, .data⟩ (by simp) rfl (by decide) (by decide)
              refine wpOp_of rfl rfl ?_
              go_simp
              exact hK
            · have d66 : ac.tmps.getD 66 undef = .slice (some ⟨g, 0, none⟩) n cap := hdep ⟨5, .data⟩ (by simp) rfl (by decide) (by decide)
              have d68 : ac.tmps.getD 68 undef = .int .i64 (Z : Nat) := hdep ⟨7, .data⟩ (by simp) rfl (by decide) (by decide)
              refine wpOp_of rfl rfl ?_
              go_simp
              exact hK
            · have hw := hw rfl
              subst hw
              have d69 : ac.tmps.getD 69 undef = .pointer (some ⟨g, Z, none⟩) := hdep ⟨8, .data⟩ (by simp) rfl (by decide) (by decide)
              refine wpOp_of rfl rfl ?_
              go_simp
              exact hK
            · refine wpOp_of rfl rfl ?_
              go_simp
              exact hK
            · refine wpOp_of rfl rfl ?_
              go_simp
              exact hK
            · have d71 : ac.tmps.getD 71 undef = .slice (some ⟨g, 0, none⟩) n cap := hdep ⟨10, .data⟩ (by simp) rfl (by decide) (by decide)
              have d72 : ac.tmps.getD 72 undef = .int .i64 (k : Nat) := hdep ⟨11, .data⟩ (by simp) rfl (by decide) (by decide)
              refine wpOp_of rfl rfl ?_
              go_simp
              exact hK
            · have hw := hw rfl
              subst hw
              have d73 : ac.tmps.getD 73 undef = .pointer (some ⟨g, k, none⟩) := hdep ⟨12, .data⟩ (by simp) rfl (by decide) (by decide)
              refine wpOp_of rfl rfl ?_
              go_simp
              exact hK
            · have d61 : ac.tmps.getD 61 undef = .slice (some ⟨g, 0, none⟩) n cap := hdep ⟨0, .data⟩ (by simp) rfl (by decide) (by decide)
              have d62 : ac.tmps.getD 62 undef = .int .i64 (k : Nat) := hdep ⟨1, .data⟩ (by simp) rfl (by decide) (by decide)
              refine wpOp_of rfl rfl ?_
              go_simp
              exact hK
            · exact absurd rfl q1
            · have d63 : ac.tmps.getD 63 undef = .slice (some ⟨g, 0, none⟩) n cap := hdep ⟨2, .data⟩ (by simp) rfl (by decide) (by decide)
              have d65 : ac.tmps.getD 65 undef = .int .i64 (Z : Nat) := hdep ⟨4, .data⟩ (by simp) rfl (by decide) (by decide)
              refine wpOp_of rfl rfl ?_
              go_simp
              exact hK
            · exact absurd rfl q2
          · intro oo ac hj hbase hdep K hK
            injection hj with hj
            subst hj
            have d75 : ac.tmps.getD 75 undef = .pointer (some ⟨g, k, none⟩) := hdep ⟨14, .data⟩ (by simp) rfl (by decide) (by decide)
            have d70 : ac.tmps.getD 70 undef = .int .i64 yv := hdep ⟨9, .data⟩ (by simp) rfl (by decide) (by decide)
            refine wpOp_of rfl rfl ?_
            go_simp
            exact hK
          · intro oo ac hj hbase hdep K hK
            injection hj with hj
            subst hj
            have d76 : ac.tmps.getD 76 undef = .pointer (some ⟨g, Z, none⟩) := hdep ⟨16, .data⟩ (by simp) rfl (by decide) (by decide)
            have d74 : ac.tmps.getD 74 undef = .int .i64 xv := hdep ⟨13, .data⟩ (by simp) rfl (by decide) (by decide)
            refine wpOp_of rfl rfl ?_
            go_simp
            exact hK
          · intro ac ha _
            simp only [List.map_cons, List.map_nil, Act.puts] at ha
            generalize ac.tmps.getD 61 undef = y61 at ha
            generalize ac.tmps.getD 62 undef = y62 at ha
            generalize ac.tmps.getD 63 undef = y63 at ha
            generalize ac.tmps.getD 64 undef = y64 at ha
            generalize ac.tmps.getD 65 undef = y65 at ha
            generalize ac.tmps.getD 66 undef = y66 at ha
            generalize ac.tmps.getD 67 undef = y67 at ha
            generalize ac.tmps.getD 68 undef = y68 at ha
            generalize ac.tmps.getD 69 undef = y69 at ha
            generalize ac.tmps.getD 70 undef = y70 at ha
            generalize ac.tmps.getD 71 undef = y71 at ha
            generalize ac.tmps.getD 72 undef = y72 at ha
            generalize ac.tmps.getD 73 undef = y73 at ha
            generalize ac.tmps.getD 74 undef = y74 at ha
            generalize ac.tmps.getD 75 undef = y75 at ha
            generalize ac.tmps.getD 76 undef = y76 at ha
            simp only [Act.put, List.setIfInBounds_toArray, List.set_cons_zero, List.set_cons_succ] at ha
            subst ha
            obtain ⟨W, hW⟩ : ∃ W, ((wr.drew.setCell ⟨g, k, none⟩ (.int .i64 yv)).setCell ⟨g, Z, none⟩ (.int .i64 xv)) = W := ⟨_, rfl⟩
            rw [hW]
            have HN : Hid (RowF W g n (swp h k Z) ∧ Rot a (a + 1) (Z + 1) f (swp h k Z) ∧ Exc (fun k => k = g) w W) := hid (by
              rw [← hW]
              have hkK := HK.out
              refine ⟨?_, ?_, ((HJ.out.2.2.drew).setCell (p := ⟨g, k, none⟩) (Or.inl rfl) _).setCell (p := ⟨g, Z, none⟩) (Or.inl rfl) _⟩
              · have := (HJ.out.1.drew.set k yv).set Z xv
                refine this.congr (fun p _ => ?_)
                rw [← HX.out, ← HY.out]
                unfold upd swp
                by_cases e1 : p = Z
                · rw [if_pos e1, if_neg (by omega), if_pos e1]
                · rw [if_neg e1]
                  by_cases e2 : p = k
                  · rw [if_pos e2, if_pos e2]
                  · rw [if_neg e2, if_neg e2, if_neg e1]
              · rw [← hkK]; exact HJ.out.2.1.up hak)
            clear hW l0 l1 f0 f1 m0 m1
            go_wp2_with fail
            have hkK := HK.out
            exact ⟨⟨Z, by omega, by omega, by go_num, swp h k Z, HN⟩, by simp [intOf]; omega⟩
        · have : k = I := by omega
          subst this
          have HF : Hid (Mrg (keyL L) a b f h) := hid (by
            have e1 := H1.out
            have e2 := HIi.out
            subst e1
            subst e2
            exact Mrg.one_left HP.out (by omega) (by omega) HH.out.2.1 (fun j h1 h2 => by have := HH.out.2.2.1 j h1 h2; omega) HJ.out.2.1)
          go_wp2_with fail
          refine bodyPost_end (results_none rfl _ _ _) rfl ?_
          exact ⟨rfl, h, HJ.out.1, HF.out, HJ.out.2.2⟩
end Go.Proofs.Ythfoggbaoafpjaa
