/-
  The walk of the library's insertionSortCmpFunc at the cars' indices: from a to b sorted by the cars' blocks, and then by themselves. Conditions: the indices are cars' and rise from a to b.
-/
import Derived.Test.YthfoggbaoafpjaaCmp
namespace Go.Proofs.Ythfoggbaoafpjaa
open Go.RowKit
/-- From a to b: indices of cars. -/
def Idx (m : Nat) (f : Nat → Int) (a b : Nat) : Prop := ∀ i, a ≤ i → i < b → 0 ≤ f i ∧ f i < (m : Int)
theorem Idx.nat {m : Nat} {f : Nat → Int} {a b i : Nat} (h : Idx m f a b) (h1 : a ≤ i) (h2 : i < b) : ∃ x : Nat, f i = x ∧ x < m := ⟨(f i).toNat, by have := h i h1 h2; omega, by have := h i h1 h2; omega⟩
theorem Idx.sam {m : Nat} {f g : Nat → Int} {a b : Nat} (h : Idx m f a b) (hs : Sam a b f g) : Idx m g a b := hs.all (p := fun x => 0 ≤ x ∧ x < (m : Int)) h
set_option maxHeartbeats 8000000 in
theorem insSort_any (L : List Car) (A : Option Addr) (c cb g n cap a b : Nat) (f : Nat → Int) (w : World) (hE : Env L A c cb g w) (hR : RowF w g n f) (hi : Idx L.length f a b) (hinc : ∀ i j, a ≤ i → i < j → j < b → f i < f j) (hab : a ≤ b) (hbn : b ≤ n) (hn : n ≤ 100000) :
    Calls Try.prog 80 #[.slice (some ⟨g, 0, none⟩) n cap, .int .i64 a, .int .i64 b, cloV cb] w (RowP w g n (Mrg (keyL L) a b f)) := by
  have HR := hid hR
  have HE := hid hE
  have HI := hid hi
  have HINC := hid hinc
  clear hR hE hi hinc
  unfold cloV
  go_enter Try.func80, Try.ntmps80
  go_wp2_with fail
  go_loopw [8] (fun s8 wr => ∃ i : Nat, a + 1 ≤ i ∧ (i = a + 1 ∨ i ≤ b) ∧ s8 = .int .i64 i ∧ ∃ h : Nat → Int, Hid (RowF wr g n h ∧ Sam a i f h ∧ Srt (keyL L) h a i ∧ (i = a + 1 → ∀ p, h p = f p) ∧ Exc (fun k => k = g) w wr)) (fun s8 _ => b + 1 - (intOf s8).toNat)
  case atStart => exact ⟨a + 1, Nat.le_refl _, Or.inl rfl, by go_num, f, hid ⟨HR.out, Sam.refl _ _ _, fun i j h1 h2 h3 => by omega, fun _ _ => rfl, Exc.refl _ _⟩⟩
  case round =>
    obtain ⟨i, hai, hib, rfl, h, HH⟩ := hrel
    by_cases hlt : i < b
    · have HST : Hid (Ins (keyL L) a i i (h i) h h) := hid (Ins.start (by omega) HH.out.2.2.1 (fun p h1 h2 => by
        have e1 : h i = f i := HH.out.2.1.out i (by omega)
        obtain ⟨q, h3, h4, h5⟩ := HH.out.2.1.bwd p h1 h2
        rw [e1, ← h5]
        exact HINC.out q i h3 h4 hlt))
      have HIX : Hid (Idx L.length h a (i + 1)) := hid (fun q h1 h2 => by
        by_cases e : q = i
        · subst e; rw [HH.out.2.1.out q (by omega)]; exact HI.out q h1 hlt
        · exact (Idx.sam (fun r h3 h4 => HI.out r h3 (by omega)) HH.out.2.1) q h1 (by omega))
      go_wp2_with fail
      go_loopw [9] (fun s9 wv => ∃ j : Nat, a ≤ j ∧ j ≤ i ∧ s9 = .int .i64 j ∧ ∃ h' : Nat → Int, Hid (RowF wv g n h' ∧ Ins (keyL L) a i j (h i) h h' ∧ Exc (fun k => k = g) w wv)) (fun s9 _ => (intOf s9).toNat)
      case atStart => exact ⟨i, by omega, Nat.le_refl _, rfl, h, hid ⟨HH.out.1, HST.out, HH.out.2.2.2.2⟩⟩
      case round =>
        obtain ⟨j, haj, hji, rfl, h', HJ⟩ := hrel
        clear HST
        rcases (by omega : j = a ∨ a < j) with rfl | hgt
        · have k0 : decide (j < j) = false := by simp
          go_upto_region 4 with fail
          refine region_makes [18, 19, 20, 21, 22, 23, 24, 25, 26, 27, 28, 29, 30, 31, 32, 33, 34] (fun jx vx _ => [4, 5, 6, 7, 8, 9, 10, 11, 12, 13, 14, 15].elem jx = true ∨ vx = ([.int .i64 (j : Nat), .int .i64 (j : Nat), .bool false, .bool false, undef, undef, undef, undef, undef, undef, undef, undef, undef, undef, undef, undef, .bool false] : List Value).getD jx undef) (fun _ => false) rfl (by kernel_rfl) rfl (by decide) (by simp) (fun _ _ _ _ h _ => h) (fun _ _ _ _ h _ => by cases h) ?_ ?_
          · intro io oo ac wz hj hbase hT hdep hx1 hx2 K hK'
            have hK : ∀ v w2, Below wz.heap.size wz w2 → ( [4, 5, 6, 7, 8, 9, 10, 11, 12, 13, 14, 15].elem io = true ∨ v = ([.int .i64 (j : Nat), .int .i64 (j : Nat), .bool false, .bool false, undef, undef, undef, undef, undef, undef, undef, undef, undef, undef, undef, undef, .bool false] : List Value).getD io undef) → K (ac.put (some (([18, 19, 20, 21, 22, 23, 24, 25, 26, 27, 28, 29, 30, 31, 32, 33, 34] : List Nat).getD io 0)) v) w2 := fun v w2 h1 h2 => hK' v w2 h1 h2 (fun h => by cases h)
            clear hK' hx1 hx2
            have hB := Below.refl wz.heap.size wz
            have e0 : ac.tmps.getD 0 undef = .slice (some ⟨g, 0, none⟩) n cap := hbase 0 (by decide)
            have e1 : ac.tmps.getD 1 undef = .int .i64 (j : Nat) := hbase 1 (by decide)
            have e3 : ac.tmps.getD 3 undef = .func (.func 54) #[] #[.pointer (some ⟨cb, 0, none⟩)] := hbase 3 (by decide)
            have e9 : ac.tmps.getD 9 undef = .int .i64 (j : Nat) := hbase 9 (by decide)
            have hio : io < 17 := (Array.getElem?_eq_some_iff.1 hj).1
            obtain rfl | rfl | rfl | rfl | rfl | rfl | rfl | rfl | rfl | rfl | rfl | rfl | rfl | rfl | rfl | rfl | rfl : io = 0 ∨ io = 1 ∨ io = 2 ∨ io = 3 ∨ io = 4 ∨ io = 5 ∨ io = 6 ∨ io = 7 ∨ io = 8 ∨ io = 9 ∨ io = 10 ∨ io = 11 ∨ io = 12 ∨ io = 13 ∨ io = 14 ∨ io = 15 ∨ io = 16 := by omega
            all_goals (injection hj with hj; subst hj; clear hio)
            · refine wpOp_of rfl rfl ?_
              go_simp
              exact hK _ _ hB (Or.inr rfl)
            · refine wpOp_of rfl rfl ?_
              go_simp
              exact hK _ _ hB (Or.inr rfl)
            · have d18 : ac.tmps.getD 18 undef = .int .i64 (j : Nat) := (hdep ⟨0, .data⟩ (by simp) rfl).resolve_left (by decide)
              have d19 : ac.tmps.getD 19 undef = .int .i64 (j : Nat) := (hdep ⟨1, .data⟩ (by simp) rfl).resolve_left (by decide)
              refine wpOp_of rfl rfl ?_
              go_simp
              exact hK _ _ hB (Or.inr rfl)
            · have d20 : ac.tmps.getD 20 undef = .bool false := (hdep ⟨2, .data⟩ (by simp) rfl).resolve_left (by decide)
              refine wpOp_of rfl rfl ?_
              go_simp
              exact hK _ _ hB (Or.inr rfl)
            · have dg : ac.tmps.getD 21 undef = .bool false := (hdep ⟨3, .guard⟩ (by simp) rfl).resolve_left (by decide)
              exact wpOp_if rfl rfl rfl rfl dg (fun h => absurd h (by decide)) (fun _ => hK _ _ hB (Or.inl rfl))
            · have dg : ac.tmps.getD 21 undef = .bool false := (hdep ⟨3, .guard⟩ (by simp) rfl).resolve_left (by decide)
              exact wpOp_if rfl rfl rfl rfl dg (fun h => absurd h (by decide)) (fun _ => hK _ _ hB (Or.inl rfl))
            · have dg : ac.tmps.getD 21 undef = .bool false := (hdep ⟨3, .guard⟩ (by simp) rfl).resolve_left (by decide)
              exact wpOp_if rfl rfl rfl rfl dg (fun h => absurd h (by decide)) (fun _ => hK _ _ hB (Or.inl rfl))
            · have dg : ac.tmps.getD 21 undef = .bool false := (hdep ⟨3, .guard⟩ (by simp) rfl).resolve_left (by decide)
              exact wpOp_if rfl rfl rfl rfl dg (fun h => absurd h (by decide)) (fun _ => hK _ _ hB (Or.inl rfl))
            · have dg : ac.tmps.getD 21 undef = .bool false := (hdep ⟨3, .guard⟩ (by simp) rfl).resolve_left (by decide)
              exact wpOp_if rfl rfl rfl rfl dg (fun h => absurd h (by decide)) (fun _ => hK _ _ hB (Or.inl rfl))
            · have dg : ac.tmps.getD 21 undef = .bool false := (hdep ⟨3, .guard⟩ (by simp) rfl).resolve_left (by decide)
              exact wpOp_if rfl rfl rfl rfl dg (fun h => absurd h (by decide)) (fun _ => hK _ _ hB (Or.inl rfl))
            · have dg : ac.tmps.getD 21 undef = .bool false := (hdep ⟨3, .guard⟩ (by simp) rfl).resolve_left (by decide)
              exact wpOp_if rfl rfl rfl rfl dg (fun h => absurd h (by decide)) (fun _ => hK _ _ hB (Or.inl rfl))
            · have dg : ac.tmps.getD 21 undef = .bool false := (hdep ⟨3, .guard⟩ (by simp) rfl).resolve_left (by decide)
              exact wpOp_if rfl rfl rfl rfl dg (fun h => absurd h (by decide)) (fun _ => hK _ _ hB (Or.inl rfl))
            · have dg : ac.tmps.getD 21 undef = .bool false := (hdep ⟨3, .guard⟩ (by simp) rfl).resolve_left (by decide)
              exact wpOp_if rfl rfl rfl rfl dg (fun h => absurd h (by decide)) (fun _ => hK _ _ hB (Or.inl rfl))
            · have dg : ac.tmps.getD 21 undef = .bool false := (hdep ⟨3, .guard⟩ (by simp) rfl).resolve_left (by decide)
              exact wpOp_if rfl rfl rfl rfl dg (fun h => absurd h (by decide)) (fun _ => hK _ _ hB (Or.inl rfl))
            · have dg : ac.tmps.getD 21 undef = .bool false := (hdep ⟨3, .guard⟩ (by simp) rfl).resolve_left (by decide)
              exact wpOp_if rfl rfl rfl rfl dg (fun h => absurd h (by decide)) (fun _ => hK _ _ hB (Or.inl rfl))
            · have dg : ac.tmps.getD 21 undef = .bool false := (hdep ⟨3, .guard⟩ (by simp) rfl).resolve_left (by decide)
              exact wpOp_if rfl rfl rfl rfl dg (fun h => absurd h (by decide)) (fun _ => hK _ _ hB (Or.inl rfl))
            · have d21 : ac.tmps.getD 21 undef = .bool false := (hdep ⟨3, .data⟩ (by simp) rfl).resolve_left (by decide)
              refine wpOp_of rfl rfl ?_
              go_simp
              exact hK _ _ hB (Or.inr rfl)
          · intro ac wz ha hT hv
            have v18 : ac.tmps.getD 18 undef = .int .i64 (j : Nat) := (hv 0 (by decide)).resolve_left (by decide)
            have v19 : ac.tmps.getD 19 undef = .int .i64 (j : Nat) := (hv 1 (by decide)).resolve_left (by decide)
            have v20 : ac.tmps.getD 20 undef = .bool false := (hv 2 (by decide)).resolve_left (by decide)
            have v21 : ac.tmps.getD 21 undef = .bool false := (hv 3 (by decide)).resolve_left (by decide)
            have v34 : ac.tmps.getD 34 undef = .bool false := (hv 16 (by decide)).resolve_left (by decide)
            clear hv
            simp only [List.map_cons, List.map_nil, Act.puts] at ha
            generalize ac.tmps.getD 18 undef = y18 at ha v18
            generalize ac.tmps.getD 19 undef = y19 at ha v19
            generalize ac.tmps.getD 20 undef = y20 at ha v20
            generalize ac.tmps.getD 21 undef = y21 at ha v21
            generalize ac.tmps.getD 22 undef = y22 at ha
            generalize ac.tmps.getD 23 undef = y23 at ha
            generalize ac.tmps.getD 24 undef = y24 at ha
            generalize ac.tmps.getD 25 undef = y25 at ha
            generalize ac.tmps.getD 26 undef = y26 at ha
            generalize ac.tmps.getD 27 undef = y27 at ha
            generalize ac.tmps.getD 28 undef = y28 at ha
            generalize ac.tmps.getD 29 undef = y29 at ha
            generalize ac.tmps.getD 30 undef = y30 at ha
            generalize ac.tmps.getD 31 undef = y31 at ha
            generalize ac.tmps.getD 32 undef = y32 at ha
            generalize ac.tmps.getD 33 undef = y33 at ha
            generalize ac.tmps.getD 34 undef = y34 at ha v34
            simp only [Act.put, List.setIfInBounds_toArray, List.set_cons_zero, List.set_cons_succ] at ha
            subst ha
            subst v18 v19 v20 v21 v34
            have HF : Hid (RowF wz g n h' ∧ Sam j (i + 1) h h' ∧ Srt (keyL L) h' j (i + 1) ∧ Exc (fun k => k = g) w wz) := hid ⟨HJ.out.1.keep (hT.mono (Nat.le_refl _)), (HJ.out.2.1.fin (Or.inl rfl)).1, (HJ.out.2.1.fin (Or.inl rfl)).2, HJ.out.2.2.trans (Exc.of_below hT)⟩
            clear hT
            go_wp2_with fail
            exact ⟨⟨i + 1, by omega, by omega, by go_num, h', hid ⟨HF.out.1, (HH.out.2.1.wide (Nat.le_refl _) (Nat.le_succ _)).trans HF.out.2.1, HF.out.2.2.1, fun e => by omega, HF.out.2.2.2⟩⟩, by simp [intOf]; omega⟩
        · obtain ⟨J, hJ⟩ : ∃ J, j - 1 = J := ⟨_, rfl⟩
          obtain ⟨xn, hx, hxl⟩ := Idx.nat (Idx.sam HIX.out HJ.out.2.1.sam) (i := j) (by omega) (by omega)
          obtain ⟨yn, hy, hyl⟩ := Idx.nat (Idx.sam HIX.out HJ.out.2.1.sam) (i := J) (by omega) (by omega)
          have k0 : decide (a < j) = true := by simpa using hgt
          have wj : IntKind.i64.wrap ((j : Int) - 1) = (J : Int) := by rw [IntWalk.i64_in _ (by omega)]; omega
          have b0 : (0 : Int) ≤ (j : Int) := by omega
          have b1 : (j : Int) < (n : Int) := by omega
          have b2 : (0 : Int) ≤ (J : Int) := by omega
          have b3 : (J : Int) < (n : Int) := by omega
          obtain ⟨r, hr⟩ : ∃ r, cmpI (keyL L xn) (keyL L yn) = r := ⟨_, rfl⟩
          obtain ⟨B, hB⟩ : ∃ B, decide (r < 0) = B := ⟨_, rfl⟩
          have HC := hid (fun (W : World) (hb : Below wr.heap.size wr W) => clo_any L A c cb g xn yn W ((HE.out.exc HJ.out.2.2).below hb) hxl hyl)
          rw [hr] at HC
          have HX := hid hx
          have HY := hid hy
          have HRR := hid (And.intro hr hB)
          have HJ1 := hid hJ
          clear hx hy hr hJ
          go_upto_region 4 with fail
          refine region_makes [18, 19, 20, 21, 22, 23, 24, 25, 26, 27, 28, 29, 30, 31, 32, 33, 34] (fun jx vx _ => vx = ([.int .i64 (j : Nat), .int .i64 (a : Nat), .bool true, .bool true, .func (.func 54) #[] #[.pointer (some ⟨cb, 0, none⟩)], .slice (some ⟨g, 0, none⟩) n cap, .int .i64 (j : Nat), .pointer (some ⟨g, j, none⟩), .int .i64 (xn : Nat), .slice (some ⟨g, 0, none⟩) n cap, .int .i64 (j : Nat), .int .i64 (J : Nat), .pointer (some ⟨g, J, none⟩), .int .i64 (yn : Nat), .int .i64 r, .bool B, .bool B] : List Value).getD jx undef) (fun _ => false) rfl (by kernel_rfl) rfl (by decide) (by simp) (fun _ _ _ _ h _ => h) (fun _ _ _ _ h _ => by cases h) ?_ ?_
          · intro io oo ac wz hj hbase hT hdep hx1 hx2 K hK'
            have hK : ∀ v w2, Below wz.heap.size wz w2 → ( v = ([.int .i64 (j : Nat), .int .i64 (a : Nat), .bool true, .bool true, .func (.func 54) #[] #[.pointer (some ⟨cb, 0, none⟩)], .slice (some ⟨g, 0, none⟩) n cap, .int .i64 (j : Nat), .pointer (some ⟨g, j, none⟩), .int .i64 (xn : Nat), .slice (some ⟨g, 0, none⟩) n cap, .int .i64 (j : Nat), .int .i64 (J : Nat), .pointer (some ⟨g, J, none⟩), .int .i64 (yn : Nat), .int .i64 r, .bool B, .bool B] : List Value).getD io undef) → K (ac.put (some (([18, 19, 20, 21, 22, 23, 24, 25, 26, 27, 28, 29, 30, 31, 32, 33, 34] : List Nat).getD io 0)) v) w2 := fun v w2 h1 h2 => hK' v w2 h1 h2 (fun h => by cases h)
            clear hK' hx1 hx2
            have hB := Below.refl wz.heap.size wz
            have e0 : ac.tmps.getD 0 undef = .slice (some ⟨g, 0, none⟩) n cap := hbase 0 (by decide)
            have e1 : ac.tmps.getD 1 undef = .int .i64 (a : Nat) := hbase 1 (by decide)
            have e3 : ac.tmps.getD 3 undef = .func (.func 54) #[] #[.pointer (some ⟨cb, 0, none⟩)] := hbase 3 (by decide)
            have e9 : ac.tmps.getD 9 undef = .int .i64 (j : Nat) := hbase 9 (by decide)
            have l0 := (HJ.out.1.keep hT).at (i := j) (by omega)
            rw [HX.out] at l0
            have l1 := (HJ.out.1.keep hT).at (i := J) (by omega)
            rw [HY.out] at l1
            have hio : io < 17 := (Array.getElem?_eq_some_iff.1 hj).1
            obtain rfl | rfl | rfl | rfl | rfl | rfl | rfl | rfl | rfl | rfl | rfl | rfl | rfl | rfl | rfl | rfl | rfl : io = 0 ∨ io = 1 ∨ io = 2 ∨ io = 3 ∨ io = 4 ∨ io = 5 ∨ io = 6 ∨ io = 7 ∨ io = 8 ∨ io = 9 ∨ io = 10 ∨ io = 11 ∨ io = 12 ∨ io = 13 ∨ io = 14 ∨ io = 15 ∨ io = 16 := by omega
            all_goals (injection hj with hj; subst hj; clear hio)
            · refine wpOp_of rfl rfl ?_
              go_simp
              exact hK _ _ hB rfl
            · refine wpOp_of rfl rfl ?_
              go_simp
              exact hK _ _ hB rfl
            · have d18 : ac.tmps.getD 18 undef = .int .i64 (j : Nat) := (hdep ⟨0, .data⟩ (by simp) rfl)
              have d19 : ac.tmps.getD 19 undef = .int .i64 (a : Nat) := (hdep ⟨1, .data⟩ (by simp) rfl)
              refine wpOp_of rfl rfl ?_
              go_simp
              exact hK _ _ hB rfl
            · have d20 : ac.tmps.getD 20 undef = .bool true := (hdep ⟨2, .data⟩ (by simp) rfl)
              refine wpOp_of rfl rfl ?_
              go_simp
              exact hK _ _ hB rfl
            · have dg : ac.tmps.getD 21 undef = .bool true := (hdep ⟨3, .guard⟩ (by simp) rfl)
              refine wpOp_if rfl rfl rfl rfl dg (fun _ => ?_) (fun h => absurd rfl h)
              go_simp
              exact hK _ _ hB rfl
            · have dg : ac.tmps.getD 21 undef = .bool true := (hdep ⟨3, .guard⟩ (by simp) rfl)
              refine wpOp_if rfl rfl rfl rfl dg (fun _ => ?_) (fun h => absurd rfl h)
              go_simp
              exact hK _ _ hB rfl
            · have dg : ac.tmps.getD 21 undef = .bool true := (hdep ⟨3, .guard⟩ (by simp) rfl)
              refine wpOp_if rfl rfl rfl rfl dg (fun _ => ?_) (fun h => absurd rfl h)
              go_simp
              exact hK _ _ hB rfl
            · have dg : ac.tmps.getD 21 undef = .bool true := (hdep ⟨3, .guard⟩ (by simp) rfl)
              refine wpOp_if rfl rfl rfl rfl dg (fun _ => ?_) (fun h => absurd rfl h)
              have d23 : ac.tmps.getD 23 undef = .slice (some ⟨g, 0, none⟩) n cap := (hdep ⟨5, .data⟩ (by simp) rfl)
              have d24 : ac.tmps.getD 24 undef = .int .i64 (j : Nat) := (hdep ⟨6, .data⟩ (by simp) rfl)
              go_simp
              exact hK _ _ hB rfl
            · have dg : ac.tmps.getD 21 undef = .bool true := (hdep ⟨3, .guard⟩ (by simp) rfl)
              refine wpOp_if rfl rfl rfl rfl dg (fun _ => ?_) (fun h => absurd rfl h)
              have d25 : ac.tmps.getD 25 undef = .pointer (some ⟨g, j, none⟩) := (hdep ⟨7, .data⟩ (by simp) rfl)
              go_simp
              exact hK _ _ hB rfl
            · have dg : ac.tmps.getD 21 undef = .bool true := (hdep ⟨3, .guard⟩ (by simp) rfl)
              refine wpOp_if rfl rfl rfl rfl dg (fun _ => ?_) (fun h => absurd rfl h)
              go_simp
              exact hK _ _ hB rfl
            · have dg : ac.tmps.getD 21 undef = .bool true := (hdep ⟨3, .guard⟩ (by simp) rfl)
              refine wpOp_if rfl rfl rfl rfl dg (fun _ => ?_) (fun h => absurd rfl h)
              go_simp
              exact hK _ _ hB rfl
            · have dg : ac.tmps.getD 21 undef = .bool true := (hdep ⟨3, .guard⟩ (by simp) rfl)
              refine wpOp_if rfl rfl rfl rfl dg (fun _ => ?_) (fun h => absurd rfl h)
              have d28 : ac.tmps.getD 28 undef = .int .i64 (j : Nat) := (hdep ⟨10, .data⟩ (by simp) rfl)
              go_simp
              exact hK _ _ hB rfl
            · have dg : ac.tmps.getD 21 undef = .bool true := (hdep ⟨3, .guard⟩ (by simp) rfl)
              refine wpOp_if rfl rfl rfl rfl dg (fun _ => ?_) (fun h => absurd rfl h)
              have d27 : ac.tmps.getD 27 undef = .slice (some ⟨g, 0, none⟩) n cap := (hdep ⟨9, .data⟩ (by simp) rfl)
              have d29 : ac.tmps.getD 29 undef = .int .i64 (J : Nat) := (hdep ⟨11, .data⟩ (by simp) rfl)
              go_simp
              exact hK _ _ hB rfl
            · have dg : ac.tmps.getD 21 undef = .bool true := (hdep ⟨3, .guard⟩ (by simp) rfl)
              refine wpOp_if rfl rfl rfl rfl dg (fun _ => ?_) (fun h => absurd rfl h)
              have d30 : ac.tmps.getD 30 undef = .pointer (some ⟨g, J, none⟩) := (hdep ⟨12, .data⟩ (by simp) rfl)
              go_simp
              exact hK _ _ hB rfl
            · have dg : ac.tmps.getD 21 undef = .bool true := (hdep ⟨3, .guard⟩ (by simp) rfl)
              refine wpOp_if rfl rfl rfl rfl dg (fun _ => ?_) (fun h => absurd rfl h)
              have d22 : ac.tmps.getD 22 undef = .func (.func 54) #[] #[.pointer (some ⟨cb, 0, none⟩)] := (hdep ⟨4, .data⟩ (by simp) rfl)
              have d26 : ac.tmps.getD 26 undef = .int .i64 (xn : Nat) := (hdep ⟨8, .data⟩ (by simp) rfl)
              have d31 : ac.tmps.getD 31 undef = .int .i64 (yn : Nat) := (hdep ⟨13, .data⟩ (by simp) rfl)
              go_simp
              refine (HC.out wz hT).mono ?_
              rintro e w2 ⟨rfl, hb⟩
              exact hK _ _ hb rfl
            · have dg : ac.tmps.getD 21 undef = .bool true := (hdep ⟨3, .guard⟩ (by simp) rfl)
              refine wpOp_if rfl rfl rfl rfl dg (fun _ => ?_) (fun h => absurd rfl h)
              have d32 : ac.tmps.getD 32 undef = .int .i64 r := (hdep ⟨14, .data⟩ (by simp) rfl)
              go_simp
              exact hK _ _ hB rfl
            · have d21 : ac.tmps.getD 21 undef = .bool true := (hdep ⟨3, .data⟩ (by simp) rfl)
              have d33 : ac.tmps.getD 33 undef = .bool B := (hdep ⟨15, .data⟩ (by simp) rfl)
              refine wpOp_of rfl rfl ?_
              go_simp
              exact hK _ _ hB rfl
          · intro ac wz ha hT hv
            have v18 : ac.tmps.getD 18 undef = .int .i64 (j : Nat) := (hv 0 (by decide))
            have v19 : ac.tmps.getD 19 undef = .int .i64 (a : Nat) := (hv 1 (by decide))
            have v20 : ac.tmps.getD 20 undef = .bool true := (hv 2 (by decide))
            have v21 : ac.tmps.getD 21 undef = .bool true := (hv 3 (by decide))
            have v22 : ac.tmps.getD 22 undef = .func (.func 54) #[] #[.pointer (some ⟨cb, 0, none⟩)] := (hv 4 (by decide))
            have v23 : ac.tmps.getD 23 undef = .slice (some ⟨g, 0, none⟩) n cap := (hv 5 (by decide))
            have v24 : ac.tmps.getD 24 undef = .int .i64 (j : Nat) := (hv 6 (by decide))
            have v25 : ac.tmps.getD 25 undef = .pointer (some ⟨g, j, none⟩) := (hv 7 (by decide))
            have v26 : ac.tmps.getD 26 undef = .int .i64 (xn : Nat) := (hv 8 (by decide))
            have v27 : ac.tmps.getD 27 undef = .slice (some ⟨g, 0, none⟩) n cap := (hv 9 (by decide))
            have v28 : ac.tmps.getD 28 undef = .int .i64 (j : Nat) := (hv 10 (by decide))
            have v29 : ac.tmps.getD 29 undef = .int .i64 (J : Nat) := (hv 11 (by decide))
            have v30 : ac.tmps.getD 30 undef = .pointer (some ⟨g, J, none⟩) := (hv 12 (by decide))
            have v31 : ac.tmps.getD 31 undef = .int .i64 (yn : Nat) := (hv 13 (by decide))
            have v32 : ac.tmps.getD 32 undef = .int .i64 r := (hv 14 (by decide))
            have v33 : ac.tmps.getD 33 undef = .bool B := (hv 15 (by decide))
            have v34 : ac.tmps.getD 34 undef = .bool B := (hv 16 (by decide))
            clear hv
            simp only [List.map_cons, List.map_nil, Act.puts] at ha
            generalize ac.tmps.getD 18 undef = y18 at ha v18
            generalize ac.tmps.getD 19 undef = y19 at ha v19
            generalize ac.tmps.getD 20 undef = y20 at ha v20
            generalize ac.tmps.getD 21 undef = y21 at ha v21
            generalize ac.tmps.getD 22 undef = y22 at ha v22
            generalize ac.tmps.getD 23 undef = y23 at ha v23
            generalize ac.tmps.getD 24 undef = y24 at ha v24
            generalize ac.tmps.getD 25 undef = y25 at ha v25
            generalize ac.tmps.getD 26 undef = y26 at ha v26
            generalize ac.tmps.getD 27 undef = y27 at ha v27
            generalize ac.tmps.getD 28 undef = y28 at ha v28
            generalize ac.tmps.getD 29 undef = y29 at ha v29
            generalize ac.tmps.getD 30 undef = y30 at ha v30
            generalize ac.tmps.getD 31 undef = y31 at ha v31
            generalize ac.tmps.getD 32 undef = y32 at ha v32
            generalize ac.tmps.getD 33 undef = y33 at ha v33
            generalize ac.tmps.getD 34 undef = y34 at ha v34
            simp only [Act.put, List.setIfInBounds_toArray, List.set_cons_zero, List.set_cons_succ] at ha
            subst ha
            subst v18 v19 v20 v21 v22 v23 v24 v25 v26 v27 v28 v29 v30 v31 v32 v33 v34
            have HF : Hid (RowF wz g n h' ∧ Exc (fun k => k = g) w wz) := hid ⟨HJ.out.1.keep hT, HJ.out.2.2.trans (Exc.of_below hT)⟩
            clear hT hB HC
            cases B
            · have HN : Hid (Sam a (i + 1) h h' ∧ Srt (keyL L) h' a (i + 1)) := hid (HJ.out.2.1.fin (Or.inr (by
                rw [HJ1.out, HX.out, HY.out, ← cmpI_neg, HRR.out.1]
                simpa using HRR.out.2)))
              go_wp2_with fail
              exact ⟨⟨i + 1, by omega, by omega, by go_num, h', hid ⟨HF.out.1, (HH.out.2.1.wide (Nat.le_refl _) (Nat.le_succ _)).trans HN.out.1, HN.out.2, fun e => by omega, HF.out.2⟩⟩, by simp [intOf]; omega⟩
            · have l0 := HF.out.1.at (i := j) (by omega)
              have l1 := HF.out.1.at (i := J) (by omega)
              rw [HX.out] at l0
              rw [HY.out] at l1
              have f0 := HF.out.1.frozen j
              have f1 := HF.out.1.frozen J
              have m0 := (HF.out.1.set j yn).at (i := J) (by omega)
              have m1 := (HF.out.1.set j yn).frozen J
              go_upto_region 6 with fail
              refine region_two 15 17 (fun jx => ([37, 38, 39, 40, 41, 42, 43, 44, 45, 46, 47, 48, 49, 50, 51, 0, 52, 0] : List Nat).getD jx 0) [37, 38, 39, 40, 41, 42, 43, 44, 45, 46, 47, 48, 49, 50, 51, 52] (fun jx => [9, 13].elem jx) (fun jx => ([.slice (some ⟨g, 0, none⟩) n cap, .int .i64 (j : Nat), .slice (some ⟨g, 0, none⟩) n cap, .int .i64 (j : Nat), .int .i64 (J : Nat), .slice (some ⟨g, 0, none⟩) n cap, .int .i64 (j : Nat), .int .i64 (J : Nat), .pointer (some ⟨g, J, none⟩), .int .i64 (yn : Nat), .slice (some ⟨g, 0, none⟩) n cap, .int .i64 (j : Nat), .pointer (some ⟨g, j, none⟩), .int .i64 (xn : Nat), .pointer (some ⟨g, j, none⟩), undef, .pointer (some ⟨g, J, none⟩), undef] : List Value).getD jx undef) (wz.drew.setCell ⟨g, j, none⟩ (.int .i64 (yn : Nat))) ((wz.drew.setCell ⟨g, j, none⟩ (.int .i64 (yn : Nat))).setCell ⟨g, J, none⟩ (.int .i64 (xn : Nat))) rfl (by kernel_rfl) (by kernel_rfl) (by simp) ?_ ?_ ?_ ?_
              · intro io oo ac Wz hio q1 q2 hj hbase hw hdep K hK
                have e0 : ac.tmps.getD 0 undef = .slice (some ⟨g, 0, none⟩) n cap := hbase 0 (by decide)
                have e9 : ac.tmps.getD 9 undef = .int .i64 (j : Nat) := hbase 9 (by decide)
                replace hio : io < 18 := hio
                obtain rfl | rfl | rfl | rfl | rfl | rfl | rfl | rfl | rfl | rfl | rfl | rfl | rfl | rfl | rfl | rfl | rfl | rfl : io = 0 ∨ io = 1 ∨ io = 2 ∨ io = 3 ∨ io = 4 ∨ io = 5 ∨ io = 6 ∨ io = 7 ∨ io = 8 ∨ io = 9 ∨ io = 10 ∨ io = 11 ∨ io = 12 ∨ io = 13 ∨ io = 14 ∨ io = 15 ∨ io = 16 ∨ io = 17 := by omega
                all_goals (injection hj with hj; subst hj)
                · refine wpOp_of rfl rfl ?_
                  go_simp
                  exact hK
                · refine wpOp_of rfl rfl ?_
                  go_simp
                  exact hK
                · refine wpOp_of rfl rfl ?_
                  go_simp
                  exact hK
                · refine wpOp_of rfl rfl ?_
                  go_simp
                  exact hK
                · have d40 : ac.tmps.getD 40 undef = .int .i64 (j : Nat) := hdep ⟨3, .data⟩ (by simp) rfl (by decide) (by decide)
                  refine wpOp_of rfl rfl ?_
                  go_simp
                  exact hK
                · refine wpOp_of rfl rfl ?_
                  go_simp
                  exact hK
                · refine wpOp_of rfl rfl ?_
                  go_simp
                  exact hK
                · have d43 : ac.tmps.getD 43 undef = .int .i64 (j : Nat) := hdep ⟨6, .data⟩ (by simp) rfl (by decide) (by decide)
                  refine wpOp_of rfl rfl ?_
                  go_simp
                  exact hK
                · have d42 : ac.tmps.getD 42 undef = .slice (some ⟨g, 0, none⟩) n cap := hdep ⟨5, .data⟩ (by simp) rfl (by decide) (by decide)
                  have d44 : ac.tmps.getD 44 undef = .int .i64 (J : Nat) := hdep ⟨7, .data⟩ (by simp) rfl (by decide) (by decide)
                  refine wpOp_of rfl rfl ?_
                  go_simp
                  exact hK
                · have hw := hw rfl
                  subst hw
                  have d45 : ac.tmps.getD 45 undef = .pointer (some ⟨g, J, none⟩) := hdep ⟨8, .data⟩ (by simp) rfl (by decide) (by decide)
                  refine wpOp_of rfl rfl ?_
                  go_simp
                  exact hK
                · refine wpOp_of rfl rfl ?_
                  go_simp
                  exact hK
                · refine wpOp_of rfl rfl ?_
                  go_simp
                  exact hK
                · have d47 : ac.tmps.getD 47 undef = .slice (some ⟨g, 0, none⟩) n cap := hdep ⟨10, .data⟩ (by simp) rfl (by decide) (by decide)
                  have d48 : ac.tmps.getD 48 undef = .int .i64 (j : Nat) := hdep ⟨11, .data⟩ (by simp) rfl (by decide) (by decide)
                  refine wpOp_of rfl rfl ?_
                  go_simp
                  exact hK
                · have hw := hw rfl
                  subst hw
                  have d49 : ac.tmps.getD 49 undef = .pointer (some ⟨g, j, none⟩) := hdep ⟨12, .data⟩ (by simp) rfl (by decide) (by decide)
                  refine wpOp_of rfl rfl ?_
                  go_simp
                  exact hK
                · have d37 : ac.tmps.getD 37 undef = .slice (some ⟨g, 0, none⟩) n cap := hdep ⟨0, .data⟩ (by simp) rfl (by decide) (by decide)
                  have d38 : ac.tmps.getD 38 undef = .int .i64 (j : Nat) := hdep ⟨1, .data⟩ (by simp) rfl (by decide) (by decide)
                  refine wpOp_of rfl rfl ?_
                  go_simp
                  exact hK
                · exact absurd rfl q1
                · have d39 : ac.tmps.getD 39 undef = .slice (some ⟨g, 0, none⟩) n cap := hdep ⟨2, .data⟩ (by simp) rfl (by decide) (by decide)
                  have d41 : ac.tmps.getD 41 undef = .int .i64 (J : Nat) := hdep ⟨4, .data⟩ (by simp) rfl (by decide) (by decide)
                  refine wpOp_of rfl rfl ?_
                  go_simp
                  exact hK
                · exact absurd rfl q2
              · intro oo ac hj hbase hdep K hK
                injection hj with hj
                subst hj
                have d51 : ac.tmps.getD 51 undef = .pointer (some ⟨g, j, none⟩) := hdep ⟨14, .data⟩ (by simp) rfl (by decide) (by decide)
                have d46 : ac.tmps.getD 46 undef = .int .i64 (yn : Nat) := hdep ⟨9, .data⟩ (by simp) rfl (by decide) (by decide)
                refine wpOp_of rfl rfl ?_
                go_simp
                exact hK
              · intro oo ac hj hbase hdep K hK
                injection hj with hj
                subst hj
                have d52 : ac.tmps.getD 52 undef = .pointer (some ⟨g, J, none⟩) := hdep ⟨16, .data⟩ (by simp) rfl (by decide) (by decide)
                have d50 : ac.tmps.getD 50 undef = .int .i64 (xn : Nat) := hdep ⟨13, .data⟩ (by simp) rfl (by decide) (by decide)
                refine wpOp_of rfl rfl ?_
                go_simp
                exact hK
              · intro ac ha _
                simp only [List.map_cons, List.map_nil, Act.puts] at ha
                generalize ac.tmps.getD 37 undef = y37 at ha
                generalize ac.tmps.getD 38 undef = y38 at ha
                generalize ac.tmps.getD 39 undef = y39 at ha
                generalize ac.tmps.getD 40 undef = y40 at ha
                generalize ac.tmps.getD 41 undef = y41 at ha
                generalize ac.tmps.getD 42 undef = y42 at ha
                generalize ac.tmps.getD 43 undef = y43 at ha
                generalize ac.tmps.getD 44 undef = y44 at ha
                generalize ac.tmps.getD 45 undef = y45 at ha
                generalize ac.tmps.getD 46 undef = y46 at ha
                generalize ac.tmps.getD 47 undef = y47 at ha
                generalize ac.tmps.getD 48 undef = y48 at ha
                generalize ac.tmps.getD 49 undef = y49 at ha
                generalize ac.tmps.getD 50 undef = y50 at ha
                generalize ac.tmps.getD 51 undef = y51 at ha
                generalize ac.tmps.getD 52 undef = y52 at ha
                simp only [Act.put, List.setIfInBounds_toArray, List.set_cons_zero, List.set_cons_succ] at ha
                subst ha
                obtain ⟨W, hW⟩ : ∃ W, ((wz.drew.setCell ⟨g, j, none⟩ (.int .i64 (yn : Nat))).setCell ⟨g, J, none⟩ (.int .i64 (xn : Nat))) = W := ⟨_, rfl⟩
                rw [hW]
                have HN : Hid (RowF W g n (swp h' j J) ∧ Ins (keyL L) a i J (h i) h (swp h' j J) ∧ Exc (fun k => k = g) w W) := hid (by
                  rw [← hW]
                  have hjJ : j = J + 1 := by have := HJ1.out; omega
                  refine ⟨?_, ?_, ((HF.out.2.drew).setCell (p := ⟨g, j, none⟩) (Or.inl rfl) _).setCell (p := ⟨g, J, none⟩) (Or.inl rfl) _⟩
                  · have := (HF.out.1.drew.set j yn).set J xn
                    refine this.congr (fun p _ => ?_)
                    rw [← HX.out, ← HY.out]
                    unfold upd swp
                    by_cases e1 : p = J
                    · rw [if_pos e1, if_neg (by omega), if_pos e1]
                    · rw [if_neg e1]
                      by_cases e2 : p = j
                      · rw [if_pos e2, if_pos e2]
                      · rw [if_neg e2, if_neg e2, if_neg e1]
                  · have h1 := HJ.out.2.1
                    rw [hjJ] at h1 ⊢
                    refine h1.step (by omega) ?_
                    rw [← hjJ, HX.out, HY.out, ← cmpI_neg, HRR.out.1]
                    simpa using HRR.out.2)
                clear hW l0 l1 f0 f1 m0 m1
                go_wp2_with fail
                have hjJ := HJ1.out
                exact ⟨⟨J, by omega, by omega, by go_num, swp h' j J, HN⟩, by simp [intOf]; omega⟩
    · have HF : Hid (Mrg (keyL L) a b f h) := hid (by
        by_cases e : i = a + 1
        · have he := HH.out.2.2.2.1 e
          have : h = f := funext he
          rw [this]
          exact Mrg.none (fun p q h1 h2 h3 => by omega)
        · have : i = b := by omega
          subst this
          exact ⟨HH.out.2.1, HH.out.2.2.1⟩)
      go_wp2_with fail
      refine bodyPost_end (results_none rfl _ _ _) rfl ?_
      exact ⟨rfl, h, HH.out.1, HF.out, HH.out.2.2.2.2⟩
end Go.Proofs.Ythfoggbaoafpjaa
