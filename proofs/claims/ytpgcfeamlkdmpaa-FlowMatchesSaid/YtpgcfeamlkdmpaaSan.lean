/-
  The walk of the law's examples (sane): they hold.
-/
import Derived.Test.YtpgcfeamlkdmpaaExm
import Derived.BigQuiet
import Derived.Deep.QuietTactic
namespace Go.Proofs.Ytpgcfeamlkdmpaa
open Go.RowKit
/-- A network whose value lies in a block. -/
structure NetB (W : World) (g b1 b2 : Nat) (S : List Int) (As : List Arc4) : Prop where
  n : Blk W g 25 #[.slice (some ⟨b1, 0, none⟩) 4 4, .slice (some ⟨b2, 0, none⟩) 4 4]
  s : Blk W b1 3 (intC S).toArray
  a : Blk W b2 48 (arcC As).toArray
theorem NetB.keep {W W' : World} {g b1 b2 : Nat} {S : List Int} {As : List Arc4} (h : NetB W g b1 b2 S As) (hb : Below W.heap.size W W') : NetB W' g b1 b2 S As := ⟨h.n.below hb h.n.lt, h.s.below hb h.s.lt, h.a.below hb h.a.lt⟩
theorem NetB.alloc {W : World} {g b1 b2 : Nat} {S : List Int} {As : List Arc4} (h : NetB W g b1 b2 S As) (o : Obj) : NetB (W.alloc o) g b1 b2 S As := h.keep ((Below.refl _ _).alloc (Nat.le_refl _) _)
theorem NetB.below {W W' : World} {g b1 b2 B : Nat} {S : List Int} {As : List Arc4} (h : NetB W g b1 b2 S As) (hb : Below B W W') (h1 : g < B) (h2 : b1 < B) (h3 : b2 < B) : NetB W' g b1 b2 S As := ⟨h.n.below hb h1, h.s.below hb h2, h.a.below hb h3⟩
/-- A flow of two lists whose value lies in a block. -/
def FloR (W : World) (g b1 b2 : Nat) (X P : List Int) : Prop := Blk W b1 3 (intC X).toArray ∧ Blk W b2 3 (intC P).toArray ∧ Blk W g 27 #[.slice (some ⟨b1, 0, none⟩) 4 4, .slice (some ⟨b2, 0, none⟩) 4 4]
theorem FloR.below {W W' : World} {g b1 b2 B : Nat} {X P : List Int} (h : FloR W g b1 b2 X P) (hb : Below B W W') (h1 : b1 < B) (h2 : b2 < B) (h3 : g < B) : FloR W' g b1 b2 X P := ⟨h.1.below hb h1, h.2.1.below hb h2, h.2.2.below hb h3⟩
theorem FloR.keep {W W' : World} {g b1 b2 : Nat} {X P : List Int} (h : FloR W g b1 b2 X P) (hb : Below W.heap.size W W') : FloR W' g b1 b2 X P := h.below hb h.1.lt h.2.1.lt h.2.2.lt
/-- A flow whose value lies in a block. -/
structure FloB (W : World) (g : Nat) (v1 v2 : Value) : Prop where
  n : Blk W g 27 #[v1, v2]
theorem FloB.keep {W W' : World} {g : Nat} {v1 v2 : Value} (h : FloB W g v1 v2) (hb : Below W.heap.size W W') : FloB W' g v1 v2 := ⟨h.n.below hb h.n.lt⟩
theorem FloB.alloc {W : World} {g : Nat} {v1 v2 : Value} (h : FloB W g v1 v2) (o : Obj) : FloB (W.alloc o) g v1 v2 := h.keep ((Below.refl _ _).alloc (Nat.le_refl _) _)
set_option maxHeartbeats 4000000 in
set_option maxRecDepth 100000 in
theorem sane_any (w : World) : Calls Try.prog 10 #[] w fun e w' => e = .returned (.bool true) ∧ Below w.heap.size w w' := by
  go_enter Try.func10, Try.ntmps10
  have HEX := hid example_any
  unfold netV at HEX
  go_wp2_with fail
  refine (HEX.out _).mono ?_
  rintro e w1 ⟨b1, b2, rfl, hS, hA, hb1, hb2, hl1, hl2, hbw⟩
  have HE1 := hid hbw
  obtain ⟨W1, hW1⟩ : ∃ Z, w1.alloc (.cells #[.slice (some ⟨b1, 0, none⟩) 4 4, .slice (some ⟨b2, 0, none⟩) 4 4] 25) = Z := ⟨_, rfl⟩
  have HN1 : Hid (NetB W1 w1.heap.size b1 b2 exS exA) := hid (by rw [← hW1]; exact ⟨Blk.new _ _ _, hS.alloc _, hA.alloc _⟩)
  have HB1 : Hid (Below w.heap.size w W1) := hid (by rw [← hW1]; exact hbw.alloc hbw.size _)
  have CS := hid (fun W (h : NetB W w1.heap.size b1 b2 exS exA) => solve_any exS exA (some ⟨b1, 0, none⟩) (some ⟨b2, 0, none⟩) 4 4 W (BlkI h.s) (by simp) (BlkA h.a))
  have CC := hid (fun W (h : NetB W w1.heap.size b1 b2 exS exA) (X P : List Int) Ax Ap cx cp h3 h4 => cost_any exS exA X P (some ⟨b1, 0, none⟩) (some ⟨b2, 0, none⟩) Ax Ap 4 4 cx cp W (BlkI h.s) (by simp) (BlkA h.a) h3 h4)
  have CA := hid (fun W (h : NetB W w1.heap.size b1 b2 exS exA) (X P : List Int) Ax Ap cx cp h3 h4 => accept_any exS exA X P (some ⟨b1, 0, none⟩) (some ⟨b2, 0, none⟩) Ax Ap 4 4 cx cp W (BlkI h.s) (by simp) (BlkA h.a) h3 h4)
  have CB := hid (fun W (h : NetB W w1.heap.size b1 b2 exS exA) => blocked_any exS exA (some ⟨b1, 0, none⟩) (some ⟨b2, 0, none⟩) 4 4 W (BlkI h.s) (by simp) (BlkA h.a))
  unfold netV at CS CC CA CB
  unfold flowV at CC CA
  have HW1 := hid hW1
  clear hS hA hb1 hb2 hl1 hl2 hbw hW1
  go_upto_region 2 with fail
  rw [HW1.out]
  have p0 := HN1.out.n.at 0 rfl
  have p1 := HN1.out.n.at 1 rfl
  go_wp2_with fail
  refine (CS.out _ HN1.out).mono ?_
  rintro e w2 ⟨X, P, Ax, Ap, cx, cp, er, rfl, hX, hP, hb, hse⟩
  obtain ⟨rfl, hxl, hpl, hce, hcn⟩ := ex_solve hse
  unfold flowV
  have HN2 := hid (HN1.out.keep hb)
  have HB2 := hid (HB1.out.trans (hb.mono HB1.out.size))
  have HX2 := hid hX
  have HP2 := hid hP
  have HCE := hid (And.intro hce hcn)
  have CX := hid (fun W h h3 h4 => (CC.out W h X P Ax Ap cx cp h3 h4))
  rw [hxl, hpl, hce, hcn] at CX
  rw [hxl, hpl]
  clear hxl hpl
  clear hb hse hX hP hce hcn p0 p1
  obtain ⟨W2, hW2⟩ : ∃ Z, w2.alloc (.cells #[.slice Ax 4 cx, .slice Ap 4 cp] 27) = Z := ⟨_, rfl⟩
  have HF2 : Hid (FloB W2 w2.heap.size (.slice Ax 4 cx) (.slice Ap 4 cp)) := hid (by rw [← hW2]; exact ⟨Blk.new _ _ _⟩)
  have HN3 : Hid (NetB W2 w1.heap.size b1 b2 exS exA) := hid (by rw [← hW2]; exact HN2.out.alloc _)
  have HB3 : Hid (Below w.heap.size w W2) := hid (by rw [← hW2]; exact HB2.out.alloc HB2.out.size _)
  have HX3 : Hid (IntR W2 Ax X ∧ IntR W2 Ap P) := hid (by rw [← hW2]; exact ⟨HX2.out.alloc _, HP2.out.alloc _⟩)
  have HW2 := hid hW2
  clear hW2 HN1 HN2 HB1 HB2 HX2 HP2
  go_upto_region 3 with fail
  rw [HW2.out]
  have p0 := HN3.out.n.at 0 rfl
  have p1 := HN3.out.n.at 1 rfl
  have p2 := HF2.out.n.at 0 rfl
  have p3 := HF2.out.n.at 1 rfl
  go_wp2_with fail
  refine (CX.out _ HN3.out HX3.out.1 HX3.out.2).mono ?_
  rintro e w3 ⟨rfl, hb⟩
  have HN4 := hid (HN3.out.keep hb)
  have HB4 := hid (HB3.out.trans (hb.mono HB3.out.size))
  clear hb p0 p1 p2 p3 HN3 HB3 HF2 HX3
  have p0 := HN4.out.n.at 0 rfl
  have p1 := HN4.out.n.at 1 rfl
  go_wp2_with fail
  obtain ⟨W4, hW4⟩ : ∃ Z, w3.alloc (.cells (intC [3, 0, 1, 1]).toArray 3) = Z := ⟨_, rfl⟩
  have HW4 := hid hW4
  have hR4 : IntR W4 (some ⟨w3.heap.size, 0, none⟩) [3, 0, 1, 1] := BlkI (by rw [← hW4]; exact Blk.new _ _ _)
  have HN5 : Hid (NetB W4 w1.heap.size b1 b2 exS exA) := hid (by rw [← hW4]; exact HN4.out.alloc _)
  have HB5 : Hid (Below w.heap.size w W4) := hid (by rw [← hW4]; exact HB4.out.alloc HB4.out.size _)
  clear hW4
  show Calls _ _ _ (w3.alloc (.cells (intC [3, 0, 1, 1]).toArray 3)) _
  rw [HW4.out]
  refine (CC.out _ HN5.out [3, 0, 1, 1] [] (some ⟨w3.heap.size, 0, none⟩) none 4 0 hR4 (CelR.nil _ _)).mono ?_
  rw [ex_cst2.1, ex_cst2.2]
  rintro e w4 ⟨rfl, hb⟩
  have HN6 := hid (HN5.out.keep hb)
  have HB6 := hid (HB5.out.trans (hb.mono HB5.out.size))
  clear hb p0 p1 HN5 HB5 HN4 HB4 hR4
  have p0 := HN6.out.n.at 0 rfl
  have p1 := HN6.out.n.at 1 rfl
  go_wp2_with fail
  refine (CB.out _ HN6.out).mono ?_
  rintro e w5 ⟨T, At, ct, er, rfl, _, hb, hbe⟩
  obtain ⟨rfl, rfl⟩ := ex_blocked hbe
  have HN7 := hid (HN6.out.keep hb)
  have HB7 := hid (HB6.out.trans (hb.mono HB6.out.size))
  clear hb hbe p0 p1 HN6 HB6
  go_upto_region 7 with fail
  obtain ⟨W7, hW7⟩ : ∃ Z, (((w5.alloc (.cells (intC [2, 1, 2, 0]).toArray 3)).alloc (.cells (intC [0, 2, 4, 1]).toArray 3)).alloc (.cells #[.slice (some ⟨w5.heap.size, 0, none⟩) 4 4, .slice (some ⟨w5.heap.size + 1, 0, none⟩) 4 4] 27)) = Z := ⟨_, rfl⟩
  have hBW7 : Below w5.heap.size w5 W7 := by rw [← hW7]; exact (((Below.refl _ _).alloc (Nat.le_refl _) _).alloc (by simp) _).alloc (by simp; omega) _
  have HN8 : Hid (NetB W7 w1.heap.size b1 b2 exS exA) := hid (HN7.out.keep hBW7)
  have HB8 : Hid (Below w.heap.size w W7) := hid (HB7.out.trans (hBW7.mono HB7.out.size))
  have HR8 : Hid (Blk W7 w5.heap.size 3 (intC [2, 1, 2, 0]).toArray ∧ Blk W7 (w5.heap.size + 1) 3 (intC [0, 2, 4, 1]).toArray ∧ Blk W7 (w5.heap.size + 1 + 1) 27 #[.slice (some ⟨w5.heap.size, 0, none⟩) 4 4, .slice (some ⟨w5.heap.size + 1, 0, none⟩) 4 4]) := hid (by
    rw [← hW7]
    exact ⟨((Blk.new _ _ _).alloc _).alloc _, (Blk.of_size _ (by simp) _ _).alloc _, Blk.of_size _ (by simp) _ _⟩)
  have HW8 := hid hW7
  clear hW7
  show Code.wp _ _ _ _ (((w5.alloc (.cells (intC [2, 1, 2, 0]).toArray 3)).alloc (.cells (intC [0, 2, 4, 1]).toArray 3)).alloc (.cells #[.slice (some ⟨w5.heap.size, 0, none⟩) 4 4, .slice (some ⟨w5.heap.size + 1, 0, none⟩) 4 4] 27))
  rw [HW8.out]
  go_upto_region 8 with fail
  obtain ⟨W8, hW8⟩ : ∃ Z, (((W7.alloc (.cells (intC [2, 1, 2, 0]).toArray 3)).alloc (.cells (intC [0, 0, 0, 0]).toArray 3)).alloc (.cells #[.slice (some ⟨W7.heap.size, 0, none⟩) 4 4, .slice (some ⟨W7.heap.size + 1, 0, none⟩) 4 4] 27)) = Z := ⟨_, rfl⟩
  have hBW8 : Below W7.heap.size W7 W8 := by rw [← hW8]; exact (((Below.refl _ _).alloc (Nat.le_refl _) _).alloc (by simp) _).alloc (by simp; omega) _
  have HN9 : Hid (NetB W8 w1.heap.size b1 b2 exS exA) := hid (HN8.out.keep hBW8)
  have HB9 : Hid (Below w.heap.size w W8) := hid (HB8.out.trans (hBW8.mono HB8.out.size))
  have HR9 : Hid (Blk W8 W7.heap.size 3 (intC [2, 1, 2, 0]).toArray ∧ Blk W8 (W7.heap.size + 1) 3 (intC [0, 0, 0, 0]).toArray ∧ Blk W8 (W7.heap.size + 1 + 1) 27 #[.slice (some ⟨W7.heap.size, 0, none⟩) 4 4, .slice (some ⟨W7.heap.size + 1, 0, none⟩) 4 4]) := hid (by
    rw [← hW8]
    exact ⟨((Blk.new _ _ _).alloc _).alloc _, (Blk.of_size _ (by simp) _ _).alloc _, Blk.of_size _ (by simp) _ _⟩)
  have HW9 := hid hW8
  clear hW8
  show Code.wp _ _ _ _ (((W7.alloc (.cells (intC [2, 1, 2, 0]).toArray 3)).alloc (.cells (intC [0, 0, 0, 0]).toArray 3)).alloc (.cells #[.slice (some ⟨W7.heap.size, 0, none⟩) 4 4, .slice (some ⟨W7.heap.size + 1, 0, none⟩) 4 4] 27))
  rw [HW9.out]
  have HR8b : Hid (Blk W8 w5.heap.size 3 (intC [2, 1, 2, 0]).toArray ∧ Blk W8 (w5.heap.size + 1) 3 (intC [0, 2, 4, 1]).toArray ∧ Blk W8 (w5.heap.size + 1 + 1) 27 #[.slice (some ⟨w5.heap.size, 0, none⟩) 4 4, .slice (some ⟨w5.heap.size + 1, 0, none⟩) 4 4]) := hid ⟨HR8.out.1.below hBW8 HR8.out.1.lt, HR8.out.2.1.below hBW8 HR8.out.2.1.lt, HR8.out.2.2.below hBW8 HR8.out.2.2.lt⟩
  clear HR8 hBW7 hBW8 HN7 HB7 HN8 HB8
  go_wp2_with fail
  refine (HEX.out _).mono ?_
  rintro e w9 ⟨m1, m2, rfl, hS, hA, hm1, hm2, hl1, hl2, hb⟩
  have HN10 := hid (HN9.out.keep hb)
  have HB10 := hid (HB9.out.trans (hb.mono HB9.out.size))
  have HR10 : Hid (Blk w9 w5.heap.size 3 (intC [2, 1, 2, 0]).toArray ∧ Blk w9 (w5.heap.size + 1) 3 (intC [0, 2, 4, 1]).toArray ∧ Blk w9 (w5.heap.size + 1 + 1) 27 #[.slice (some ⟨w5.heap.size, 0, none⟩) 4 4, .slice (some ⟨w5.heap.size + 1, 0, none⟩) 4 4]) := hid ⟨HR8b.out.1.below hb HR8b.out.1.lt, HR8b.out.2.1.below hb HR8b.out.2.1.lt, HR8b.out.2.2.below hb HR8b.out.2.2.lt⟩
  have HG10 : Hid (Blk w9 W7.heap.size 3 (intC [2, 1, 2, 0]).toArray ∧ Blk w9 (W7.heap.size + 1) 3 (intC [0, 0, 0, 0]).toArray ∧ Blk w9 (W7.heap.size + 1 + 1) 27 #[.slice (some ⟨W7.heap.size, 0, none⟩) 4 4, .slice (some ⟨W7.heap.size + 1, 0, none⟩) 4 4]) := hid ⟨HR9.out.1.below hb HR9.out.1.lt, HR9.out.2.1.below hb HR9.out.2.1.lt, HR9.out.2.2.below hb HR9.out.2.2.lt⟩
  have HMM := hid (And.intro hS hA)
  have HM2 : Hid (W8.heap.size ≤ m2 ∧ m2 ≠ w9.heap.size ∧ w9.heap.size ≠ m2 ∧ m1 ≠ m2) := hid ⟨hm2, by omega, by omega, hS.ne_ hA (by decide)⟩
  have HLT : Hid (w1.heap.size < W8.heap.size ∧ b1 < W8.heap.size ∧ b2 < W8.heap.size ∧ w5.heap.size + 2 < W8.heap.size ∧ W7.heap.size + 2 < W8.heap.size) := hid ⟨HN9.out.n.lt, HN9.out.s.lt, HN9.out.a.lt, HR8b.out.2.2.lt, HR9.out.2.2.lt⟩
  clear hS hA hm1 hm2 hl1 hl2 hb HR9 HR8b
  obtain ⟨W10, hW10⟩ : ∃ Z, w9.alloc (.cells #[.slice (some ⟨m1, 0, none⟩) 4 4, .slice (some ⟨m2, 0, none⟩) 4 4] 25) = Z := ⟨_, rfl⟩
  have HM10 : Hid (NetB W10 w9.heap.size m1 m2 exS exA) := hid (by rw [← hW10]; exact ⟨Blk.new _ _ _, HMM.out.1.alloc _, HMM.out.2.alloc _⟩)
  have HE10 : Hid (Below w9.heap.size w9 W10) := hid (by rw [← hW10]; exact (Below.refl _ _).alloc (Nat.le_refl _) _)
  have HW10 := hid hW10
  clear hW10
  go_upto_region 9 with fail
  rw [HW10.out]
  have p1 := HM10.out.n.at 1 rfl
  have q0 : W10.cell? ⟨m2, 2, none⟩ = some (.int .i64 5) := HM10.out.a.at 2 rfl
  have f0 := HM10.out.a.frozen 2
  go_upto_region 10 with fail
  obtain ⟨W11, hW11⟩ : ∃ Z, W10.setCell ⟨m2, 2, none⟩ (.int .i64 1) = Z := ⟨_, rfl⟩
  rw [hW11]
  have HM11 : Hid (Blk W11 w9.heap.size 25 #[.slice (some ⟨m1, 0, none⟩) 4 4, .slice (some ⟨m2, 0, none⟩) 4 4] ∧ Blk W11 m1 3 (intC exS).toArray ∧ Blk W11 m2 48 ((arcC exA).toArray.setIfInBounds 2 (.int .i64 1))) := hid (by
    rw [← hW11]
    exact ⟨HM10.out.n.far (p := ⟨m2, 2, none⟩) HM2.out.2.2.1 _, HM10.out.s.far (p := ⟨m2, 2, none⟩) HM2.out.2.2.2 _, HM10.out.a.set_ 2 _⟩)
  have HE11 : Hid (Below W8.heap.size w9 W11) := hid (by rw [← hW11]; exact (HE10.out.mono (by have := HM2.out.1; have := HMM.out.2.lt; omega)).setCell (p := ⟨m2, 2, none⟩) HM2.out.1 _)
  clear p1 q0 f0 hW11
  have p1 := HM11.out.1.at 1 rfl
  have q0 : W11.cell? ⟨m2, 10, none⟩ = some (.int .i64 5) := HM11.out.2.2.at 10 rfl
  have f0 := HM11.out.2.2.frozen 10
  go_upto_region 11 with fail
  obtain ⟨W12, hW12⟩ : ∃ Z, W11.setCell ⟨m2, 10, none⟩ (.int .i64 2) = Z := ⟨_, rfl⟩
  rw [hW12]
  have HM12 : Hid (NetB W12 w9.heap.size m1 m2 exS nwA) := hid (by
    rw [← hW12]
    exact ⟨HM11.out.1.far (p := ⟨m2, 10, none⟩) HM2.out.2.2.1 _, HM11.out.2.1.far (p := ⟨m2, 10, none⟩) HM2.out.2.2.2 _, HM11.out.2.2.set_ 10 _⟩)
  have HE12 : Hid (Below W8.heap.size w9 W12) := hid (by rw [← hW12]; exact HE11.out.setCell (p := ⟨m2, 10, none⟩) HM2.out.1 _)
  clear p1 q0 f0 hW12
  have CSM := hid (fun W (h : NetB W w9.heap.size m1 m2 exS nwA) => solve_any exS nwA (some ⟨m1, 0, none⟩) (some ⟨m2, 0, none⟩) 4 4 W (BlkI h.s) (by simp) (BlkA h.a))
  have CBM := hid (fun W (h : NetB W w9.heap.size m1 m2 exS nwA) => blocked_any exS nwA (some ⟨m1, 0, none⟩) (some ⟨m2, 0, none⟩) 4 4 W (BlkI h.s) (by simp) (BlkA h.a))
  unfold netV at CSM CBM
  have p0 := HM12.out.n.at 0 rfl
  have p1 := HM12.out.n.at 1 rfl
  go_wp2_with fail
  refine (CBM.out _ HM12.out).mono ?_
  rintro e w13 ⟨T, Bt, dt, er, rfl, hT, hb, hbe⟩
  obtain ⟨rfl, rfl⟩ := nw_blocked hbe
  have HM13 := hid (HM12.out.keep hb)
  have HE13 := hid (HE12.out.trans (hb.mono (by have := HE12.out.size; have := HM2.out.1; have := HMM.out.2.lt; omega)))
  have HT13 := hid hT
  clear hb hbe hT p0 p1
  have p0 := HM13.out.n.at 0 rfl
  have p1 := HM13.out.n.at 1 rfl
  go_wp2_with fail
  refine (CSM.out _ HM13.out).mono ?_
  rintro e w14 ⟨X2, P2, Ax2, Ap2, cx2, cp2, er, rfl, _, _, hb, hse⟩
  obtain ⟨rfl, rfl, rfl⟩ := nw_solve hse
  have HT14 := hid (HT13.out.below hb)
  have HE14 := hid (HE13.out.trans (hb.mono (by have := HE13.out.size; have := HM2.out.1; have := HMM.out.2.lt; omega)))
  clear hb hse p0 p1
  unfold flowV
  go_upto_region 13 with fail
  obtain ⟨W15, hW15⟩ : ∃ Z, w14.alloc (.cells #[.slice Ax2 0 cx2, .slice Ap2 0 cp2] 27) = Z := ⟨_, rfl⟩
  have HE15 : Hid (Below W8.heap.size w9 W15) := hid (by rw [← hW15]; exact HE14.out.alloc (by have := HE14.out.size; have := HM2.out.1; have := HMM.out.2.lt; omega) _)
  have HT15 : Hid (IntR W15 Bt [0, 3]) := hid (by rw [← hW15]; exact HT14.out.alloc _)
  have HW15 := hid hW15
  change Code.wp _ _ _ _ (w14.alloc (.cells #[.slice Ax2 0 cx2, .slice Ap2 0 cp2] 27))
  rw [HW15.out]
  have HNA := hid (HN10.out.below HE15.out HLT.out.1 HLT.out.2.1 HLT.out.2.2.1)
  have HRA : Hid (FloR W15 (w5.heap.size + 1 + 1) w5.heap.size (w5.heap.size + 1) [2, 1, 2, 0] [0, 2, 4, 1]) := hid (FloR.below HR10.out HE15.out (by have := HLT.out.2.2.2.1; omega) (by have := HLT.out.2.2.2.1; omega) (by have := HLT.out.2.2.2.1; omega))
  have HGA : Hid (FloR W15 (W7.heap.size + 1 + 1) W7.heap.size (W7.heap.size + 1) [2, 1, 2, 0] [0, 0, 0, 0]) := hid (FloR.below HG10.out HE15.out (by have := HLT.out.2.2.2.2; omega) (by have := HLT.out.2.2.2.2; omega) (by have := HLT.out.2.2.2.2; omega))
  have HBA := hid (HB10.out.trans (HE15.out.mono HB9.out.size))
  clear hW15
  have p0 := HNA.out.n.at 0 rfl
  have p1 := HNA.out.n.at 1 rfl
  have r0 := HRA.out.2.2.at 0 rfl
  have r1 := HRA.out.2.2.at 1 rfl
  go_wp2_with fail
  refine (CA.out _ HNA.out [2, 1, 2, 0] [0, 2, 4, 1] (some ⟨w5.heap.size, 0, none⟩) (some ⟨w5.heap.size + 1, 0, none⟩) 4 4 (BlkI HRA.out.1) (BlkI HRA.out.2.1)).mono ?_
  rw [ex_right]
  rintro e w16 ⟨rfl, hb⟩
  have HNB := hid (HNA.out.keep hb)
  have HGB := hid (HGA.out.keep hb)
  have HTB := hid (HT15.out.below hb)
  have HBB := hid (HBA.out.trans (hb.mono HBA.out.size))
  clear p0 p1 r0 r1 hb
  have p0 := HNB.out.n.at 0 rfl
  have p1 := HNB.out.n.at 1 rfl
  have r0 := HGB.out.2.2.at 0 rfl
  have r1 := HGB.out.2.2.at 1 rfl
  go_wp2_with fail
  refine (CA.out _ HNB.out [2, 1, 2, 0] [0, 0, 0, 0] (some ⟨W7.heap.size, 0, none⟩) (some ⟨W7.heap.size + 1, 0, none⟩) 4 4 (BlkI HGB.out.1) (BlkI HGB.out.2.1)).mono ?_
  rw [ex_wrong]
  rintro e w17 ⟨rfl, hb⟩
  have HNC := hid (HNB.out.keep hb)
  have HTC := hid (HTB.out.below hb)
  have HBC := hid (HBB.out.trans (hb.mono HBB.out.size))
  clear p0 p1 r0 r1 hb
  have p0 := HNC.out.n.at 0 rfl
  have p1 := HNC.out.n.at 1 rfl
  go_wp2_with fail
  show Calls _ _ _ (w17.alloc (.cells (intC [3, 0, 1, 0]).toArray 3)) _
  refine (CA.out _ (HNC.out.alloc _) [3, 0, 1, 0] [] (some ⟨w17.heap.size, 0, none⟩) none 4 0 (BlkI (Blk.new _ _ _)) (CelR.nil _ _)).mono ?_
  rw [ex_short]
  rintro e w18 ⟨rfl, hb⟩
  have HBD := hid ((HBC.out.alloc HBC.out.size (.cells (intC [3, 0, 1, 0]).toArray 3)).trans (hb.mono (by have := HBC.out.size; simp; omega)))
  have HTD := hid ((HTC.out.alloc _).below hb)
  clear p0 p1 hb
  go_wp2_with fail
  show Calls _ _ _ (w18.alloc (.cells (intC [0, 3]).toArray 3)) _
  refine (same_any [0, 3] [0, 3] Bt (some ⟨w18.heap.size, 0, none⟩) dt 2 _ (by simp) (HTD.out.alloc _) (BlkI (Blk.new _ _ _))).mono ?_
  rintro e w19 ⟨rfl, hb⟩
  have HBE := hid ((HBD.out.alloc HBD.out.size (.cells (intC [0, 3]).toArray 3)).trans (hb.mono (by have := HBD.out.size; simp; omega)))
  rw [show decide (([0, 3] : List Int) = [0, 3]) = true from rfl]
  go_wp2_with fail
  go_ret
  exact ⟨rfl, HBE.out⟩
end Go.Proofs.Ytpgcfeamlkdmpaa
