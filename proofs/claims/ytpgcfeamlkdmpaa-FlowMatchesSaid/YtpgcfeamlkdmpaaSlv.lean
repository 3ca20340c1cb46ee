/-
  The walk of flow.Solve. Condition: the lists lie in memory as they read.
-/
import Derived.Test.YtpgcfeamlkdmpaaRun
import Derived.BigQuiet
import Derived.Deep.QuietTactic
namespace Go.Proofs.Ytpgcfeamlkdmpaa
open Go.RowKit
theorem RowI.int {w : World} {g : Nat} {L : List Int} (h : RowI w g L) : IntR w (some ⟨g, 0, none⟩) L := fun _ => ⟨g, 0, rfl, Row.lt h, fun j u hu => by rw [Nat.zero_add]; exact Row.at h hu⟩
/-- The reached nodes supply more than can leave them. -/
def Blocks (N : Net) (d : Nat → Bool) : Prop := 0 < sm N.k (fun v => if d v then N.sup v else 0) - sm N.m (fun i => if d (N.f i) && !d (N.t i) then N.cap i else 0)
/-- What Solve answers. -/
def SolvE (S : List Int) (As : List Arc4) (X P : List Int) (er : Int) : Prop :=
  (chkE S As ≠ 0 ∧ er = chkE S As ∧ X = [] ∧ P = []) ∨
  (chkE S As = 0 ∧ er = 0 ∧ X.length = As.length ∧ P.length = S.length ∧ (netOf S As).Fea (xOf X) ∧ (netOf S As).Proves (xOf X) (fun u => P.getD u 0) ∧ ∀ u, u < S.length → 0 ≤ P.getD u 0 ∧ P.getD u 0 ≤ 65792000000000) ∨
  (chkE S As = 0 ∧ er = 360 ∧ X = [] ∧ P = [] ∧ ∃ d, Blocks (netOf S As) d)
def SolvP (S : List Int) (As : List Arc4) (w : World) (e : Ending) (w' : World) : Prop :=
  ∃ X P Ax Ap cx cp er, e = .returned (.tuple #[flowV Ax X.length cx Ap P.length cp, .int .i64 er]) ∧ IntR w' Ax X ∧ IntR w' Ap P ∧ Below w.heap.size w w' ∧ SolvE S As X P er
set_option maxHeartbeats 4000000 in
set_option maxRecDepth 100000 in
theorem solve_any (S : List Int) (As : List Arc4) (A1 A2 : Option Addr) (c1 c2 : Nat) (w : World) (h1 : IntR w A1 S) (hn : A1 = none → c1 = 0) (h2 : ArcR w A2 As) :
    Calls Try.prog 16 #[netV A1 S.length c1 A2 As.length c2] w (SolvP S As w) := by
  have CK := hid (fun W h1 h2 => check_any S As A1 A2 c1 c2 W h1 h2)
  have CN := hid (fun W (hv : Valid S As) h1 h2 => new_any S As A1 A2 c1 c2 W hv h1 hn h2)
  have H1 := hid h1
  have H2 := hid h2
  clear h1 h2 hn
  unfold netV at *
  obtain ⟨W0, hW0⟩ : ∃ W0, (w.alloc (.cells #[.slice A1 S.length c1, .slice A2 As.length c2] 25)).alloc (.cells #[.slice none 0 0, .slice none 0 0] 27) = W0 := ⟨_, rfl⟩
  have hs0 : W0.heap.size = w.heap.size + 2 := by rw [← hW0]; simp
  have b0 : Blk W0 w.heap.size 25 #[.slice A1 S.length c1, .slice A2 As.length c2] := by rw [← hW0]; exact (Blk.new _ _ _).alloc _
  have b1 : Blk W0 (w.heap.size + 1) 27 #[.slice none 0 0, .slice none 0 0] := by rw [← hW0]; have := Blk.new (w.alloc (.cells #[.slice A1 S.length c1, .slice A2 As.length c2] 25)) 27 #[.slice none 0 0, .slice none 0 0]; rwa [World.size_alloc] at this
  have bw0 : Below w.heap.size w W0 := by rw [← hW0]; exact ((Below.refl w.heap.size w).alloc (Nat.le_refl _) _).alloc (by simp) _
  have HB0 := hid b0
  have HB1 := hid b1
  have HE0 := hid bw0
  have HW := hid hW0
  clear b0 b1 bw0 hW0
  go_enter Try.func16, Try.ntmps16
  go_upto_region 1 with fail
  rw [HW.out]
  have p00 := HB0.out.at 0 rfl
  have p01 := HB0.out.at 1 rfl
  go_wp2_with fail
  refine (CK.out _ (H1.out.below HE0.out) (H2.out.below HE0.out)).mono ?_
  rintro e w1 ⟨rfl, hb⟩
  have HE1 := hid (HE0.out.trans (hb.mono HE0.out.size))
  have HB01 := hid (HB0.out.below hb HB0.out.lt)
  have HB11 := hid (HB1.out.below hb HB1.out.lt)
  clear hb p00 p01 HB0 HB1 HE0 HW
  have p10 := HB11.out.at 0 rfl
  have p11 := HB11.out.at 1 rfl
  have f10 := HB11.out.frozen 0
  have f11 := HB11.out.frozen 1
  by_cases hc : chkE S As = 0
  · have HC := hid hc
    have HV := hid (valid_of hc)
    rw [hc]
    clear hc
    have p00 := HB01.out.at 0 rfl
    have p01 := HB01.out.at 1 rfl
    go_wp2_with fail
    refine (CN.out _ HV.out (H1.out.below HE1.out) (H2.out.below HE1.out)).mono ?_
    rintro e w2 ⟨L, rfl, hr, hd, hb⟩
    have HE2 := hid (HE1.out.trans (hb.mono HE1.out.size))
    have HR2 := hid hr
    have HD2 := hid hd
    have HB12 := hid (HB11.out.below hb HB11.out.lt)
    have CR := hid (run_any S As _ _ _ A1 A2 c1 c2 w1.heap.size L HV.out w1 w2 rfl (H2.out.below HE1.out) hb hr hd (by simp) rfl (by simp) ((SolI.start (netOf S As) HV.out.ok).congr HV.out.ok (fun i hi => by simp [xOf, List.getD_eq_getElem?_getD, List.getElem?_replicate]; split <;> rfl) (fun u hu => by simp [List.getD_eq_getElem?_getD, List.getElem?_replicate]; split <;> rfl) (fun u hu => rfl)))
    clear hr hd hb p00 p01 p10 p11 f10 f11
    go_wp2_with fail
    refine CR.out.mono ?_
    rintro e w3 ⟨X, lf, P, hx, hl, hp, hD, hE, hI, hcs⟩
    have HB3 : Hid (Below w2.heap.size w2 w3 → True) := hid (fun _ => trivial)
    have HXR := hid hD.x
    have HPR := hid hD.price
    have hnc : ¬ CX L (w.heap.size + 1) := CX_lo HR2.out _ (by have := HB11.out.lt; exact this)
    have hnc0 : ¬ CX L w.heap.size := CX_lo HR2.out _ (by have := HB01.out.lt; exact this)
    have HB13 := hid (HB12.out.exc hE hnc)
    have HE3 := hid (HE2.out.trans (hE.belowB HE2.out.size (fun b hb => CX_lo HR2.out b (by have := HE1.out.size; omega))))
    have HBS := hid ((HR2.out.exc HD2.out hE).blk)
    have HLO := hid (HR2.out.lo)
    have p10 := HB13.out.at 0 rfl
    have p11 := HB13.out.at 1 rfl
    have f10 := HB13.out.frozen 0
    have f11 := HB13.out.frozen 1
    rcases hcs with ⟨rfl, hz⟩ | ⟨rfl, hz, σ, rk, hr, hno⟩
    · have HSE : Hid (SolvE S As X P 0) := hid (by
        obtain ⟨z1, z2⟩ := hI.fea hz
        exact Or.inr (Or.inl ⟨HC.out, rfl, hx, hp, z1, z2, fun u hu => hI.pb.bd HV.out.k256 u hu⟩))
      have g1 : w3.cell? ⟨L.gs, 2, none⟩ = some (.slice (some ⟨L.gx, 0, none⟩) As.length As.length) := HBS.out.at 2 rfl
      have g2 : w3.cell? ⟨L.gs, 4, none⟩ = some (.slice (some ⟨L.gp, 0, none⟩) S.length S.length) := HBS.out.at 4 rfl
      clear hz hE hD hI
      go_wp2_with fail
      go_region
      go_wp2_with fail
      obtain ⟨Wz, hWz⟩ : ∃ Z, ((w3.setCell ⟨w.heap.size + 1, 0, none⟩ (.slice (some ⟨L.gx, 0, none⟩) As.length As.length)).setCell ⟨w.heap.size + 1, 1, none⟩ (.slice (some ⟨L.gp, 0, none⟩) S.length S.length)).drew = Z := ⟨_, rfl⟩
      rw [hWz]
      have hbz : Blk Wz (w.heap.size + 1) 27 #[.slice (some ⟨L.gx, 0, none⟩) As.length As.length, .slice (some ⟨L.gp, 0, none⟩) S.length S.length] := by rw [← hWz]; exact ((HB13.out.set_ 0 (.slice (some ⟨L.gx, 0, none⟩) As.length As.length)).set_ 1 (.slice (some ⟨L.gp, 0, none⟩) S.length S.length))
      have z0 := hbz.at 0 rfl
      have z1 := hbz.at 1 rfl
      refine bodyPost_ret (v := .tuple #[.agg #[.slice (some ⟨L.gx, 0, none⟩) As.length As.length, .slice (some ⟨L.gp, 0, none⟩) S.length S.length], .int .i64 0]) (by simp [results, Try.results16, go_sem, z0, z1]) rfl ?_
      refine ⟨X, P, some ⟨L.gx, 0, none⟩, some ⟨L.gp, 0, none⟩, As.length, S.length, 0, by rw [hx, hp]; rfl, ?_, ?_, ?_, HSE.out⟩
      · rw [← hWz]; exact RowI.int ((HXR.out.far (p := ⟨w.heap.size + 1, 0, none⟩) (fun h => hnc (Or.inl h.symm)) _).far (p := ⟨w.heap.size + 1, 1, none⟩) (fun h => hnc (Or.inl h.symm)) _)
      · rw [← hWz]; exact RowI.int ((HPR.out.far (p := ⟨w.heap.size + 1, 0, none⟩) (fun h => hnc (Or.inr (Or.inr h.symm))) _).far (p := ⟨w.heap.size + 1, 1, none⟩) (fun h => hnc (Or.inr (Or.inr h.symm))) _)
      · rw [← hWz]; exact ((HE3.out.setCell (p := ⟨w.heap.size + 1, 0, none⟩) (by simp) _).setCell (p := ⟨w.heap.size + 1, 1, none⟩) (by simp) _).drew
    · have HSE : Hid (SolvE S As [] [] 360) := hid (Or.inr (Or.inr ⟨HC.out, rfl, rfl, rfl, fun v => decide (σ.D v < FAR), hI.blocked HV.out.ok HV.out.k256 hr hno hz⟩))
      clear hz hE hD hI hr hno
      go_wp2_with fail
      obtain ⟨Wz, hWz⟩ : ∃ Z, ((w3.setCell ⟨w.heap.size + 1, 0, none⟩ (.slice none 0 0)).setCell ⟨w.heap.size + 1, 1, none⟩ (.slice none 0 0)) = Z := ⟨_, rfl⟩
      rw [hWz]
      have hbz : Blk Wz (w.heap.size + 1) 27 #[.slice none 0 0, .slice none 0 0] := by rw [← hWz]; exact ((HB13.out.set_ 0 (.slice none 0 0)).set_ 1 (.slice none 0 0))
      have z0 := hbz.at 0 rfl
      have z1 := hbz.at 1 rfl
      refine bodyPost_ret (v := .tuple #[.agg #[.slice none 0 0, .slice none 0 0], .int .i64 360]) (by simp [results, Try.results16, go_sem, z0, z1]) rfl ?_
      refine ⟨[], [], none, none, 0, 0, 360, rfl, CelR.nil _ _, CelR.nil _ _, ?_, HSE.out⟩
      rw [← hWz]; exact (HE3.out.setCell (p := ⟨w.heap.size + 1, 0, none⟩) (by simp) _).setCell (p := ⟨w.heap.size + 1, 1, none⟩) (by simp) _
  · have hcb : (chkE S As != 0) = true := by simpa using hc
    have HF : Hid (∀ W, Below w.heap.size w W → SolvP S As w (.returned (.tuple #[.agg #[.slice none 0 0, .slice none 0 0], .int .i64 (chkE S As)])) W) := hid (fun W hW => ⟨[], [], none, none, 0, 0, chkE S As, rfl, CelR.nil _ _, CelR.nil _ _, hW, Or.inl ⟨hc, rfl, rfl, rfl⟩⟩)
    go_wp2_with fail
    obtain ⟨Wz, hWz⟩ : ∃ Z, ((w1.setCell ⟨w.heap.size + 1, 0, none⟩ (.slice none 0 0)).setCell ⟨w.heap.size + 1, 1, none⟩ (.slice none 0 0)) = Z := ⟨_, rfl⟩
    rw [hWz]
    have hbz : Blk Wz (w.heap.size + 1) 27 #[.slice none 0 0, .slice none 0 0] := by rw [← hWz]; exact ((HB11.out.set_ 0 (.slice none 0 0)).set_ 1 (.slice none 0 0))
    have z0 := hbz.at 0 rfl
    have z1 := hbz.at 1 rfl
    refine bodyPost_ret (v := .tuple #[.agg #[.slice none 0 0, .slice none 0 0], .int .i64 (chkE S As)]) (by simp [results, Try.results16, go_sem, z0, z1]) rfl ?_
    refine HF.out _ ?_
    rw [← hWz]; exact (HE1.out.setCell (p := ⟨w.heap.size + 1, 0, none⟩) (by simp) _).setCell (p := ⟨w.heap.size + 1, 1, none⟩) (by simp) _
end Go.Proofs.Ytpgcfeamlkdmpaa
