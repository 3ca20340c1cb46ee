/-
  The walks of spans.common and of its iterator: it hands over the common parts of two lists, in order. Conditions: the lists lie in memory as they read, and have at most a million spans.
-/
import Derived.Test.YthdllghpfniclaaNor
import Derived.Test.YthdllghpfniclaaRan
import Derived.OwnWalkIn
import Derived.TacticsInMore
import Derived.LoopNIn
import Derived.LoopIn
import Derived.Deep.RegionHeld3
namespace Go.Proofs.Ythdllghpfniclaa
open Go.RowKit
attribute [local go_sem] Oper.semAt_some
set_option maxHeartbeats 400000 in
theorem common_any (A B : Option Addr) (c d n m : Nat) (w : World) :
    Calls Try.prog 22 #[.slice A n c, .slice B m d] w fun e w' => e = .returned (.func (.func 31) #[] #[.pointer (some ⟨w.heap.size, 0, none⟩), .pointer (some ⟨w.heap.size + 1, 0, none⟩)]) ∧
      w' = (w.alloc (.cells #[.slice A n c] 22)).alloc (.cells #[.slice B m d] 22) := by
  go_enter Try.func22, Try.ntmps22
  go_wp2_with fail
  go_ret
  exact ⟨rfl, rfl⟩
/-- A list of spans lies at an address, in a block of K. -/
def SpK (K : Nat → Prop) (w : World) (A : Option Addr) (L : List Sp) : Prop :=
  0 < L.length → ∃ b off, A = some ⟨b, off, none⟩ ∧ K b ∧ b < w.heap.size ∧ ∀ i s, L[i]? = some s → w.cell? ⟨b, off + i * 2, none⟩ = some (.int .i64 s.1) ∧ w.cell? ⟨b, off + i * 2 + 1, none⟩ = some (.int .i64 s.2)
/-- What a round keeps. -/
def KeepK (K : Nat → Prop) (W W' : World) : Prop := W.heap.size ≤ W'.heap.size ∧ ∀ k, K k → k < W.heap.size → W'.heap[k]? = W.heap[k]?
theorem SpK.keep {K : Nat → Prop} {W W' : World} {A : Option Addr} {L : List Sp} (h : SpK K W A L) (hk : KeepK K W W') : SpK K W' A L := fun hp => by
  obtain ⟨b, off, e, hK, hb, hc⟩ := h hp
  refine ⟨b, off, e, hK, Nat.lt_of_lt_of_le hb hk.1, fun i s hs => ?_⟩
  obtain ⟨h0, h1⟩ := hc i s hs
  exact ⟨(World.cell?_of_block (w := W) (a := ⟨b, off + i * 2, none⟩) (hk.2 b hK hb)).trans h0, (World.cell?_of_block (w := W) (a := ⟨b, off + i * 2 + 1, none⟩) (hk.2 b hK hb)).trans h1⟩
theorem SpK.of {K : Nat → Prop} {W : World} {A : Option Addr} {L : List Sp} (h : SpR W A L) (hK : ∀ b off, A = some ⟨b, off, none⟩ → K b) : SpK K W A L := fun hp => by
  obtain ⟨b, off, e, hb, hc⟩ := h.at2 (Below.refl _ _) hp
  exact ⟨b, off, e, hK b off e, hb, hc⟩
theorem SpK.tail {K : Nat → Prop} {W : World} {b off : Nat} {s : Sp} {L : List Sp} (h : SpK K W (some ⟨b, off, none⟩) (s :: L)) : SpK K W (some ⟨b, off + 2, none⟩) L := fun _ => by
  obtain ⟨b', off', e, hK, hb, hc⟩ := h (by simp)
  injection e with e
  injection e with e1 e2
  subst e1 e2
  refine ⟨b, off + 2, rfl, hK, hb, fun i t ht => ?_⟩
  have := hc (i + 1) t (by simpa using ht)
  rw [show off + (i + 1) * 2 = off + 2 + i * 2 by omega] at this
  exact this
theorem SpK.none {K : Nat → Prop} {W : World} {A : Option Addr} : SpK K W A [] := fun h => absurd h (by simp)
def lenAt (w : World) (B : Nat) : Nat := match w.cell? ⟨B, 0, none⟩ with
  | some (.slice _ n _) => n
  | _ => 0
theorem lenAt_blk {w : World} {B : Nat} {A : Option Addr} {n c : Nat} (h : Blk w B 22 #[.slice A n c]) : lenAt w B = n := by
  unfold lenAt; rw [show w.cell? ⟨B, 0, none⟩ = some (.slice A n c) from h.at 0 rfl]
theorem SpK.mono {K K' : Nat → Prop} {W : World} {A : Option Addr} {L : List Sp} (h : SpK K W A L) (hk : ∀ k, K k → K' k) : SpK K' W A L := fun hp => by
  obtain ⟨b, off, e, hK, hb⟩ := h hp
  exact ⟨b, off, e, hk b hK, hb⟩
theorem wp_lit {P : Program} {c : Code} {Q : Exit → Act → World → Prop} {a : Act} {w : World} (A0 : Act) (W0 : World) (h : c.wp P (fun e a2 w2 => e = .normal ∧ a2 = A0 ∧ w2 = W0) a w) (hq : Q .normal A0 W0) : c.wp P Q a w :=
  wp_mono h (fun e a2 w2 ⟨h1, h2, h3⟩ => by subst h1 h2 h3; exact hq)
theorem six_old {w w' : World} {Ba Bb ab bb i1 i2 i3 i4 : Nat} {v1 v2 v3 v4 v5 v6 : Value} (hb : Below w.heap.size w w') (h1 : Ba < w.heap.size) (h2 : Bb < w.heap.size) (h3 : ab < w.heap.size) (h4 : bb < w.heap.size)
    (h : w.cell? ⟨Ba, 0, none⟩ = some v1 ∧ w.cell? ⟨Bb, 0, none⟩ = some v2 ∧ w.cell? ⟨ab, i1, none⟩ = some v3 ∧ w.cell? ⟨ab, i2, none⟩ = some v4 ∧ w.cell? ⟨bb, i3, none⟩ = some v5 ∧ w.cell? ⟨bb, i4, none⟩ = some v6) :
    w'.cell? ⟨Ba, 0, none⟩ = some v1 ∧ w'.cell? ⟨Bb, 0, none⟩ = some v2 ∧ w'.cell? ⟨ab, i1, none⟩ = some v3 ∧ w'.cell? ⟨ab, i2, none⟩ = some v4 ∧ w'.cell? ⟨bb, i3, none⟩ = some v5 ∧ w'.cell? ⟨bb, i4, none⟩ = some v6 := by
  obtain ⟨a1, a2, a3, a4, a5, a6⟩ := h
  exact ⟨(hb.cell (p := ⟨Ba, 0, none⟩) h1).trans a1, (hb.cell (p := ⟨Bb, 0, none⟩) h2).trans a2, (hb.cell (p := ⟨ab, i1, none⟩) h3).trans a3, (hb.cell (p := ⟨ab, i2, none⟩) h3).trans a4, (hb.cell (p := ⟨bb, i3, none⟩) h4).trans a5, (hb.cell (p := ⟨bb, i4, none⟩) h4).trans a6⟩
/-- Where the iterator stands. -/
structure StI (K : Nat → Prop) (Ba Bb : Nat) (wr : World) (A : Option Addr) (c : Nat) (L : List Sp) (B : Option Addr) (d : Nat) (M : List Sp) : Prop where
  ba : Blk wr Ba 22 #[.slice A L.length c]
  bb : Blk wr Bb 22 #[.slice B M.length d]
  ra : SpK (fun k => K k ∧ k ≠ Ba ∧ k ≠ Bb) wr A L
  rb : SpK (fun k => K k ∧ k ≠ Ba ∧ k ≠ Bb) wr B M
  la : L.length ≤ c
  lb : M.length ≤ d
theorem StI.keep {K : Nat → Prop} {Ba Bb : Nat} {wr w' : World} {A : Option Addr} {c : Nat} {L : List Sp} {B : Option Addr} {d : Nat} {M : List Sp} (h : StI K Ba Bb wr A c L B d M) (hka : K Ba) (hkb : K Bb) (hk : KeepK K wr w') : StI K Ba Bb w' A c L B d M where
  ba := (hk.2 Ba hka h.ba.lt).trans h.ba
  bb := (hk.2 Bb hkb h.bb.lt).trans h.bb
  ra := h.ra.keep ⟨hk.1, fun k q => hk.2 k q.1⟩
  rb := h.rb.keep ⟨hk.1, fun k q => hk.2 k q.1⟩
  la := h.la
  lb := h.lb
theorem KeepK.of {K : Nat → Prop} {W W' : World} (h : Below W.heap.size W W') : KeepK K W W' := ⟨h.size, fun k _ hk => h.block k hk⟩
theorem grown_set (w : World) (B : Nat) (v : Value) : w.grownBy (w.setCell ⟨B, 0, none⟩ v) (some B) :=
  ⟨rfl, rfl, rfl, by simp, fun k _ hk => heap_setCell_other w ⟨B, 0, none⟩ k v (fun e => hk (by simp [e]))⟩
theorem KeepK.mono {K K' : Nat → Prop} {W W' : World} (h : KeepK K W W') (hk : ∀ k, K' k → K k) : KeepK K' W W' := ⟨h.1, fun k q => h.2 k (hk k q)⟩
theorem KeepK.set (K : Nat → Prop) (w : World) (B : Nat) (v : Value) : KeepK (fun k => (K k ∧ k ≠ B) ) w (w.setCell ⟨B, 0, none⟩ v) :=
  ⟨by simp, fun k hk _ => heap_setCell_other w ⟨B, 0, none⟩ k v hk.2⟩
theorem StI.stepA {K : Nat → Prop} {Ba Bb : Nat} {wr : World} {b off c : Nat} {s : Sp} {L : List Sp} {B : Option Addr} {d : Nat} {M : List Sp} (h : StI K Ba Bb wr (some ⟨b, off, none⟩) c (s :: L) B d M) (hne : Ba ≠ Bb) (A' : Option Addr) (hA : L ≠ [] → A' = some ⟨b, off + 2, none⟩) :
    StI K Ba Bb (wr.setCell ⟨Ba, 0, none⟩ (.slice A' L.length (c - 1))) A' (c - 1) L B d M where
  ba := h.ba.set_ 0 _
  bb := h.bb.far (fun e => hne e.symm) _
  ra := by
    refine SpK.keep (W := wr) ?_ (KeepK.mono (KeepK.set (fun _ => True) wr Ba _) (fun k hk => ⟨trivial, hk.2.1⟩))
    by_cases hL : L = []
    · subst hL; exact SpK.none
    · rw [hA hL]; exact h.ra.tail
  rb := h.rb.keep (KeepK.mono (KeepK.set (fun _ => True) wr Ba _) (fun k hk => ⟨trivial, hk.2.1⟩))
  la := by have := h.la; simp only [List.length_cons] at this; omega
  lb := h.lb
theorem StI.stepB {K : Nat → Prop} {Ba Bb : Nat} {wr : World} {b off c : Nat} {s : Sp} {L : List Sp} {B : Option Addr} {d : Nat} {M : List Sp} (h : StI K Ba Bb wr B d M (some ⟨b, off, none⟩) c (s :: L)) (hne : Ba ≠ Bb) (A' : Option Addr) (hA : L ≠ [] → A' = some ⟨b, off + 2, none⟩) :
    StI K Ba Bb (wr.setCell ⟨Bb, 0, none⟩ (.slice A' L.length (c - 1))) B d M A' (c - 1) L where
  bb := h.bb.set_ 0 _
  ba := h.ba.far hne _
  rb := by
    refine SpK.keep (W := wr) ?_ (KeepK.mono (KeepK.set (fun _ => True) wr Bb _) (fun k hk => ⟨trivial, hk.2.2⟩))
    by_cases hL : L = []
    · subst hL; exact SpK.none
    · rw [hA hL]; exact h.rb.tail
  ra := h.ra.keep (KeepK.mono (KeepK.set (fun _ => True) wr Bb _) (fun k hk => ⟨trivial, hk.2.2⟩))
  lb := by have := h.lb; simp only [List.length_cons] at this; omega
  la := h.la
set_option maxHeartbeats 4000000 in
theorem common_seq (n : Nat) (K : Nat → Prop) (L M : List Sp) (A B : Option Addr) (c d Ba Bb : Nat) (w : World) (hst : StI K Ba Bb w A c L B d M) (hne : Ba ≠ Bb) (hKa : K Ba) (hKb : K Bb) :
    SeqC n Try.prog 31 #[.pointer (some ⟨Ba, 0, none⟩), .pointer (some ⟨Bb, 0, none⟩)] (fun s : Sp => #[.agg #[.int .i64 s.1, .int .i64 s.2]]) (fun k => k = Ba ∨ k = Bb) (KeepK K) (cmnL (L.length + M.length) L M) w := by
  intro l J Jx W hW hJ hY h0
  obtain ⟨xs, hxs⟩ : ∃ xs, cmnL (L.length + M.length) L M = xs := ⟨_, rfl⟩
  rw [hxs] at hY ⊢
  have HST := hid (hst.keep hKa hKb (KeepK.of hW))
  have HX := hid hxs
  have HJ := hid hJ
  have HY := hid hY
  have H0 := hid h0
  clear hxs hJ hY h0 hst hW
  refine callsIn_wide.2 ?_
  simp only [List.append_toArray, List.cons_append, List.nil_append]
  go_enter Try.func31, Try.ntmps31
  go_wp2_with fail
  go_loopw [5] (fun _ wr => ∃ (pre L1 M1 : List Sp) (A1 B1 : Option Addr) (c1 d1 : Nat), Hid (pre ++ cmnL (L1.length + M1.length) L1 M1 = xs) ∧ Hid (StI K Ba Bb wr A1 c1 L1 B1 d1 M1) ∧ Hid (J pre wr)) (fun _ wr => lenAt wr Ba + lenAt wr Bb)
  case atStart => exact ⟨[], L, M, A, B, c, d, HX, HST, H0⟩
  case round =>
    obtain ⟨pre, L1, M1, A1, B1, q1, d1, HX1, HS1, HJ1⟩ := hrel
    have c0 := HS1.out.ba.at 0 rfl
    have e0 := HS1.out.bb.at 0 rfl
    cases L1 with
    | nil =>
      have HE : Hid (pre = xs) := hid (by have := HX1.out; rwa [show cmnL (([] : List Sp).length + M1.length) [] M1 = [] by cases M1.length <;> rfl, List.append_nil] at this)
      simp only [List.length_nil] at *
      go_wp2_with fail
      go_end0
      exact ⟨⟨_, rfl⟩, Or.inl (by rw [← HE.out]; exact HJ1.out)⟩
    | cons s L1 =>
      have k0 : decide ((0 : Int) < ((L1.length + 1 : Nat) : Int)) = true := by simp
      cases M1 with
      | nil =>
        have HE : Hid (pre = xs) := hid (by have := HX1.out; rwa [show cmnL ((s :: L1).length + ([] : List Sp).length) (s :: L1) [] = [] from rfl, List.append_nil] at this)
        simp only [List.length_nil, List.length_cons] at *
        go_wp2_with fail
        go_end0
        exact ⟨⟨_, rfl⟩, Or.inl (by rw [← HE.out]; exact HJ1.out)⟩
      | cons t M1 =>
        have k1 : decide ((0 : Int) < ((M1.length + 1 : Nat) : Int)) = true := by simp
        obtain ⟨ab, ao, rfl, hKA, hab, hac⟩ := HS1.out.ra (by simp)
        obtain ⟨bb, bo, rfl, hKB, hbb, hbc⟩ := HS1.out.rb (by simp)
        have a0 := (hac 0 s rfl).1
        have a1 := (hac 0 s rfl).2
        have b0 := (hbc 0 t rfl).1
        have b1 := (hbc 0 t rfl).2
        simp only [Nat.zero_mul, Nat.add_zero] at a0 a1 b0 b1
        have HKA := hid hKA
        have HKB := hid hKB
        clear hac hbc hKA hKB
        obtain ⟨f1, t1⟩ := s
        obtain ⟨f2, t2⟩ := t
        simp only [List.length_cons] at *
        go_upto_region 1 with fail
        have hBa := HS1.out.ba.lt
        have hBb := HS1.out.bb.lt
        clear k0 k1
        apply wp_lit
        case h =>
          go_region_held3 (fun w' => w'.cell? ⟨Ba, 0, none⟩ = some (.slice (some ⟨ab, ao, none⟩) (L1.length + 1) q1) ∧ w'.cell? ⟨Bb, 0, none⟩ = some (.slice (some ⟨bb, bo, none⟩) (M1.length + 1) d1) ∧ w'.cell? ⟨ab, ao, none⟩ = some (.int .i64 f1) ∧ w'.cell? ⟨ab, ao + 1, none⟩ = some (.int .i64 t1) ∧ w'.cell? ⟨bb, bo, none⟩ = some (.int .i64 f2) ∧ w'.cell? ⟨bb, bo + 1, none⟩ = some (.int .i64 t2)) (first | exact ⟨c0, e0, a0, a1, b0, b1⟩ | exact six_old (below_drewN ((Below.refl _ _).alloc (Nat.le_refl _) _) 1) hBa hBb hab hbb ⟨c0, e0, a0, a1, b0, b1⟩ | exact six_old (below_drewN ((((Below.refl _ _).alloc (Nat.le_refl _) _).setCell (by simp) _).setCell (by simp) _) 1) hBa hBb hab hbb ⟨c0, e0, a0, a1, b0, b1⟩ | exact six_old ((Below.refl _ _).alloc (Nat.le_refl _) _) hBa hBb hab hbb ⟨c0, e0, a0, a1, b0, b1⟩ | exact six_old (((Below.refl _ _).alloc (Nat.le_refl _) _).setCell (by simp) _) hBa hBb hab hbb ⟨c0, e0, a0, a1, b0, b1⟩ | exact six_old ((((Below.refl _ _).alloc (Nat.le_refl _) _).setCell (by simp) _).setCell (by simp) _) hBa hBb hab hbb ⟨c0, e0, a0, a1, b0, b1⟩)
            (fail)
          all_goals exact ⟨rfl, rfl, rfl⟩
        generalize hmf : max f1 f2 = mf at *
        generalize hmt : min t1 t2 = mt at *
        have HX2 : Hid (pre ++ ((if mf < mt then [(mf, mt)] else []) ++ (if t1 < t2 then cmnL (L1.length + (M1.length + 1)) L1 ((f2, t2) :: M1) else cmnL (L1.length + 1 + M1.length) ((f1, t1) :: L1) M1)) = xs) := hid (by
          rw [← HX1.out, show L1.length + 1 + (M1.length + 1) = (L1.length + 1 + M1.length) + 1 by omega, ← hmf, ← hmt, show L1.length + (M1.length + 1) = L1.length + 1 + M1.length by omega]
          rfl)
        obtain ⟨W1, hW1⟩ : ∃ W1, (wr.alloc (.cells #[.int .i64 mf, .int .i64 mt] 31)).drew = W1 := ⟨_, rfl⟩
        have hB1 : Below wr.heap.size wr W1 := by rw [← hW1]; exact below_drewN ((Below.refl _ _).alloc (Nat.le_refl _) _) 1
        have p0 : W1.cell? ⟨wr.heap.size, 0, none⟩ = some (.int .i64 mf) := by rw [← hW1]; exact (Blk.new wr 31 #[.int .i64 mf, .int .i64 mt]).at 0 rfl
        have p1 : W1.cell? ⟨wr.heap.size, 1, none⟩ = some (.int .i64 mt) := by rw [← hW1]; exact (Blk.new wr 31 #[.int .i64 mf, .int .i64 mt]).at 1 rfl
        rw [hW1]
        have HS2 := hid (HS1.out.keep hKa hKb (KeepK.of hB1))
        have HJ2 : Hid (J pre W1) := hid (HJ.out _ _ _ none HJ1.out ⟨hB1.os, hB1.tape, hB1.output, hB1.size, fun k hk _ => hB1.block k hk⟩ (fun r e => by cases e))
        have HMS : Hid (lenAt wr Ba + lenAt wr Bb = L1.length + 1 + (M1.length + 1)) := hid (by rw [lenAt_blk HS1.out.ba, lenAt_blk HS1.out.bb]; rfl)
        clear hW1 hB1 HX1 HS1 HJ1 hmf hmt c0 e0 a0 a1 b0 b1
        go_upto_region 2 with fail
        by_cases hlt : mf < mt
        · have k0 : decide (mf < mt) = true := by simpa using hlt
          have HX3 : Hid ((pre ++ [(mf, mt)]) ++ (if t1 < t2 then cmnL (L1.length + (M1.length + 1)) L1 ((f2, t2) :: M1) else cmnL (L1.length + 1 + M1.length) ((f1, t1) :: L1) M1) = xs) := hid (by have := HX2.out; rwa [if_pos hlt, ← List.append_assoc] at this)
          obtain ⟨fn, tmps, assign, body, hy, hR⟩ := HY.out pre (mf, mt) W1 HJ2.out ⟨_, HX3.out⟩
          dsimp only at hy
          refine (wpIn_wide (n := n)).1 ?_
          gi_wp2
          refine ⟨fun h => absurd h (by simp [Fence.wide]), hR.mono ?_⟩
          rintro e W3 (⟨rfl, hJ3, hk3⟩ | ⟨rfl, hJx⟩)
          · have HS3 := hid (HS2.out.keep hKa hKb hk3)
            have HJ3 := hid hJ3
            obtain ⟨pre3, hpre3⟩ : ∃ p, pre ++ [(mf, mt)] = p := ⟨_, rfl⟩
            rw [hpre3] at HJ3 HX3
            clear hJ3 hk3 hy hR HS2 HJ2 HX2 hpre3
            gi_wp2
            have HS3' := HS3
            go_upto_region 3 with fail
            clear p0 p1
            have c0 := HS3.out.ba.at 0 rfl
            have e0 := HS3.out.bb.at 0 rfl
            obtain ⟨ab', ao', ea, _, hab', hac⟩ := HS3.out.ra (by simp)
            obtain ⟨bb', bo', eb, _, hbb', hbc⟩ := HS3.out.rb (by simp)
            injection ea with ea
            injection ea with ea1 ea2
            injection eb with eb
            injection eb with eb1 eb2
            subst ea1 ea2 eb1 eb2
            have a1 := (hac 0 _ rfl).2
            have b1 := (hbc 0 _ rfl).2
            simp only [Nat.zero_mul, Nat.add_zero] at a1 b1
            clear hac hbc
            by_cases htt : t1 < t2
            · have k2 : decide (t1 < t2) = true := by simpa using htt
              have HX4 : Hid (pre3 ++ cmnL (L1.length + (M1.length + 1)) L1 ((f2, t2) :: M1) = xs) := hid (by have := HX3.out; rwa [if_pos htt] at this)
              go_big_quiet (fail)
              obtain ⟨W4, hW4⟩ : ∃ W4, W3.drewN nq = W4 := ⟨_, rfl⟩
              rw [hW4]
              have hB4 : Below W3.heap.size W3 W4 := by rw [← hW4]; exact below_drewN (Below.refl _ _) _
              have HS4 := hid (HS3'.out.keep hKa hKb (KeepK.of hB4))
              have HJ4 : Hid (J pre3 W4) := hid (HJ.out _ _ _ none HJ3.out ⟨hB4.os, hB4.tape, hB4.output, hB4.size, fun k hk _ => hB4.block k hk⟩ (fun r e => by cases e))
              have c0 := HS4.out.ba.at 0 rfl
              have e0 := HS4.out.bb.at 0 rfl
              have f0 := HS4.out.ba.frozen 0
              have g0 := HS4.out.bb.frozen 0
              have hqa := HS4.out.la
              have hqb := HS4.out.lb
              simp only [List.length_cons] at hqa hqb c0 e0
              clear hW4 hB4 HS3' HS3 HJ3 HX3 a1 b1 k2
              by_cases hq : q1 = 1
              · subst hq
                have hL0 : L1 = [] := List.eq_nil_of_length_eq_zero (by omega)
                subst hL0
                simp only [List.length_nil] at *
                have hS5 : StI K Ba Bb (W4.setCell ⟨Ba, 0, none⟩ (.slice (some ⟨ab, ao, none⟩) 0 0)) (some ⟨ab, ao, none⟩) 0 [] (some ⟨bb, bo, none⟩) d1 ((f2, t2) :: M1) := HS4.out.stepA hne (some ⟨ab, ao, none⟩) (fun h => absurd rfl h)
                have HS5 := hid hS5
                clear hS5
                go_wp2_with fail
                exact ⟨⟨pre3, [], (f2, t2) :: M1, _, _, _, _, HX4, HS5, hid (HJ.out _ _ _ (some Ba) HJ4.out (grown_set _ _ _) (fun r e => by cases e; exact Or.inl rfl))⟩, by rw [HMS.out, lenAt_blk HS5.out.ba, lenAt_blk HS5.out.bb]; simp⟩
              · have HS5 := hid (HS4.out.stepA hne (some ⟨ab, ao + 2, none⟩) (fun _ => rfl))
                go_wp2_with fail
                exact ⟨⟨pre3, L1, (f2, t2) :: M1, _, _, _, _, HX4, HS5, hid (HJ.out _ _ _ (some Ba) HJ4.out (grown_set _ _ _) (fun r e => by cases e; exact Or.inl rfl))⟩, by rw [HMS.out, lenAt_blk HS5.out.ba, lenAt_blk HS5.out.bb]; simp⟩
            · have k2 : decide (t1 < t2) = false := by simpa using htt
              have HX4 : Hid (pre3 ++ cmnL (L1.length + 1 + M1.length) ((f1, t1) :: L1) M1 = xs) := hid (by have := HX3.out; rwa [if_neg htt] at this)
              go_big_quiet (fail)
              obtain ⟨W4, hW4⟩ : ∃ W4, W3.drewN nq = W4 := ⟨_, rfl⟩
              rw [hW4]
              have hB4 : Below W3.heap.size W3 W4 := by rw [← hW4]; exact below_drewN (Below.refl _ _) _
              have HS4 := hid (HS3'.out.keep hKa hKb (KeepK.of hB4))
              have HJ4 : Hid (J pre3 W4) := hid (HJ.out _ _ _ none HJ3.out ⟨hB4.os, hB4.tape, hB4.output, hB4.size, fun k hk _ => hB4.block k hk⟩ (fun r e => by cases e))
              have c0 := HS4.out.ba.at 0 rfl
              have e0 := HS4.out.bb.at 0 rfl
              have f0 := HS4.out.ba.frozen 0
              have g0 := HS4.out.bb.frozen 0
              have hqa := HS4.out.la
              have hqb := HS4.out.lb
              simp only [List.length_cons] at hqa hqb c0 e0
              clear hW4 hB4 HS3' HS3 HJ3 HX3 a1 b1 k2
              by_cases hq : d1 = 1
              · subst hq
                have hL0 : M1 = [] := List.eq_nil_of_length_eq_zero (by omega)
                subst hL0
                simp only [List.length_nil] at *
                have hS5 : StI K Ba Bb (W4.setCell ⟨Bb, 0, none⟩ (.slice (some ⟨bb, bo, none⟩) 0 0)) (some ⟨ab, ao, none⟩) q1 ((f1, t1) :: L1) (some ⟨bb, bo, none⟩) 0 [] := HS4.out.stepB hne (some ⟨bb, bo, none⟩) (fun h => absurd rfl h)
                have HS5 := hid hS5
                clear hS5
                go_wp2_with fail
                exact ⟨⟨pre3, (f1, t1) :: L1, [], _, _, _, _, HX4, HS5, hid (HJ.out _ _ _ (some Bb) HJ4.out (grown_set _ _ _) (fun r e => by cases e; exact Or.inr rfl))⟩, by rw [HMS.out, lenAt_blk HS5.out.ba, lenAt_blk HS5.out.bb]; simp⟩
              · have HS5 := hid (HS4.out.stepB hne (some ⟨bb, bo + 2, none⟩) (fun _ => rfl))
                go_wp2_with fail
                exact ⟨⟨pre3, (f1, t1) :: L1, M1, _, _, _, _, HX4, HS5, hid (HJ.out _ _ _ (some Bb) HJ4.out (grown_set _ _ _) (fun r e => by cases e; exact Or.inr rfl))⟩, by rw [HMS.out, lenAt_blk HS5.out.ba, lenAt_blk HS5.out.bb]; simp⟩
          · have HJx := hid hJx
            have HPX : Hid ((pre ++ [(mf, mt)]) <+: xs) := hid ⟨_, HX3.out⟩
            clear hJx hy hR
            gi_wp2
            go_wp2_with fail
            refine bodyPost_ret (results_none rfl _ _ _) rfl ?_
            exact ⟨⟨_, rfl⟩, Or.inr ⟨_, HPX.out, HJx.out⟩⟩
        · have k0 : decide (mf < mt) = false := by simpa using hlt
          have HX3 : Hid (pre ++ (if t1 < t2 then cmnL (L1.length + (M1.length + 1)) L1 ((f2, t2) :: M1) else cmnL (L1.length + 1 + M1.length) ((f1, t1) :: L1) M1) = xs) := hid (by have := HX2.out; rwa [if_neg hlt, List.nil_append] at this)
          have HS3 := HS2
          have HJ3 := HJ2
          obtain ⟨pre3, hpre3⟩ : ∃ p, pre = p := ⟨_, rfl⟩
          rw [hpre3] at HJ3 HX3
          clear HS2 HJ2 HX2 hpre3
          have HS3' := HS3
          go_upto_region 3 with fail
          clear p0 p1
          have c0 := HS3.out.ba.at 0 rfl
          have e0 := HS3.out.bb.at 0 rfl
          obtain ⟨ab', ao', ea, _, hab', hac⟩ := HS3.out.ra (by simp)
          obtain ⟨bb', bo', eb, _, hbb', hbc⟩ := HS3.out.rb (by simp)
          injection ea with ea
          injection ea with ea1 ea2
          injection eb with eb
          injection eb with eb1 eb2
          subst ea1 ea2 eb1 eb2
          have a1 := (hac 0 _ rfl).2
          have b1 := (hbc 0 _ rfl).2
          simp only [Nat.zero_mul, Nat.add_zero] at a1 b1
          clear hac hbc
          by_cases htt : t1 < t2
          · have k2 : decide (t1 < t2) = true := by simpa using htt
            have HX4 : Hid (pre3 ++ cmnL (L1.length + (M1.length + 1)) L1 ((f2, t2) :: M1) = xs) := hid (by have := HX3.out; rwa [if_pos htt] at this)
            go_big_quiet (fail)
            obtain ⟨W4, hW4⟩ : ∃ W4, W1.drewN nq = W4 := ⟨_, rfl⟩
            rw [hW4]
            have hB4 : Below W1.heap.size W1 W4 := by rw [← hW4]; exact below_drewN (Below.refl _ _) _
            have HS4 := hid (HS3'.out.keep hKa hKb (KeepK.of hB4))
            have HJ4 : Hid (J pre3 W4) := hid (HJ.out _ _ _ none HJ3.out ⟨hB4.os, hB4.tape, hB4.output, hB4.size, fun k hk _ => hB4.block k hk⟩ (fun r e => by cases e))
            have c0 := HS4.out.ba.at 0 rfl
            have e0 := HS4.out.bb.at 0 rfl
            have f0 := HS4.out.ba.frozen 0
            have g0 := HS4.out.bb.frozen 0
            have hqa := HS4.out.la
            have hqb := HS4.out.lb
            simp only [List.length_cons] at hqa hqb c0 e0
            clear hW4 hB4 HS3' HS3 HJ3 HX3 a1 b1 k2
            by_cases hq : q1 = 1
            · subst hq
              have hL0 : L1 = [] := List.eq_nil_of_length_eq_zero (by omega)
              subst hL0
              simp only [List.length_nil] at *
              have hS5 : StI K Ba Bb (W4.setCell ⟨Ba, 0, none⟩ (.slice (some ⟨ab, ao, none⟩) 0 0)) (some ⟨ab, ao, none⟩) 0 [] (some ⟨bb, bo, none⟩) d1 ((f2, t2) :: M1) := HS4.out.stepA hne (some ⟨ab, ao, none⟩) (fun h => absurd rfl h)
              have HS5 := hid hS5
              clear hS5
              go_wp2_with fail
              exact ⟨⟨pre3, [], (f2, t2) :: M1, _, _, _, _, HX4, HS5, hid (HJ.out _ _ _ (some Ba) HJ4.out (grown_set _ _ _) (fun r e => by cases e; exact Or.inl rfl))⟩, by rw [HMS.out, lenAt_blk HS5.out.ba, lenAt_blk HS5.out.bb]; simp⟩
            · have HS5 := hid (HS4.out.stepA hne (some ⟨ab, ao + 2, none⟩) (fun _ => rfl))
              go_wp2_with fail
              exact ⟨⟨pre3, L1, (f2, t2) :: M1, _, _, _, _, HX4, HS5, hid (HJ.out _ _ _ (some Ba) HJ4.out (grown_set _ _ _) (fun r e => by cases e; exact Or.inl rfl))⟩, by rw [HMS.out, lenAt_blk HS5.out.ba, lenAt_blk HS5.out.bb]; simp⟩
          · have k2 : decide (t1 < t2) = false := by simpa using htt
            have HX4 : Hid (pre3 ++ cmnL (L1.length + 1 + M1.length) ((f1, t1) :: L1) M1 = xs) := hid (by have := HX3.out; rwa [if_neg htt] at this)
            go_big_quiet (fail)
            obtain ⟨W4, hW4⟩ : ∃ W4, W1.drewN nq = W4 := ⟨_, rfl⟩
            rw [hW4]
            have hB4 : Below W1.heap.size W1 W4 := by rw [← hW4]; exact below_drewN (Below.refl _ _) _
            have HS4 := hid (HS3'.out.keep hKa hKb (KeepK.of hB4))
            have HJ4 : Hid (J pre3 W4) := hid (HJ.out _ _ _ none HJ3.out ⟨hB4.os, hB4.tape, hB4.output, hB4.size, fun k hk _ => hB4.block k hk⟩ (fun r e => by cases e))
            have c0 := HS4.out.ba.at 0 rfl
            have e0 := HS4.out.bb.at 0 rfl
            have f0 := HS4.out.ba.frozen 0
            have g0 := HS4.out.bb.frozen 0
            have hqa := HS4.out.la
            have hqb := HS4.out.lb
            simp only [List.length_cons] at hqa hqb c0 e0
            clear hW4 hB4 HS3' HS3 HJ3 HX3 a1 b1 k2
            by_cases hq : d1 = 1
            · subst hq
              have hL0 : M1 = [] := List.eq_nil_of_length_eq_zero (by omega)
              subst hL0
              simp only [List.length_nil] at *
              have hS5 : StI K Ba Bb (W4.setCell ⟨Bb, 0, none⟩ (.slice (some ⟨bb, bo, none⟩) 0 0)) (some ⟨ab, ao, none⟩) q1 ((f1, t1) :: L1) (some ⟨bb, bo, none⟩) 0 [] := HS4.out.stepB hne (some ⟨bb, bo, none⟩) (fun h => absurd rfl h)
              have HS5 := hid hS5
              clear hS5
              go_wp2_with fail
              exact ⟨⟨pre3, (f1, t1) :: L1, [], _, _, _, _, HX4, HS5, hid (HJ.out _ _ _ (some Bb) HJ4.out (grown_set _ _ _) (fun r e => by cases e; exact Or.inr rfl))⟩, by rw [HMS.out, lenAt_blk HS5.out.ba, lenAt_blk HS5.out.bb]; simp⟩
            · have HS5 := hid (HS4.out.stepB hne (some ⟨bb, bo + 2, none⟩) (fun _ => rfl))
              go_wp2_with fail
              exact ⟨⟨pre3, (f1, t1) :: L1, M1, _, _, _, _, HX4, HS5, hid (HJ.out _ _ _ (some Bb) HJ4.out (grown_set _ _ _) (fun r e => by cases e; exact Or.inr rfl))⟩, by rw [HMS.out, lenAt_blk HS5.out.ba, lenAt_blk HS5.out.bb]; simp⟩
end Go.Proofs.Ythdllghpfniclaa
