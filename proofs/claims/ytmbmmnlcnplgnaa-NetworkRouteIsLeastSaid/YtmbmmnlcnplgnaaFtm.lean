/-
  The walks of network.Times, Between and Edge: what they answer. Condition: the lists lie in memory as they read.
-/
import Derived.Test.YtmbmmnlcnplgnaaTim
namespace Go.Proofs.Ytmbmmnlcnplgnaa
open Go.RowKit
theorem bldE_ok {P : List Plc} {E : List Edg} {L : List Int} (h : bldE P E L = 0) : chkE P E = 0 ∧ ∀ x ∈ L, 0 ≤ x ∧ x < P.length := by
  unfold bldE at h
  split at h
  · rename_i hc; exact absurd h hc
  · rename_i hc
    split at h
    · omega
    · rename_i h2
      refine ⟨by omega, fun x hx => ?_⟩
      have h3 : L.all (exB P) = true := by simpa using h2
      have := List.all_eq_true.1 h3 x hx
      unfold exB at this
      simpa using this
theorem one_int (w : World) (x : Int) (o : Obj) (ho : o = .cells #[.int .i64 x] 3) : IntR (w.alloc o) (some ⟨w.heap.size, 0, none⟩) [x] := by
  subst ho
  intro _
  refine ⟨w.heap.size, 0, rfl, (Blk.new w 3 #[.int .i64 x]).lt, fun j u hu => ?_⟩
  rw [Nat.zero_add]
  exact (Blk.new w 3 #[.int .i64 x]).at j (by simpa [intC] using hu)
theorem two_int (w : World) (x y : Int) : IntR (w.alloc (.cells #[.int .i64 x, .int .i64 y] 3)) (some ⟨w.heap.size, 0, none⟩) [x, y] := by
  intro _
  refine ⟨w.heap.size, 0, rfl, (Blk.new w 3 #[.int .i64 x, .int .i64 y]).lt, fun j u hu => ?_⟩
  rw [Nat.zero_add]
  exact (Blk.new w 3 #[.int .i64 x, .int .i64 y]).at j (by simpa [intC] using hu)
/-- What Times answers. -/
def TmsP (w : World) (P : List Plc) (E : List Edg) (s : Int) (e : Ending) (w' : World) : Prop :=
  Below w.heap.size w w' ∧ ((bldE P E [s] ≠ 0 ∧ e = .returned (.tuple #[.slice none 0 0, .int .i64 (bldE P E [s])])) ∨
    (bldE P E [s] = 0 ∧ ∃ t g, e = .returned (.tuple #[.slice (some ⟨g, 0, none⟩) P.length P.length, .int .i64 0]) ∧ Dst E P.length s.toNat t ∧ RowI w' g t ∧ w.heap.size ≤ g ∧ ∀ p, p < P.length → t.getD p 0 ≤ 51200000))
set_option maxHeartbeats 4000000 in
set_option maxRecDepth 100000 in
theorem Times_any (P : List Plc) (E : List Edg) (A1 A2 : Option Addr) (c1 c2 : Nat) (s : Int) (w : World) (h1 : PlcR w A1 P) (h2 : EdgR w A2 E) :
    Calls Try.prog 15 #[netV A1 P.length c1 A2 E.length c2, .int .i64 s] w (TmsP w P E s) := by
  have H1 := hid h1
  have H2 := hid h2
  clear h1 h2
  have hB1 : Below w.heap.size w ((w.alloc (.cells #[.slice A1 P.length c1, .slice A2 E.length c2] 25)).alloc (.cells #[.int .i64 s] 3)) := ((Below.refl _ _).alloc (Nat.le_refl _) _).alloc (by simp) _
  have hn1 : Blk ((w.alloc (.cells #[.slice A1 P.length c1, .slice A2 E.length c2] 25)).alloc (.cells #[.int .i64 s] 3)) w.heap.size 25 #[.slice A1 P.length c1, .slice A2 E.length c2] := (Blk.new _ _ _).alloc _
  have hi1 : IntR ((w.alloc (.cells #[.slice A1 P.length c1, .slice A2 E.length c2] 25)).alloc (.cells #[.int .i64 s] 3)) (some ⟨w.heap.size + 1, 0, none⟩) [s] := by
    have := one_int (w.alloc (.cells #[.slice A1 P.length c1, .slice A2 E.length c2] 25)) s _ rfl
    simpa using this
  have HB1 := hid hB1
  have HN1 := hid hn1
  have HBL := hid (build_any P E [s] A1 A2 (some ⟨w.heap.size + 1, 0, none⟩) c1 c2 1 _ (H1.out.below hB1) (H2.out.below hB1) hi1 (by simp))
  clear hB1 hn1 hi1
  unfold netV at HBL ⊢
  go_enter Try.func15, Try.ntmps15
  go_wp2_with fail
  refine HBL.out.mono ?_
  rintro e w1 ⟨hb, hr⟩
  have HB := hid (HB1.out.trans (hb.mono HB1.out.size))
  have HN := hid (HN1.out.below hb HN1.out.lt)
  clear hb HB1 HN1 HBL
  rcases hr with ⟨hr, rfl⟩ | ⟨hr, gn, bm, rfl, hG⟩
  · have k0 : (bldE P E [s] != 0) = true := by simpa using hr
    have HR := hid hr
    clear hr
    have HP : Hid (∀ W, Below w.heap.size w W → TmsP w P E s (.returned (.tuple #[.slice none 0 0, .int .i64 (bldE P E [s])])) W) := hid (fun W h => ⟨h, Or.inl ⟨HR.out, rfl⟩⟩)
    generalize bldE P E [s] = r at *
    go_wp2_with fail
    go_ret2
    exact HP.out _ (HB.out.alloc HB.out.size _)
  · obtain ⟨hc, hL⟩ := bldE_ok hr
    obtain ⟨hP5, hE5, hV⟩ := chkE_ok hc
    have hs := hL s (by simp)
    obtain ⟨sn, rfl⟩ : ∃ n : Nat, s = n := ⟨s.toNat, by omega⟩
    have HR := hid hr
    have hB2 : Below w1.heap.size w1 (w1.alloc (.cells #[.slice (some ⟨gn, 0, none⟩) P.length P.length, .map (some bm)] 61)) := (Below.refl _ _).alloc (Nat.le_refl _) _
    have HTI := hid (times_any P E A1 A2 c1 c2 _ gn bm sn (w1.alloc (.cells #[.slice (some ⟨gn, 0, none⟩) P.length P.length, .map (some bm)] 61)) ((H2.out.below HB.out).below hB2) (hG.keep hB2) hV hP5 hE5 (by omega))
    have HB2 := hid (HB.out.trans (hB2.mono HB.out.size))
    have q0 := ((HN.out.below hB2 HN.out.lt).at 0 rfl)
    have q1 := ((HN.out.below hB2 HN.out.lt).at 1 rfl)
    unfold netV gV at HTI
    unfold gV
    clear hr hc hL hV hG hB2
    go_wp2_with fail
    refine HTI.out.mono ?_
    rintro e w2 ⟨t, g, rfl, hD, hT, hb, hg, hbd⟩
    have HP : Hid (TmsP w P E sn (.returned (.tuple #[.slice (some ⟨g, 0, none⟩) P.length P.length, .int .i64 0])) w2) := hid ⟨HB2.out.trans (hb.mono HB2.out.size), Or.inr ⟨HR.out, t, g, rfl, by simpa using hD, hT, Nat.le_trans HB2.out.size hg, hbd⟩⟩
    clear hD hT hb hg q0 q1 HTI hbd
    go_wp2_with fail
    go_ret2
    exact HP.out
/-- What Between answers: the time and the error. -/
def BetS (P : List Plc) (E : List Edg) (a b x r : Int) : Prop :=
  (bldE P E [a, b] ≠ 0 ∧ x = 0 ∧ r = bldE P E [a, b]) ∨ (bldE P E [a, b] = 0 ∧ ∃ d, IsD E a b d ∧ ((d < 0 ∧ x = 0 ∧ r = 80) ∨ (0 ≤ d ∧ x = d ∧ r = 0)))
def BetP (w : World) (P : List Plc) (E : List Edg) (a b : Int) (e : Ending) (w' : World) : Prop :=
  Below w.heap.size w w' ∧ ∃ x r, e = .returned (.tuple #[.int .i64 x, .int .i64 r]) ∧ BetS P E a b x r
set_option maxHeartbeats 4000000 in
set_option maxRecDepth 100000 in
theorem Between_any (P : List Plc) (E : List Edg) (A1 A2 : Option Addr) (c1 c2 : Nat) (a b : Int) (w : World) (h1 : PlcR w A1 P) (h2 : EdgR w A2 E) :
    Calls Try.prog 16 #[netV A1 P.length c1 A2 E.length c2, .int .i64 a, .int .i64 b] w (BetP w P E a b) := by
  have H1 := hid h1
  have H2 := hid h2
  clear h1 h2
  have hB1 : Below w.heap.size w ((w.alloc (.cells #[.slice A1 P.length c1, .slice A2 E.length c2] 25)).alloc (.cells #[.int .i64 a, .int .i64 b] 3)) := ((Below.refl _ _).alloc (Nat.le_refl _) _).alloc (by simp) _
  have hn1 : Blk ((w.alloc (.cells #[.slice A1 P.length c1, .slice A2 E.length c2] 25)).alloc (.cells #[.int .i64 a, .int .i64 b] 3)) w.heap.size 25 #[.slice A1 P.length c1, .slice A2 E.length c2] := (Blk.new _ _ _).alloc _
  have hi1 : IntR ((w.alloc (.cells #[.slice A1 P.length c1, .slice A2 E.length c2] 25)).alloc (.cells #[.int .i64 a, .int .i64 b] 3)) (some ⟨w.heap.size + 1, 0, none⟩) [a, b] := by
    have := two_int (w.alloc (.cells #[.slice A1 P.length c1, .slice A2 E.length c2] 25)) a b
    simpa using this
  have HB1 := hid hB1
  have HN1 := hid hn1
  have HBL := hid (build_any P E [a, b] A1 A2 (some ⟨w.heap.size + 1, 0, none⟩) c1 c2 2 _ (H1.out.below hB1) (H2.out.below hB1) hi1 (by simp))
  clear hB1 hn1 hi1
  unfold netV at HBL ⊢
  go_enter Try.func16, Try.ntmps16
  go_wp2_with fail
  refine HBL.out.mono ?_
  rintro e w1 ⟨hb, hr⟩
  have HB := hid (HB1.out.trans (hb.mono HB1.out.size))
  have HN := hid (HN1.out.below hb HN1.out.lt)
  clear hb HB1 HN1 HBL
  rcases hr with ⟨hr, rfl⟩ | ⟨hr, gn, bm, rfl, hG⟩
  · have k0 : (bldE P E [a, b] != 0) = true := by simpa using hr
    have HP : Hid (∀ W, Below w.heap.size w W → BetP w P E a b (.returned (.tuple #[.int .i64 0, .int .i64 (bldE P E [a, b])])) W) := hid (fun W h => ⟨h, _, _, rfl, Or.inl ⟨hr, rfl, rfl⟩⟩)
    clear hr
    generalize bldE P E [a, b] = r at *
    go_wp2_with fail
    go_ret2
    exact HP.out _ (HB.out.alloc HB.out.size _)
  · obtain ⟨hc, hL⟩ := bldE_ok hr
    obtain ⟨hP5, hE5, hV⟩ := chkE_ok hc
    have ha := hL a (by simp)
    have hb := hL b (by simp)
    obtain ⟨an, rfl⟩ : ∃ n : Nat, a = n := ⟨a.toNat, by omega⟩
    obtain ⟨bn, rfl⟩ : ∃ n : Nat, b = n := ⟨b.toNat, by omega⟩
    have hbn : bn < P.length := by omega
    have HR := hid hr
    have hB2 : Below w1.heap.size w1 (w1.alloc (.cells #[.slice (some ⟨gn, 0, none⟩) P.length P.length, .map (some bm)] 61)) := (Below.refl _ _).alloc (Nat.le_refl _) _
    have HTI := hid (times_any P E A1 A2 c1 c2 _ gn bm an (w1.alloc (.cells #[.slice (some ⟨gn, 0, none⟩) P.length P.length, .map (some bm)] 61)) ((H2.out.below HB.out).below hB2) (hG.keep hB2) hV hP5 hE5 (by omega))
    have HB2 := hid (HB.out.trans (hB2.mono HB.out.size))
    have q0 := ((HN.out.below hB2 HN.out.lt).at 0 rfl)
    have q1 := ((HN.out.below hB2 HN.out.lt).at 1 rfl)
    unfold netV gV at HTI
    unfold gV
    clear hr hc hL hV hG hB2
    go_wp2_with fail
    refine HTI.out.mono ?_
    rintro e w2 ⟨t, g, rfl, hD, hT, hb', hg, -⟩
    have HI := hid (hD.isd bn hbn)
    have c0 := hT.at bn (by rw [hD.len]; exact hbn)
    have HBB := hid (HB2.out.trans (hb'.mono HB2.out.size))
    clear hD hT hb' hg q0 q1 HTI
    generalize t.getD bn 0 = d at *
    by_cases hd : d < 0
    · have k0 : decide (d < 0) = true := by simpa using hd
      have HP : Hid (BetP w P E an bn (.returned (.tuple #[.int .i64 0, .int .i64 80])) w2) := hid ⟨HBB.out, _, _, rfl, Or.inr ⟨HR.out, d, HI.out, Or.inl ⟨hd, rfl, rfl⟩⟩⟩
      clear hd
      go_wp2_with fail
      go_ret2
      exact HP.out
    · have k0 : decide (d < 0) = false := by simpa using hd
      have HP : Hid (BetP w P E an bn (.returned (.tuple #[.int .i64 d, .int .i64 0])) w2) := hid ⟨HBB.out, _, _, rfl, Or.inr ⟨HR.out, d, HI.out, Or.inr ⟨by omega, rfl, rfl⟩⟩⟩
      clear hd
      go_wp2_with fail
      go_ret2
      exact HP.out
/-- What Edge answers: the line and the error. -/
def EdgS (P : List Plc) (E : List Edg) (a b x r : Int) : Prop :=
  (bldE P E [a, b] ≠ 0 ∧ x = 0 ∧ r = bldE P E [a, b]) ∨ (bldE P E [a, b] = 0 ∧ ((lin E a b < 0 ∧ x = 0 ∧ r = 80) ∨ (0 ≤ lin E a b ∧ x = lin E a b ∧ r = 0)))
def EdgP (w : World) (P : List Plc) (E : List Edg) (a b : Int) (e : Ending) (w' : World) : Prop :=
  Below w.heap.size w w' ∧ ∃ x r, e = .returned (.tuple #[.int .i64 x, .int .i64 r]) ∧ EdgS P E a b x r
set_option maxHeartbeats 4000000 in
set_option maxRecDepth 100000 in
theorem Edge_any (P : List Plc) (E : List Edg) (A1 A2 : Option Addr) (c1 c2 : Nat) (a b : Int) (w : World) (h1 : PlcR w A1 P) (h2 : EdgR w A2 E) :
    Calls Try.prog 18 #[netV A1 P.length c1 A2 E.length c2, .int .i64 a, .int .i64 b] w (EdgP w P E a b) := by
  have H1 := hid h1
  have H2 := hid h2
  clear h1 h2
  have hB1 : Below w.heap.size w ((w.alloc (.cells #[.slice A1 P.length c1, .slice A2 E.length c2] 25)).alloc (.cells #[.int .i64 a, .int .i64 b] 3)) := ((Below.refl _ _).alloc (Nat.le_refl _) _).alloc (by simp) _
  have hn1 : Blk ((w.alloc (.cells #[.slice A1 P.length c1, .slice A2 E.length c2] 25)).alloc (.cells #[.int .i64 a, .int .i64 b] 3)) w.heap.size 25 #[.slice A1 P.length c1, .slice A2 E.length c2] := (Blk.new _ _ _).alloc _
  have hi1 : IntR ((w.alloc (.cells #[.slice A1 P.length c1, .slice A2 E.length c2] 25)).alloc (.cells #[.int .i64 a, .int .i64 b] 3)) (some ⟨w.heap.size + 1, 0, none⟩) [a, b] := by
    have := two_int (w.alloc (.cells #[.slice A1 P.length c1, .slice A2 E.length c2] 25)) a b
    simpa using this
  have HB1 := hid hB1
  have HBL := hid (build_any P E [a, b] A1 A2 (some ⟨w.heap.size + 1, 0, none⟩) c1 c2 2 _ (H1.out.below hB1) (H2.out.below hB1) hi1 (by simp))
  clear hB1 hn1 hi1
  unfold netV at HBL ⊢
  go_enter Try.func18, Try.ntmps18
  go_wp2_with fail
  refine HBL.out.mono ?_
  rintro e w1 ⟨hb, hr⟩
  have HB := hid (HB1.out.trans (hb.mono HB1.out.size))
  clear hb HB1 HBL
  rcases hr with ⟨hr, rfl⟩ | ⟨hr, gn, bm, rfl, hG⟩
  · have k0 : (bldE P E [a, b] != 0) = true := by simpa using hr
    have HP : Hid (∀ W, Below w.heap.size w W → EdgP w P E a b (.returned (.tuple #[.int .i64 0, .int .i64 (bldE P E [a, b])])) W) := hid (fun W h => ⟨h, _, _, rfl, Or.inl ⟨hr, rfl, rfl⟩⟩)
    clear hr
    generalize bldE P E [a, b] = r at *
    go_wp2_with fail
    go_ret2
    exact HP.out _ (HB.out.alloc HB.out.size _)
  · obtain ⟨hc, hL⟩ := bldE_ok hr
    obtain ⟨hP5, hE5, hV⟩ := chkE_ok hc
    have ha := hL a (by simp)
    have hb := hL b (by simp)
    have HR := hid hr
    have hB2 : Below w1.heap.size w1 (w1.alloc (.cells #[.slice (some ⟨gn, 0, none⟩) P.length P.length, .map (some bm)] 61)) := (Below.refl _ _).alloc (Nat.le_refl _) _
    have HB2 := hid (HB.out.trans (hB2.mono HB.out.size))
    have hlk : (Instr.lookup 59 (.map (some bm)) (.agg #[.int .i64 a, .int .i64 b]) true).run Try.prog (w1.alloc (.cells #[.slice (some ⟨gn, 0, none⟩) P.length P.length, .map (some bm)] 61)) = .ok (.tuple #[.int .i64 ((opt (lin E) (a, b)).getD 0), .bool (opt (lin E) (a, b)).isSome]) (w1.alloc (.cells #[.slice (some ⟨gn, 0, none⟩) P.length P.length, .map (some bm)] 61)) :=
      (hG.map.keep hB2).look_ok keyed65 Try.underlying59 (a, b) (key2 ⟨by omega, by omega⟩ ⟨by omega, by omega⟩)
    unfold gV
    clear hr hc hL hV hG hB2
    rcases (by omega : lin E a b < 0 ∨ 0 ≤ lin E a b) with hl | hl
    · rw [opt_no hl] at hlk
      simp only [Option.getD_none, Option.isSome_none] at hlk
      have HP : Hid (∀ W, Below w.heap.size w W → EdgP w P E a b (.returned (.tuple #[.int .i64 0, .int .i64 80])) W) := hid (fun W h => ⟨h, _, _, rfl, Or.inr ⟨HR.out, Or.inl ⟨hl, rfl, rfl⟩⟩⟩)
      clear hl
      go_wp2_with fail
      go_ret2
      exact HP.out _ HB2.out
    · rw [opt_yes hl] at hlk
      simp only [Option.getD_some, Option.isSome_some] at hlk
      have HP : Hid (∀ W, Below w.heap.size w W → EdgP w P E a b (.returned (.tuple #[.int .i64 (lin E a b), .int .i64 0])) W) := hid (fun W h => ⟨h, _, _, rfl, Or.inr ⟨HR.out, Or.inr ⟨hl, rfl, rfl⟩⟩⟩)
      clear hl
      generalize lin E a b = l at *
      go_wp2_with fail
      go_ret2
      exact HP.out _ HB2.out
end Go.Proofs.Ytmbmmnlcnplgnaa
