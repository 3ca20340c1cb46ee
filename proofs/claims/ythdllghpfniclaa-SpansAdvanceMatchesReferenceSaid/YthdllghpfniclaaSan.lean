/-
  The walks of wagonpoollaw05.sane (the chapter's examples), few and span, and of wagonpoolref05.Same at two equal lists. Conditions: the lists lie in memory as they read.
-/
import Derived.Test.YthdllghpfniclaaAdv
import Derived.Test.YthdllghpfniclaaCat
import Derived.Test.YthdllghpfniclaaCon
import Derived.Test.YthdllghpfniclaaChk
namespace Go.Proofs.Ythdllghpfniclaa
open Go.RowKit
theorem few_yes (A : Option Addr) (n c : Nat) (w : World) (h : n ≤ 40) : Calls Try.prog 9 #[.slice A n c] w fun e w' => e = .returned (.bool true) ∧ w = w' := by
  go_enter Try.func9, Try.ntmps9
  go_wp2_with fail
  go_ret
  exact ⟨ret_bool (by simp; omega), rfl⟩
theorem few_no (A : Option Addr) (n c : Nat) (w : World) (h : ¬ n ≤ 40) : Calls Try.prog 9 #[.slice A n c] w fun e w' => e = .returned (.bool false) ∧ w = w' := by
  go_enter Try.func9, Try.ntmps9
  go_wp2_with fail
  go_ret
  exact ⟨ret_bool (by simp; omega), rfl⟩
theorem span_any (a b : Int) (w : World) : Calls Try.prog 21 #[.int .i64 a, .int .i64 b] w fun e w' => e = .returned (.slice (some ⟨w.heap.size, 0, none⟩) 1 1) ∧ w' = w.alloc (.cells #[.int .i64 a, .int .i64 b] 31) := by
  go_enter Try.func21, Try.ntmps21
  go_wp2_with fail
  go_ret
  exact ⟨rfl, rfl⟩
theorem SpR.lit {w : World} {p : Nat} {L : List Sp} {cs : Array Value} (h : Blk w p 31 cs) (hc : cs = (spC L).toArray) : SpR w (some ⟨p, 0, none⟩) L := fun _ =>
  ⟨p, 0, rfl, h.lt, fun j u hu => by rw [Nat.zero_add, h.cell j, hc]; simpa using hu⟩
set_option maxHeartbeats 1000000 in
theorem same_any (L : List Sp) (A B : Option Addr) (c d : Nat) (w : World) (hA : SpR w A L) (hB : SpR w B L) (hl : L.length ≤ 1000000) :
    Calls Try.prog 16 #[.slice A L.length c, .slice B L.length d] w fun e w' => e = .returned (.bool true) ∧ Below w.heap.size w w' := by
  have HA := hid hA
  have HB := hid hB
  clear hA hB
  go_enter Try.func16, Try.ntmps16
  go_wp2_with fail
  go_loopw [5] (fun s5 wr => ∃ i : Nat, i ≤ L.length ∧ s5 = .int .i64 i ∧ Hid (Below w.heap.size w wr)) (fun s5 _ => L.length - (intOf s5).toNat)
  case atStart => exact ⟨0, Nat.zero_le _, rfl, hid (Below.refl _ _)⟩
  case round =>
    obtain ⟨i, hi, rfl, HW⟩ := hrel
    by_cases hlt : i < L.length
    · have k0 : decide (i < L.length) = true := by simpa using hlt
      obtain ⟨b, off, rfl, hb, hc⟩ := HA.out.at2 HW.out (by omega)
      obtain ⟨b', off', rfl, hb', hc'⟩ := HB.out.at2 HW.out (by omega)
      obtain ⟨l0, l1⟩ := hc i _ (List.getElem?_eq_getElem hlt)
      obtain ⟨m0, m1⟩ := hc' i _ (List.getElem?_eq_getElem hlt)
      clear hc hc'
      generalize L[i] = s at *
      obtain ⟨f, t⟩ := s
      simp only at l0 l1 m0 m1
      go_wp2_with fail
      go_region
      go_wp2_with fail
      exact ⟨⟨i + 1, by omega, by go_num, hid (below_drewN HW.out 1)⟩, by simp [intOf]; omega⟩
    · have : i = L.length := by omega
      subst this
      go_wp2_with fail
      go_ret
      exact ⟨rfl, HW.out⟩
def exA : List Sp := [(5, 9), (0, 5), (20, 10), (-3, 1)]
def two : List Sp := [(0, 10), (20, 30)]
def holes : List Sp := [(3, 4), (8, 20)]
theorem mem_one (s : Sp) (m : Int) : mem [s] m ↔ s.1 ≤ m ∧ m < s.2 := by
  rw [mem_cons]
  exact ⟨fun h => by rcases h with h | h; exact h; exact absurd h (mem_nil m), Or.inl⟩
theorem mem_two (s t : Sp) (m : Int) : mem [s, t] m ↔ (s.1 ≤ m ∧ m < s.2) ∨ (t.1 ≤ m ∧ m < t.2) := by rw [mem_cons, mem_one]; rfl
theorem exA_n {X : List Sp} (h : IsN exA X) : X = [(0, 9)] := by
  refine h.uniq ⟨by simp [Nrm, nrmF, MX], fun m => ?_⟩
  unfold exA
  rw [mem_one, mem_cons, mem_cons, mem_two]
  simp only [inS]
  unfold MX
  omega
theorem exB_n {X : List Sp} (h : IsN [(0, 5), (6, 9)] X) : X = [(0, 5), (6, 9)] := h.uniq (IsN.self (by simp [Nrm, nrmF, MX]))
theorem exC_n {X : List Sp} (h : IsN [(0, 5), (5, 9)] X) : X = [(0, 9)] := by
  refine h.uniq ⟨by simp [Nrm, nrmF, MX], fun m => ?_⟩
  rw [mem_one, mem_two]
  unfold MX
  omega
theorem exD_n {X : List Sp} (h : IntC two [(5, 25)] X) : X = [(5, 10), (20, 25)] := by
  refine Nrm.ext h.1 (by simp [Nrm, nrmF, MX]) (fun m => ?_)
  rw [h.2.1]
  unfold two
  rw [mem_two, mem_one, mem_two]
  unfold MX
  omega
theorem exE_n {X : List Sp} (h : MinC [(0, 10)] holes X) : X = [(0, 3), (4, 8)] := by
  refine Nrm.ext h.1 (by simp [Nrm, nrmF, MX]) (fun m => ?_)
  rw [h.2.1]
  unfold holes
  rw [mem_two, mem_one, mem_two]
  unfold MX
  omega
theorem exM_n {X : List Sp} (h : IsN [(0, 10), (5, 15)] X) : X = [(0, 15)] := by
  refine h.uniq ⟨by simp [Nrm, nrmF, MX], fun m => ?_⟩
  rw [mem_one, mem_two]
  unfold MX
  omega
theorem exF_n {X : List Sp} (h : FrmC two 5 X) : X = [(5, 10), (20, 30)] := by
  refine Nrm.ext h.1 (by simp [Nrm, nrmF, MX]) (fun m => ?_)
  rw [h.2.1]
  unfold two
  rw [mem_two, mem_two]
  unfold MX
  omega
theorem adv7 {m : Int} {ok : Bool} (h : AdvP two 5 7 m ok) : m = 22 ∧ ok = true := by
  rcases h with ⟨h, _⟩ | ⟨h, _⟩ | ⟨_, X, hX, h⟩
  · omega
  · omega
  · rw [exF_n hX] at h
    simp [advL] at h
    exact ⟨h.1.symm, h.2⟩
theorem adv0 {m : Int} {ok : Bool} (h : AdvP two 5 0 m ok) : m = 5 ∧ ok = true := by
  rcases h with ⟨h, _⟩ | ⟨_, h⟩ | ⟨h, _⟩
  · omega
  · exact h
  · omega
theorem adv16 {m : Int} {ok : Bool} (h : AdvP two 5 16 m ok) : m = 0 ∧ ok = false := by
  rcases h with ⟨h, _⟩ | ⟨h, _⟩ | ⟨_, X, hX, h⟩
  · omega
  · omega
  · rw [exF_n hX] at h
    simp [advL] at h
    exact h
set_option maxHeartbeats 4000000 in
theorem sane_any (w : World) : Calls Try.prog 8 #[] w fun e w' => e = .returned (.bool true) ∧ Below w.heap.size w w' := by
  go_enter Try.func8, Try.ntmps8
  go_upto_region 3 with fail
  obtain ⟨W0, hW0⟩ : ∃ W0, (w.alloc (.cells #[.int .i64 0, .int .i64 10, .int .i64 20, .int .i64 30] 31)).alloc (.cells #[.int .i64 3, .int .i64 4, .int .i64 8, .int .i64 20] 31) = W0 := ⟨_, rfl⟩
  have hb0 : Below w.heap.size w W0 := by rw [← hW0]; exact ((Below.refl _ _).alloc (Nat.le_refl _) _).alloc (by simp) _
  have r2 : SpR W0 (some ⟨w.heap.size, 0, none⟩) two := by rw [← hW0]; exact SpR.lit ((Blk.new _ _ _).alloc _) rfl
  have rh : SpR W0 (some ⟨w.heap.size + 1, 0, none⟩) holes := by
    rw [← hW0]
    exact SpR.lit (Blk.of_size _ (by simp) 31 #[.int .i64 3, .int .i64 4, .int .i64 8, .int .i64 20]) rfl
  rw [hW0]
  have HB := hid hb0
  have R2 := hid r2
  have RH := hid rh
  clear hW0 hb0 r2 rh
  go_wp2_with fail
  refine (normal_any exA (some ⟨W0.heap.size, 0, none⟩) 4 _ (SpR.lit (Blk.new W0 31 _) rfl) (by simp [exA])).mono ?_
  rintro e w1 ⟨X, v, rfl, ⟨hX, _⟩, ⟨Aa, ca, rfl, hR, _⟩, hb⟩
  have hX2 := exA_n hX
  subst hX2
  replace hb := (((Below.refl W0.heap.size W0).alloc (Nat.le_refl _) (.cells #[.int .i64 5, .int .i64 9, .int .i64 0, .int .i64 5, .int .i64 20, .int .i64 10, .int .i64 (-3), .int .i64 1] 31))).trans (hb.mono (by simp))
  replace R2 := hid (R2.out.below hb)
  replace RH := hid (RH.out.below hb)
  replace HB := hid (HB.out.trans (hb.mono HB.out.size))
  have RA := hid hR
  clear hX hR hb
  simp only [List.length_cons, List.length_nil, Nat.zero_add]
  go_wp2_with fail
  refine (span_any 0 5 _).mono ?_
  rintro e u1 ⟨rfl, hu1⟩
  have hbu1 : Below w1.heap.size w1 u1 := by rw [hu1]; exact (Below.refl _ _).alloc (Nat.le_refl _) _
  have ru1 : SpR u1 (some ⟨w1.heap.size, 0, none⟩) [(0, 5)] := by rw [hu1]; exact SpR.lit (Blk.new _ _ _) rfl
  clear hu1
  go_wp2_with fail
  refine (span_any 6 9 _).mono ?_
  rintro e u2 ⟨rfl, hu2⟩
  have hbu2 : Below u1.heap.size u1 u2 := by rw [hu2]; exact (Below.refl _ _).alloc (Nat.le_refl _) _
  have ru2 : SpR u2 (some ⟨u1.heap.size, 0, none⟩) [(6, 9)] := by rw [hu2]; exact SpR.lit (Blk.new _ _ _) rfl
  have RU1 := hid (ru1.below hbu2)
  have RU2 := hid ru2
  have HBU := hid (hbu1.trans (hbu2.mono hbu1.size))
  clear hu2 ru1 ru2 hbu1 hbu2
  go_wp2_with fail
  refine (union_any [(0, 5)] [(6, 9)] _ _ 1 1 _ RU1.out RU2.out (fun h => by cases h) (fun h => by cases h) (by simp) (by simp)).mono ?_
  rintro e w2 ⟨X, v, rfl, ⟨hX, _⟩, ⟨Ab, cb, rfl, hR, _⟩, hb⟩
  have hX2 := exB_n hX
  subst hX2
  replace hb := HBU.out.trans (hb.mono HBU.out.size)
  replace R2 := hid (R2.out.below hb)
  replace RH := hid (RH.out.below hb)
  replace RA := hid (RA.out.below hb)
  replace HB := hid (HB.out.trans (hb.mono HB.out.size))
  have RB := hid hR
  clear hX hR hb RU1 RU2 HBU
  simp only [List.length_cons, List.length_nil, Nat.zero_add]
  go_wp2_with fail
  refine (span_any 0 5 _).mono ?_
  rintro e u1 ⟨rfl, hu1⟩
  have hbu1 : Below w2.heap.size w2 u1 := by rw [hu1]; exact (Below.refl _ _).alloc (Nat.le_refl _) _
  have ru1 : SpR u1 (some ⟨w2.heap.size, 0, none⟩) [(0, 5)] := by rw [hu1]; exact SpR.lit (Blk.new _ _ _) rfl
  clear hu1
  go_wp2_with fail
  refine (span_any 5 9 _).mono ?_
  rintro e u2 ⟨rfl, hu2⟩
  have hbu2 : Below u1.heap.size u1 u2 := by rw [hu2]; exact (Below.refl _ _).alloc (Nat.le_refl _) _
  have ru2 : SpR u2 (some ⟨u1.heap.size, 0, none⟩) [(5, 9)] := by rw [hu2]; exact SpR.lit (Blk.new _ _ _) rfl
  have RU1 := hid (ru1.below hbu2)
  have RU2 := hid ru2
  have HBU := hid (hbu1.trans (hbu2.mono hbu1.size))
  clear hu2 ru1 ru2 hbu1 hbu2
  go_wp2_with fail
  refine (union_any [(0, 5)] [(5, 9)] _ _ 1 1 _ RU1.out RU2.out (fun h => by cases h) (fun h => by cases h) (by simp) (by simp)).mono ?_
  rintro e w3 ⟨X, v, rfl, ⟨hX, _⟩, ⟨Ac, cc, rfl, hR, _⟩, hb⟩
  have hX2 := exC_n hX
  subst hX2
  replace hb := HBU.out.trans (hb.mono HBU.out.size)
  replace R2 := hid (R2.out.below hb)
  replace RH := hid (RH.out.below hb)
  replace RA := hid (RA.out.below hb)
  replace RB := hid (RB.out.below hb)
  replace HB := hid (HB.out.trans (hb.mono HB.out.size))
  have RC := hid hR
  clear hX hR hb RU1 RU2 HBU
  simp only [List.length_cons, List.length_nil, Nat.zero_add]
  go_wp2_with fail
  refine (span_any 5 25 _).mono ?_
  rintro e u1 ⟨rfl, hu1⟩
  have hbu1 : Below w3.heap.size w3 u1 := by rw [hu1]; exact (Below.refl _ _).alloc (Nat.le_refl _) _
  have ru1 : SpR u1 (some ⟨w3.heap.size, 0, none⟩) [(5, 25)] := by rw [hu1]; exact SpR.lit (Blk.new _ _ _) rfl
  have RU1 := hid ru1
  have HBU := hid hbu1
  clear hu1 ru1 hbu1
  go_wp2_with fail
  refine (intersect_any two [(5, 25)] _ _ 2 1 _ (R2.out.below HBU.out) RU1.out (by simp [two]) (by simp)).mono ?_
  rintro e w4 ⟨X, v, rfl, hX, ⟨Ad, cd, rfl, hR, _⟩, hb⟩
  have hX2 := exD_n hX
  subst hX2
  replace hb := HBU.out.trans (hb.mono HBU.out.size)
  replace R2 := hid (R2.out.below hb)
  replace RH := hid (RH.out.below hb)
  replace RA := hid (RA.out.below hb)
  replace RB := hid (RB.out.below hb)
  replace RC := hid (RC.out.below hb)
  replace HB := hid (HB.out.trans (hb.mono HB.out.size))
  have RD := hid hR
  clear hX hR hb RU1 HBU
  simp only [List.length_cons, List.length_nil, Nat.zero_add]
  go_wp2_with fail
  refine (span_any 0 10 _).mono ?_
  rintro e u1 ⟨rfl, hu1⟩
  have hbu1 : Below w4.heap.size w4 u1 := by rw [hu1]; exact (Below.refl _ _).alloc (Nat.le_refl _) _
  have ru1 : SpR u1 (some ⟨w4.heap.size, 0, none⟩) [(0, 10)] := by rw [hu1]; exact SpR.lit (Blk.new _ _ _) rfl
  have RU1 := hid ru1
  have HBU := hid hbu1
  clear hu1 ru1 hbu1
  go_wp2_with fail
  refine (minus_any [(0, 10)] holes _ _ 1 2 _ RU1.out (RH.out.below HBU.out) (by simp) (by simp [holes])).mono ?_
  rintro e w5 ⟨X, v, rfl, hX, ⟨Ae, ce, rfl, hR, _⟩, hb⟩
  have hX2 := exE_n hX
  subst hX2
  replace hb := HBU.out.trans (hb.mono HBU.out.size)
  replace R2 := hid (R2.out.below hb)
  replace RH := hid (RH.out.below hb)
  replace RA := hid (RA.out.below hb)
  replace RB := hid (RB.out.below hb)
  replace RC := hid (RC.out.below hb)
  replace RD := hid (RD.out.below hb)
  replace HB := hid (HB.out.trans (hb.mono HB.out.size))
  have RE := hid hR
  clear hX hR hb RU1 HBU
  simp only [List.length_cons, List.length_nil, Nat.zero_add]
  go_wp2_with fail
  refine (advance_any two 5 7 _ 2 _ R2.out (by simp [two]) (by omega) (by omega)).mono ?_
  rintro e w6 ⟨m, ok, rfl, hP, hb⟩
  obtain ⟨rfl, rfl⟩ := adv7 hP
  replace R2 := hid (R2.out.below hb)
  replace RH := hid (RH.out.below hb)
  replace RA := hid (RA.out.below hb)
  replace RB := hid (RB.out.below hb)
  replace RC := hid (RC.out.below hb)
  replace RD := hid (RD.out.below hb)
  replace RE := hid (RE.out.below hb)
  replace HB := hid (HB.out.trans (hb.mono HB.out.size))
  clear hP hb
  go_wp2_with fail
  refine (advance_any two 5 0 _ 2 _ R2.out (by simp [two]) (by omega) (by omega)).mono ?_
  rintro e w7 ⟨m, ok, rfl, hP, hb⟩
  obtain ⟨rfl, rfl⟩ := adv0 hP
  replace R2 := hid (R2.out.below hb)
  replace RH := hid (RH.out.below hb)
  replace RA := hid (RA.out.below hb)
  replace RB := hid (RB.out.below hb)
  replace RC := hid (RC.out.below hb)
  replace RD := hid (RD.out.below hb)
  replace RE := hid (RE.out.below hb)
  replace HB := hid (HB.out.trans (hb.mono HB.out.size))
  clear hP hb
  go_wp2_with fail
  refine (advance_any two 5 16 _ 2 _ R2.out (by simp [two]) (by omega) (by omega)).mono ?_
  rintro e w8 ⟨m, ok, rfl, hP, hb⟩
  obtain ⟨rfl, rfl⟩ := adv16 hP
  replace R2 := hid (R2.out.below hb)
  replace RH := hid (RH.out.below hb)
  replace RA := hid (RA.out.below hb)
  replace RB := hid (RB.out.below hb)
  replace RC := hid (RC.out.below hb)
  replace RD := hid (RD.out.below hb)
  replace RE := hid (RE.out.below hb)
  replace HB := hid (HB.out.trans (hb.mono HB.out.size))
  clear hP hb
  go_wp2_with fail
  refine (span_any 0 9 _).mono ?_
  rintro e u1 ⟨rfl, hu1⟩
  have hbu1 : Below w8.heap.size w8 u1 := by rw [hu1]; exact (Below.refl _ _).alloc (Nat.le_refl _) _
  have ru1 : SpR u1 (some ⟨w8.heap.size, 0, none⟩) [(0, 9)] := by rw [hu1]; exact SpR.lit (Blk.new _ _ _) rfl
  have RU1 := hid ru1
  have HBU := hid hbu1
  clear hu1 ru1 hbu1
  go_wp2_with fail
  refine (same_any [(0, 9)] _ _ _ _ _ (RA.out.below HBU.out) RU1.out (by simp)).mono ?_
  rintro e w9 ⟨rfl, hb⟩
  replace hb := HBU.out.trans (hb.mono HBU.out.size)
  replace R2 := hid (R2.out.below hb)
  replace RA := hid (RA.out.below hb)
  replace RB := hid (RB.out.below hb)
  replace RC := hid (RC.out.below hb)
  replace RD := hid (RD.out.below hb)
  replace RE := hid (RE.out.below hb)
  replace HB := hid (HB.out.trans (hb.mono HB.out.size))
  clear hb RU1 HBU
  go_wp2_with fail
  refine (same_any [(0, 5), (6, 9)] _ (some ⟨w9.heap.size, 0, none⟩) _ _ _ (RB.out.below ((Below.refl _ _).alloc (Nat.le_refl _) _)) (SpR.lit (Blk.new w9 31 _) rfl) (by simp)).mono ?_
  rintro e w10 ⟨rfl, hb⟩
  replace hb := ((Below.refl w9.heap.size w9).alloc (Nat.le_refl _) (.cells #[.int .i64 0, .int .i64 5, .int .i64 6, .int .i64 9] 31)).trans (hb.mono (by simp))
  replace R2 := hid (R2.out.below hb)
  replace RA := hid (RA.out.below hb)
  replace RB := hid (RB.out.below hb)
  replace RC := hid (RC.out.below hb)
  replace RD := hid (RD.out.below hb)
  replace RE := hid (RE.out.below hb)
  replace HB := hid (HB.out.trans (hb.mono HB.out.size))
  clear hb
  go_wp2_with fail
  refine (span_any 0 9 _).mono ?_
  rintro e u1 ⟨rfl, hu1⟩
  have hbu1 : Below w10.heap.size w10 u1 := by rw [hu1]; exact (Below.refl _ _).alloc (Nat.le_refl _) _
  have ru1 : SpR u1 (some ⟨w10.heap.size, 0, none⟩) [(0, 9)] := by rw [hu1]; exact SpR.lit (Blk.new _ _ _) rfl
  have RU1 := hid ru1
  have HBU := hid hbu1
  clear hu1 ru1 hbu1
  go_wp2_with fail
  refine (same_any [(0, 9)] _ _ _ _ _ (RC.out.below HBU.out) RU1.out (by simp)).mono ?_
  rintro e w11 ⟨rfl, hb⟩
  replace hb := HBU.out.trans (hb.mono HBU.out.size)
  replace R2 := hid (R2.out.below hb)
  replace RA := hid (RA.out.below hb)
  replace RB := hid (RB.out.below hb)
  replace RC := hid (RC.out.below hb)
  replace RD := hid (RD.out.below hb)
  replace RE := hid (RE.out.below hb)
  replace HB := hid (HB.out.trans (hb.mono HB.out.size))
  clear hb RU1 HBU
  go_wp2_with fail
  refine (same_any [(5, 10), (20, 25)] _ (some ⟨w11.heap.size, 0, none⟩) _ _ _ (RD.out.below ((Below.refl _ _).alloc (Nat.le_refl _) _)) (SpR.lit (Blk.new w11 31 _) rfl) (by simp)).mono ?_
  rintro e w12 ⟨rfl, hb⟩
  replace hb := ((Below.refl w11.heap.size w11).alloc (Nat.le_refl _) (.cells #[.int .i64 5, .int .i64 10, .int .i64 20, .int .i64 25] 31)).trans (hb.mono (by simp))
  replace R2 := hid (R2.out.below hb)
  replace RA := hid (RA.out.below hb)
  replace RB := hid (RB.out.below hb)
  replace RC := hid (RC.out.below hb)
  replace RD := hid (RD.out.below hb)
  replace RE := hid (RE.out.below hb)
  replace HB := hid (HB.out.trans (hb.mono HB.out.size))
  clear hb
  go_wp2_with fail
  refine (same_any [(0, 3), (4, 8)] _ (some ⟨w12.heap.size, 0, none⟩) _ _ _ (RE.out.below ((Below.refl _ _).alloc (Nat.le_refl _) _)) (SpR.lit (Blk.new w12 31 _) rfl) (by simp)).mono ?_
  rintro e w13 ⟨rfl, hb⟩
  replace hb := ((Below.refl w12.heap.size w12).alloc (Nat.le_refl _) (.cells #[.int .i64 0, .int .i64 3, .int .i64 4, .int .i64 8] 31)).trans (hb.mono (by simp))
  replace R2 := hid (R2.out.below hb)
  replace RA := hid (RA.out.below hb)
  replace RB := hid (RB.out.below hb)
  replace RC := hid (RC.out.below hb)
  replace RD := hid (RD.out.below hb)
  replace RE := hid (RE.out.below hb)
  replace HB := hid (HB.out.trans (hb.mono HB.out.size))
  clear hb
  clear RA RB RC RD RE RH
  go_wp2_with fail
  refine (minutes_any [(0, 10), (5, 15)] (some ⟨w13.heap.size, 0, none⟩) _ _ (SpR.lit (Blk.new w13 31 _) rfl) (by simp)).mono ?_
  rintro e w14 ⟨X, hX, rfl, hb⟩
  have hX2 := exM_n hX
  subst hX2
  replace hb := ((Below.refl w13.heap.size w13).alloc (Nat.le_refl _) (.cells #[.int .i64 0, .int .i64 10, .int .i64 5, .int .i64 15] 31)).trans (hb.mono (by simp))
  replace R2 := hid (R2.out.below hb)
  replace HB := hid (HB.out.trans (hb.mono HB.out.size))
  clear hX hb
  simp only [sumS]
  go_wp2_with fail
  refine (span_any (-5) 5 _).mono ?_
  rintro e u1 ⟨rfl, hu1⟩
  have hbu1 : Below w14.heap.size w14 u1 := by rw [hu1]; exact (Below.refl _ _).alloc (Nat.le_refl _) _
  have ru1 : SpR u1 (some ⟨w14.heap.size, 0, none⟩) [(-5, 5)] := by rw [hu1]; exact SpR.lit (Blk.new _ _ _) rfl
  have RU1 := hid ru1
  have HBU := hid hbu1
  clear hu1 ru1 hbu1
  go_wp2_with fail
  refine (contains_any (-1) _ 1 [(-5, 5)] _ RU1.out (by simp)).mono ?_
  rintro e w15 ⟨he, hb⟩
  rw [show conB [(-5, 5)] (-1) = false from by decide] at he
  subst he
  replace hb := HBU.out.trans (hb.mono HBU.out.size)
  replace R2 := hid (R2.out.below hb)
  replace HB := hid (HB.out.trans (hb.mono HB.out.size))
  clear hb RU1 HBU
  go_wp2_with fail
  refine (span_any (-5) 5 _).mono ?_
  rintro e u1 ⟨rfl, hu1⟩
  have hbu1 : Below w15.heap.size w15 u1 := by rw [hu1]; exact (Below.refl _ _).alloc (Nat.le_refl _) _
  have ru1 : SpR u1 (some ⟨w15.heap.size, 0, none⟩) [(-5, 5)] := by rw [hu1]; exact SpR.lit (Blk.new _ _ _) rfl
  have RU1 := hid ru1
  have HBU := hid hbu1
  clear hu1 ru1 hbu1
  go_wp2_with fail
  refine (contains_any 0 _ 1 [(-5, 5)] _ RU1.out (by simp)).mono ?_
  rintro e w16 ⟨he, hb⟩
  rw [show conB [(-5, 5)] 0 = true from by decide] at he
  subst he
  replace hb := HBU.out.trans (hb.mono HBU.out.size)
  replace R2 := hid (R2.out.below hb)
  replace HB := hid (HB.out.trans (hb.mono HB.out.size))
  clear hb RU1 HBU
  go_wp2_with fail
  refine (check_any two _ 2 _ R2.out (by simp [two])).mono ?_
  rintro e w17 ⟨he, hb⟩
  rw [show chkS (-1) two = 0 from if_pos (by simp [two, nrmF, MX])] at he
  subst he
  replace HB := hid (HB.out.trans (hb.mono HB.out.size))
  clear hb R2
  go_wp2_with fail
  refine (check_any [(0, 5), (5, 9)] (some ⟨w17.heap.size, 0, none⟩) 2 _ (SpR.lit (Blk.new w17 31 _) rfl) (by simp)).mono ?_
  rintro e w18 ⟨he, hb⟩
  rw [show chkS (-1) [(0, 5), (5, 9)] = 1 from if_neg (by simp [nrmF, MX])] at he
  subst he
  replace hb := ((Below.refl w17.heap.size w17).alloc (Nat.le_refl _) (.cells #[.int .i64 0, .int .i64 5, .int .i64 5, .int .i64 9] 31)).trans (hb.mono (by simp))
  replace HB := hid (HB.out.trans (hb.mono HB.out.size))
  clear hb
  go_wp2_with fail
  go_ret
  exact ⟨rfl, HB.out⟩
end Go.Proofs.Ythdllghpfniclaa
