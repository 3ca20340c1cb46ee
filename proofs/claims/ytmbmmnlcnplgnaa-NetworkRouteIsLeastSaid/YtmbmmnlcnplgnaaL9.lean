/-
  The walk of NetworkRouteIsLeast: it answers true. Condition: the lists lie in memory as they read.
-/
import Derived.Test.YtmbmmnlcnplgnaaMin
import Derived.Deep.RegionHeld3
namespace Go.Proofs.Ytmbmmnlcnplgnaa
open Go.RowKit
theorem least {P : List Plc} {E : List Edg} {a z x y r s : Int} {L M : List Int} (hc : chkE P E = 0) (hpos : 0 < L.length) (ha : L.getD 0 0 = a) (hz : L.getD (L.length - 1) 0 = z) (a0 : 0 ≤ a) (an : a < (P.length : Int)) (hm : mins E L = some x)
    (h1 : RteS P E a z M r) (h2 : BetS P E a z y s) : r = 0 ∧ s = 0 ∧ y ≤ x ∧ (x = y → (∀ i, i < L.length → i < M.length → (∀ j, j < i → M.getD j 0 = L.getD j 0) → M.getD i 0 ≠ L.getD i 0 → M.getD i 0 < L.getD i 0) ∧
      ((∀ i, i < L.length → i < M.length → M.getD i 0 = L.getD i 0) → M.length = L.length)) := by
  cases L with
  | nil => simp at hpos
  | cons a' W =>
    rw [List.getD_cons_zero] at ha
    subst ha
    have hV := (chkE_ok hc).2.2
    have hw := mins_wk W a' x hm
    have hl : (a' :: W).getLast (by simp) = z := by
      rw [List.getLast_eq_getElem]
      rw [List.getD_eq_getElem?_getD, List.getElem?_eq_getElem (by simp)] at hz
      exact hz
    rw [hl] at hw
    have hzr : 0 ≤ z ∧ z < (P.length : Int) := by
      rcases (hw.nn hV).2.2 with h | h
      · rw [← h]; exact ⟨a0, an⟩
      · exact h
    have hb0 := bldE_zero (L := [a', z]) hc (by simp; exact ⟨⟨a0, an⟩, hzr⟩)
    obtain ⟨d, hd, hds⟩ := h2.zero hb0
    have hdx := hd.le hw
    obtain ⟨an', rfl⟩ : ∃ n : Nat, a' = n := ⟨a'.toNat, by omega⟩
    obtain ⟨zn, rfl⟩ : ∃ n : Nat, z = n := ⟨z.toNat, by omega⟩
    rcases h1 with ⟨g1, _⟩ | ⟨_, ⟨d', hd', g1, g2, g3⟩ | ⟨t, hD, g1, hR, g2⟩⟩
    · exact absurd hb0 g1
    · have := hd.uniq hd'; omega
    · simp only [Int.toNat_natCast] at hD g1 hR
      have hk := (hD.isd an' (by omega)).symm.uniq hd
      refine ⟨g2, by omega, by omega, fun hxy => ?_⟩
      have hta : x = t.getD an' 0 := by omega
      rw [hta] at hm
      have hlq : ((an' : Int) :: W).getLast? = some (zn : Int) := by rw [List.getLast?_eq_some_getLast (by simp), hl]
      have := rt_least hV (by omega) hD W an' M (by omega) hR hm hlq
      simpa using this
/-- An operation under a guard. -/
theorem wpOp_if {P : Program} {ops : Array Oper} {Q : Exit → Act → World → Prop} {i j : Nat} {o oj : Oper} {d : Nat} {a : Act} {w : World} {K : Act → World → Prop} {b c : Bool} (hi : ops[i]? = some o) (hg : o.guard = some (j, c)) (hj : ops[j]? = some oj) (hd : oj.dst = some d)
    (h : a.tmps.getD d undef = .bool b) (yes : b = c → o.wp P a w K Q) (no : b ≠ c → K (a.put o.dst undef) w) : wpOp P ops Q i K a w := by
  have hy : yielded ops a.tmps j = some b := by
    unfold yielded
    rw [hj]
    simp only [Option.bind_some, hd]
    have : a.tmps[d]? = some (.bool b) := by
      rw [Array.getD_eq_getD_getElem?] at h
      cases hq : a.tmps[d]? with
      | none => rw [hq] at h; simp [undef] at h
      | some v => rw [hq] at h; simp at h; rw [h]
    rw [this]
  have hw : Region.wanted o (yielded ops a.tmps) = (b == c) := by
    unfold Region.wanted
    rw [hg]
    simp only [hy]
    cases b <;> cases c <;> rfl
  unfold wpOp
  rw [hi]
  dsimp only
  rw [hw]
  by_cases e : b = c
  · rw [if_pos (by simp [e])]; exact Or.inl (yes e)
  · rw [if_neg (by simpa using e)]; exact no e
/-- What the operations of the first test yield. -/
def PhiT (net : Value) (A3 : Option Addr) (n c3 : Nat) (sB : Bool) (e0 : Int) (xa : Int) (ex : Bool) : Nat → Value → Prop
  | 0, v => v = net
  | 1, v => v = .bool sB
  | 2, v => v = .bool (!sB)
  | 3, v => v = .bool (!sB)
  | 4, v => sB = true → v = .slice A3 n c3
  | 5, v => sB = true → v = .int .i64 n
  | 6, v => sB = true → v = .bool ((n : Int) == 0)
  | 7, v => v = .bool (!sB || ((n : Int) == 0))
  | 8, v => v = .bool (!sB || ((n : Int) == 0))
  | 9, v => sB = true → ((n : Int) == 0) = false → v = .slice A3 n c3
  | 10, v => sB = true → ((n : Int) == 0) = false → v = .int .i64 n
  | 11, v => sB = true → ((n : Int) == 0) = false → v = .bool (decide (14 < (n : Int)))
  | 12, v => v = .bool (!sB || ((n : Int) == 0) || decide (14 < (n : Int)))
  | 13, v => v = .bool (!sB || ((n : Int) == 0) || decide (14 < (n : Int)))
  | 14, v => sB = true → ((n : Int) == 0) = false → decide (14 < (n : Int)) = false → v = net
  | 15, v => sB = true → ((n : Int) == 0) = false → decide (14 < (n : Int)) = false → v = .int .i64 e0
  | 16, v => sB = true → ((n : Int) == 0) = false → decide (14 < (n : Int)) = false → v = .bool (e0 != 0)
  | 17, v => v = .bool (!sB || ((n : Int) == 0) || decide (14 < (n : Int)) || (e0 != 0))
  | 18, v => v = .bool (!sB || ((n : Int) == 0) || decide (14 < (n : Int)) || (e0 != 0))
  | 19, v => sB = true → ((n : Int) == 0) = false → decide (14 < (n : Int)) = false → (e0 != 0) = false → v = net
  | 20, v => sB = true → ((n : Int) == 0) = false → decide (14 < (n : Int)) = false → (e0 != 0) = false → v = .slice A3 n c3
  | 21, v => sB = true → ((n : Int) == 0) = false → decide (14 < (n : Int)) = false → (e0 != 0) = false → v = .pointer A3
  | 22, v => sB = true → ((n : Int) == 0) = false → decide (14 < (n : Int)) = false → (e0 != 0) = false → v = .int .i64 xa
  | 23, v => sB = true → ((n : Int) == 0) = false → decide (14 < (n : Int)) = false → (e0 != 0) = false → v = .bool ex
  | 24, v => sB = true → ((n : Int) == 0) = false → decide (14 < (n : Int)) = false → (e0 != 0) = false → v = .bool (!ex)
  | 25, v => v = .bool (!sB || ((n : Int) == 0) || decide (14 < (n : Int)) || (e0 != 0) || !ex)
  | _, _ => True
set_option maxHeartbeats 8000000 in
set_option maxRecDepth 100000 in
theorem law9_walk (P : List Plc) (E : List Edg) (L : List Int) (A1 A2 A3 : Option Addr) (c1 c2 c3 : Nat) (w : World) (h1 : PlcR w A1 P) (h2 : EdgR w A2 E) (h3 : IntR w A3 L) :
    Calls Try.prog 9 #[netV A1 P.length c1 A2 E.length c2, .slice A3 L.length c3] w fun e w' => e = .returned (.bool true) ∧ Below w.heap.size w w' := by
  have hal : Below w.heap.size w (w.alloc (.cells #[.slice A1 P.length c1, .slice A2 E.length c2] 25)) := (Below.refl _ _).alloc (Nat.le_refl _) _
  have HP0 := hid (h1.below hal)
  have HE0 := hid (h2.below hal)
  have HL := hid (h3.below hal)
  have HN0 := hid (Blk.new w 25 #[.slice A1 P.length c1, .slice A2 E.length c2])
  have HB0 := hid hal
  clear hal h1 h2 h3
  unfold netV
  go_enter Try.func9, Try.ntmps9
  have HC := hid (sane_any (w.alloc (.cells #[.slice A1 P.length c1, .slice A2 E.length c2] 25)))
  unfold netV at HC
  go_wp2_with fail
  refine HC.out.mono ?_
  intro e w1 hc
  obtain ⟨rfl, hb⟩ := hc
  have HP1 := hid (HP0.out.below hb)
  have HE1 := hid (HE0.out.below hb)
  have HN1 := hid (HN0.out.below hb HN0.out.lt)
  have HB1 := hid (HB0.out.trans (hb.mono HB0.out.size))
  replace HL := hid (HL.out.below hb)
  clear HP0 HE0 HN0 HB0
  clear hb HC 
  obtain ⟨wa, hwa⟩ : ∃ wa, w1 = wa := ⟨_, rfl⟩
  rw [hwa] at HP1 HE1 HN1 HB1 HL ⊢
  clear hwa
  have q0 := HN1.out.at 0 rfl
  have q1 := HN1.out.at 1 rfl
  have HSM := hid (fun (W : World) => small_any A1 A2 P.length c1 E.length c2 W)
  have HCK := hid (fun (W : World) (hb : Below wa.heap.size wa W) => rcheck_any P E A1 A2 c1 c2 W (HP1.out.below hb) (HE1.out.below hb))
  have HEX := hid (fun (x : Int) (hp : P.length ≤ 1000000) (W : World) => exists_any P x A1 A2 c1 E.length c2 W hp)
  unfold netV at HSM HCK HEX
  have HD0 : Hid (Below wa.heap.size wa wa.drew) := hid (Below.refl _ _).drew
  go_upto_region 3 with fail
  go_cut [39] (fun s39 wc => Hid (Below wa.heap.size wa wc) ∧ ((s39 = .bool true) ∨ (s39 = .bool false ∧ Hid (P.length ≤ 12 ∧ 0 < L.length ∧ L.length ≤ 14 ∧ chkE P E = 0 ∧ 0 ≤ L.getD 0 0 ∧ L.getD 0 0 < (P.length : Int)))))
  case first =>
    obtain ⟨sB, hsB⟩ : ∃ x, smlB P.length E.length = x := ⟨_, rfl⟩
    obtain ⟨e0, he0⟩ : ∃ x, chkE P E = x := ⟨_, rfl⟩
    obtain ⟨xa, hxa⟩ : ∃ x, L.getD 0 0 = x := ⟨_, rfl⟩
    obtain ⟨ex, hex⟩ : ∃ x, exB P xa = x := ⟨_, rfl⟩
    obtain ⟨n, hn⟩ : ∃ n, L.length = n := ⟨_, rfl⟩
    rw [hsB] at HSM
    rw [he0] at HCK
    have HGD : Hid (sB = true → ((n : Int) == 0) = false → decide (14 < (n : Int)) = false → (e0 != 0) = false → P.length ≤ 12 ∧ 0 < L.length ∧ L.length ≤ 14 ∧ chkE P E = 0 ∧ (ex = true → 0 ≤ L.getD 0 0 ∧ L.getD 0 0 < (P.length : Int))) := hid (fun h1 h2 h3 h4 => by
      subst h1
      have g1 : P.length ≤ 12 := by unfold smlB at hsB; simp at hsB; omega
      refine ⟨g1, ?_, ?_, ?_, fun h5 => ?_⟩
      · rw [hn]; simpa [Nat.pos_iff_ne_zero] using h2
      · rw [hn]; simp at h3; omega
      · rw [he0]; simpa using h4
      · subst h5; rw [hxa]; unfold exB at hex; simpa using hex)
    have HAT : Hid (0 < n → ∃ bb off, A3 = some ⟨bb, off, none⟩ ∧ bb < wa.heap.size ∧ wa.cell? ⟨bb, off, none⟩ = some (.int .i64 xa)) := hid (fun h => by
      obtain ⟨bb, off, h1, h2, h3⟩ := HL.out.at (by omega)
      have := h3 0 (by omega)
      rw [hxa, Nat.add_zero] at this
      exact ⟨bb, off, h1, h2, this⟩)
    have HEXX := hid (fun (W : World) (hp : P.length ≤ 1000000) => (by have := HEX.out xa hp W; rw [hex] at this; exact this : Calls _ _ _ _ _))
    clear HEX hsB he0 hxa hex
    refine region_makes [14, 15, 16, 17, 18, 19, 20, 21, 22, 23, 24, 25, 26, 27, 28, 29, 30, 31, 32, 33, 34, 35, 36, 37, 38, 39] (fun i v _ => PhiT (.agg #[.slice A1 P.length c1, .slice A2 E.length c2]) A3 n c3 sB e0 xa ex i v) (fun _ => false) rfl (by kernel_rfl) rfl (by decide) (by simp) (fun _ _ _ _ h _ => h) (fun _ _ _ _ h _ => by cases h) ?_ ?_
    · intro j o a w' hj hbase hT hdep hx1 hx2 K hK'
      have hK : ∀ v w2, Below w'.heap.size w' w2 → PhiT (.agg #[.slice A1 P.length c1, .slice A2 E.length c2]) A3 n c3 sB e0 xa ex j v → K (a.put (some (([14, 15, 16, 17, 18, 19, 20, 21, 22, 23, 24, 25, 26, 27, 28, 29, 30, 31, 32, 33, 34, 35, 36, 37, 38, 39] : List Nat).getD j 0)) v) w2 := fun v w2 h1 h2 => hK' v w2 h1 h2 (fun h => by cases h)
      clear hK' hx1 hx2
      have e1 : a.tmps.getD 1 undef = .slice A3 L.length c3 := hbase 1 (by decide)
      have e2 : a.tmps.getD 2 undef = .pointer (some ⟨w.heap.size, 0, none⟩) := hbase 2 (by decide)
      have z0 := (HN1.out.below hT HN1.out.lt).at 0 rfl
      have z1 := (HN1.out.below hT HN1.out.lt).at 1 rfl
      have hjs : j < 26 := (Array.getElem?_eq_some_iff.1 hj).1
      have hB := Below.refl w'.heap.size w'
      rw [hn] at e1
      obtain rfl | rfl | rfl | rfl | rfl | rfl | rfl | rfl | rfl | rfl | rfl | rfl | rfl | rfl | rfl | rfl | rfl | rfl | rfl | rfl | rfl | rfl | rfl | rfl | rfl | rfl : j = 0 ∨ j = 1 ∨ j = 2 ∨ j = 3 ∨ j = 4 ∨ j = 5 ∨ j = 6 ∨ j = 7 ∨ j = 8 ∨ j = 9 ∨ j = 10 ∨ j = 11 ∨ j = 12 ∨ j = 13 ∨ j = 14 ∨ j = 15 ∨ j = 16 ∨ j = 17 ∨ j = 18 ∨ j = 19 ∨ j = 20 ∨ j = 21 ∨ j = 22 ∨ j = 23 ∨ j = 24 ∨ j = 25 := by omega
      all_goals (injection hj with hj; subst hj; clear hjs)
      · refine wpOp_of rfl rfl ?_
        go_simp
        exact hK _ _ hB rfl
      · have d0 : a.tmps.getD 14 undef = (.agg #[.slice A1 P.length c1, .slice A2 E.length c2]) := hdep ⟨0, .data⟩ (by simp) rfl
        refine wpOp_of rfl rfl ?_
        go_simp
        refine (HSM.out w').mono ?_
        rintro e ws ⟨rfl, hb⟩
        exact hK _ _ hb rfl
      · have d : a.tmps.getD 15 undef = .bool sB := hdep ⟨1, .data⟩ (by simp) rfl
        refine wpOp_of rfl rfl ?_
        go_simp
        exact hK _ _ hB rfl
      · have d : a.tmps.getD 16 undef = .bool (!sB) := hdep ⟨2, .data⟩ (by simp) rfl
        refine wpOp_of rfl rfl ?_
        go_simp
        exact hK _ _ hB rfl
      · have dg : a.tmps.getD 17 undef = .bool (!sB) := hdep ⟨3, .guard⟩ (by simp) rfl
        refine wpOp_if rfl rfl rfl rfl dg (fun hyes => ?_) (fun hno => hK _ _ hB (fun h1 => absurd (by rw [h1]; rfl) hno))
        have y1 : sB = true := by simpa using hyes
        clear hyes dg
        go_simp
        exact hK _ _ hB (fun _ => rfl)
      · have dg : a.tmps.getD 17 undef = .bool (!sB) := hdep ⟨3, .guard⟩ (by simp) rfl
        refine wpOp_if rfl rfl rfl rfl dg (fun hyes => ?_) (fun hno => hK _ _ hB (fun h1 => absurd (by rw [h1]; rfl) hno))
        have y1 : sB = true := by simpa using hyes
        clear hyes dg
        have d : a.tmps.getD 18 undef = .slice A3 n c3 := hdep ⟨4, .data⟩ (by simp) rfl y1
        go_simp
        exact hK _ _ hB (fun _ => rfl)
      · have dg : a.tmps.getD 17 undef = .bool (!sB) := hdep ⟨3, .guard⟩ (by simp) rfl
        refine wpOp_if rfl rfl rfl rfl dg (fun hyes => ?_) (fun hno => hK _ _ hB (fun h1 => absurd (by rw [h1]; rfl) hno))
        have y1 : sB = true := by simpa using hyes
        clear hyes dg
        have d : a.tmps.getD 19 undef = .int .i64 n := hdep ⟨5, .data⟩ (by simp) rfl y1
        go_simp
        exact hK _ _ hB (fun _ => rfl)
      · have dc : a.tmps.getD 17 undef = .bool (!sB) := hdep ⟨3, .data⟩ (by simp) rfl
        have dx : sB = true → a.tmps.getD 20 undef = .bool ((n : Int) == 0) := hdep ⟨6, .data⟩ (by simp) rfl
        refine wpOp_of rfl rfl ?_
        obtain ⟨b, hb⟩ : ∃ b, (!sB) = b := ⟨_, rfl⟩
        rw [hb] at dc
        cases b
        · have y1 : sB = true := by simpa using hb
          have dx := dx y1
          go_simp
          exact hK _ _ hB (by show _ = _; rw [y1]; rfl)
        · clear dx
          go_simp
          exact hK _ _ hB (by show _ = _; rw [hb]; rfl)
      · have d : a.tmps.getD 21 undef = .bool (!sB || ((n : Int) == 0)) := hdep ⟨7, .data⟩ (by simp) rfl
        refine wpOp_of rfl rfl ?_
        go_simp
        exact hK _ _ hB rfl
      · have dg : a.tmps.getD 22 undef = .bool (!sB || ((n : Int) == 0)) := hdep ⟨8, .guard⟩ (by simp) rfl
        refine wpOp_if rfl rfl rfl rfl dg (fun hyes => ?_) (fun hno => hK _ _ hB (fun h1 h2 => absurd (by rw [h1, h2]; rfl) hno))
        have y : sB = true ∧ ((n : Int) == 0) = false := by simpa using hyes
        obtain ⟨y1, y2⟩ := y
        clear hyes dg
        go_simp
        exact hK _ _ hB (fun _ _ => rfl)
      · have dg : a.tmps.getD 22 undef = .bool (!sB || ((n : Int) == 0)) := hdep ⟨8, .guard⟩ (by simp) rfl
        refine wpOp_if rfl rfl rfl rfl dg (fun hyes => ?_) (fun hno => hK _ _ hB (fun h1 h2 => absurd (by rw [h1, h2]; rfl) hno))
        have y : sB = true ∧ ((n : Int) == 0) = false := by simpa using hyes
        obtain ⟨y1, y2⟩ := y
        clear hyes dg
        have d : a.tmps.getD 23 undef = .slice A3 n c3 := hdep ⟨9, .data⟩ (by simp) rfl y1 y2
        go_simp
        exact hK _ _ hB (fun _ _ => rfl)
      · have dg : a.tmps.getD 22 undef = .bool (!sB || ((n : Int) == 0)) := hdep ⟨8, .guard⟩ (by simp) rfl
        refine wpOp_if rfl rfl rfl rfl dg (fun hyes => ?_) (fun hno => hK _ _ hB (fun h1 h2 => absurd (by rw [h1, h2]; rfl) hno))
        have y : sB = true ∧ ((n : Int) == 0) = false := by simpa using hyes
        obtain ⟨y1, y2⟩ := y
        clear hyes dg
        have d : a.tmps.getD 24 undef = .int .i64 n := hdep ⟨10, .data⟩ (by simp) rfl y1 y2
        go_simp
        exact hK _ _ hB (fun _ _ => rfl)
      · have dc : a.tmps.getD 22 undef = .bool (!sB || ((n : Int) == 0)) := hdep ⟨8, .data⟩ (by simp) rfl
        have dx : sB = true → ((n : Int) == 0) = false → a.tmps.getD 25 undef = .bool (decide (14 < (n : Int))) := hdep ⟨11, .data⟩ (by simp) rfl
        refine wpOp_of rfl rfl ?_
        obtain ⟨b, hb⟩ : ∃ b, (!sB || ((n : Int) == 0)) = b := ⟨_, rfl⟩
        rw [hb] at dc
        cases b
        · have y : sB = true ∧ ((n : Int) == 0) = false := by simpa using hb
          obtain ⟨y1, y2⟩ := y
          have dx := dx y1 y2
          go_simp
          exact hK _ _ hB (by show _ = _; rw [y1, y2]; rfl)
        · clear dx
          go_simp
          exact hK _ _ hB (by show _ = _; rw [hb]; rfl)
      · have d : a.tmps.getD 26 undef = .bool (!sB || ((n : Int) == 0) || decide (14 < (n : Int))) := hdep ⟨12, .data⟩ (by simp) rfl
        refine wpOp_of rfl rfl ?_
        go_simp
        exact hK _ _ hB rfl
      · have dg : a.tmps.getD 27 undef = .bool (!sB || ((n : Int) == 0) || decide (14 < (n : Int))) := hdep ⟨13, .guard⟩ (by simp) rfl
        refine wpOp_if rfl rfl rfl rfl dg (fun hyes => ?_) (fun hno => hK _ _ hB (fun h1 h2 h3 => absurd (by rw [h1, h2, h3]; rfl) hno))
        have y : (sB = true ∧ ((n : Int) == 0) = false) ∧ decide (14 < (n : Int)) = false := by simpa using hyes
        obtain ⟨⟨y1, y2⟩, y3⟩ := y
        clear hyes dg
        go_simp
        exact hK _ _ hB (fun _ _ _ => rfl)
      · have dg : a.tmps.getD 27 undef = .bool (!sB || ((n : Int) == 0) || decide (14 < (n : Int))) := hdep ⟨13, .guard⟩ (by simp) rfl
        refine wpOp_if rfl rfl rfl rfl dg (fun hyes => ?_) (fun hno => hK _ _ hB (fun h1 h2 h3 => absurd (by rw [h1, h2, h3]; rfl) hno))
        have y : (sB = true ∧ ((n : Int) == 0) = false) ∧ decide (14 < (n : Int)) = false := by simpa using hyes
        obtain ⟨⟨y1, y2⟩, y3⟩ := y
        clear hyes dg
        have d : a.tmps.getD 28 undef = (.agg #[.slice A1 P.length c1, .slice A2 E.length c2]) := hdep ⟨14, .data⟩ (by simp) rfl y1 y2 y3
        go_simp
        refine (HCK.out w' hT).mono ?_
        rintro e ws ⟨rfl, hb⟩
        exact hK _ _ hb (fun _ _ _ => rfl)
      · have dg : a.tmps.getD 27 undef = .bool (!sB || ((n : Int) == 0) || decide (14 < (n : Int))) := hdep ⟨13, .guard⟩ (by simp) rfl
        refine wpOp_if rfl rfl rfl rfl dg (fun hyes => ?_) (fun hno => hK _ _ hB (fun h1 h2 h3 => absurd (by rw [h1, h2, h3]; rfl) hno))
        have y : (sB = true ∧ ((n : Int) == 0) = false) ∧ decide (14 < (n : Int)) = false := by simpa using hyes
        obtain ⟨⟨y1, y2⟩, y3⟩ := y
        clear hyes dg
        have d : a.tmps.getD 29 undef = .int .i64 e0 := hdep ⟨15, .data⟩ (by simp) rfl y1 y2 y3
        go_simp
        exact hK _ _ hB (fun _ _ _ => rfl)
      · have dc : a.tmps.getD 27 undef = .bool (!sB || ((n : Int) == 0) || decide (14 < (n : Int))) := hdep ⟨13, .data⟩ (by simp) rfl
        have dx : sB = true → ((n : Int) == 0) = false → decide (14 < (n : Int)) = false → a.tmps.getD 30 undef = .bool (e0 != 0) := hdep ⟨16, .data⟩ (by simp) rfl
        refine wpOp_of rfl rfl ?_
        obtain ⟨b, hb⟩ : ∃ b, (!sB || ((n : Int) == 0) || decide (14 < (n : Int))) = b := ⟨_, rfl⟩
        rw [hb] at dc
        cases b
        · have y : (sB = true ∧ ((n : Int) == 0) = false) ∧ decide (14 < (n : Int)) = false := by simpa using hb
          obtain ⟨⟨y1, y2⟩, y3⟩ := y
          have dx := dx y1 y2 y3
          go_simp
          exact hK _ _ hB (by show _ = _; rw [y1, y2, y3]; rfl)
        · clear dx
          go_simp
          exact hK _ _ hB (by show _ = _; rw [hb]; rfl)
      · have d : a.tmps.getD 31 undef = .bool (!sB || ((n : Int) == 0) || decide (14 < (n : Int)) || (e0 != 0)) := hdep ⟨17, .data⟩ (by simp) rfl
        refine wpOp_of rfl rfl ?_
        go_simp
        exact hK _ _ hB rfl
      · have dg : a.tmps.getD 32 undef = .bool (!sB || ((n : Int) == 0) || decide (14 < (n : Int)) || (e0 != 0)) := hdep ⟨18, .guard⟩ (by simp) rfl
        refine wpOp_if rfl rfl rfl rfl dg (fun hyes => ?_) (fun hno => hK _ _ hB (fun h1 h2 h3 h4 => absurd (by rw [h1, h2, h3, h4]; rfl) hno))
        have y : ((sB = true ∧ ((n : Int) == 0) = false) ∧ decide (14 < (n : Int)) = false) ∧ (e0 != 0) = false := by simpa using hyes
        obtain ⟨⟨⟨y1, y2⟩, y3⟩, y4⟩ := y
        clear hyes dg
        go_simp
        exact hK _ _ hB (fun _ _ _ _ => rfl)
      · have dg : a.tmps.getD 32 undef = .bool (!sB || ((n : Int) == 0) || decide (14 < (n : Int)) || (e0 != 0)) := hdep ⟨18, .guard⟩ (by simp) rfl
        refine wpOp_if rfl rfl rfl rfl dg (fun hyes => ?_) (fun hno => hK _ _ hB (fun h1 h2 h3 h4 => absurd (by rw [h1, h2, h3, h4]; rfl) hno))
        have y : ((sB = true ∧ ((n : Int) == 0) = false) ∧ decide (14 < (n : Int)) = false) ∧ (e0 != 0) = false := by simpa using hyes
        obtain ⟨⟨⟨y1, y2⟩, y3⟩, y4⟩ := y
        clear hyes dg
        go_simp
        exact hK _ _ hB (fun _ _ _ _ => rfl)
      · have dg : a.tmps.getD 32 undef = .bool (!sB || ((n : Int) == 0) || decide (14 < (n : Int)) || (e0 != 0)) := hdep ⟨18, .guard⟩ (by simp) rfl
        refine wpOp_if rfl rfl rfl rfl dg (fun hyes => ?_) (fun hno => hK _ _ hB (fun h1 h2 h3 h4 => absurd (by rw [h1, h2, h3, h4]; rfl) hno))
        have y : ((sB = true ∧ ((n : Int) == 0) = false) ∧ decide (14 < (n : Int)) = false) ∧ (e0 != 0) = false := by simpa using hyes
        obtain ⟨⟨⟨y1, y2⟩, y3⟩, y4⟩ := y
        clear hyes dg
        have d : a.tmps.getD 34 undef = .slice A3 n c3 := hdep ⟨20, .data⟩ (by simp) rfl y1 y2 y3 y4
        have hnp : 0 < n := by
          have : ¬ (n : Int) = 0 := by simpa using y2
          omega
        obtain ⟨bb, off, hA, hbb, hcell⟩ := HAT.out hnp
        subst hA
        have hnI : (0 : Int) < n := by omega
        clear y2
        go_simp
        exact hK _ _ hB (fun _ _ _ _ => rfl)
      · have dg : a.tmps.getD 32 undef = .bool (!sB || ((n : Int) == 0) || decide (14 < (n : Int)) || (e0 != 0)) := hdep ⟨18, .guard⟩ (by simp) rfl
        refine wpOp_if rfl rfl rfl rfl dg (fun hyes => ?_) (fun hno => hK _ _ hB (fun h1 h2 h3 h4 => absurd (by rw [h1, h2, h3, h4]; rfl) hno))
        have y : ((sB = true ∧ ((n : Int) == 0) = false) ∧ decide (14 < (n : Int)) = false) ∧ (e0 != 0) = false := by simpa using hyes
        obtain ⟨⟨⟨y1, y2⟩, y3⟩, y4⟩ := y
        clear hyes dg
        have d : a.tmps.getD 35 undef = .pointer A3 := hdep ⟨21, .data⟩ (by simp) rfl y1 y2 y3 y4
        have hnp : 0 < n := by
          have : ¬ (n : Int) = 0 := by simpa using y2
          omega
        obtain ⟨bb, off, hA, hbb, hcell⟩ := HAT.out hnp
        subst hA
        have hnI : (0 : Int) < n := by omega
        clear y2
        have hc2 := (hT.cell (p := ⟨bb, off, none⟩) hbb).trans hcell
        go_simp
        exact hK _ _ hB (fun _ _ _ _ => rfl)
      · have dg : a.tmps.getD 32 undef = .bool (!sB || ((n : Int) == 0) || decide (14 < (n : Int)) || (e0 != 0)) := hdep ⟨18, .guard⟩ (by simp) rfl
        refine wpOp_if rfl rfl rfl rfl dg (fun hyes => ?_) (fun hno => hK _ _ hB (fun h1 h2 h3 h4 => absurd (by rw [h1, h2, h3, h4]; rfl) hno))
        have y : ((sB = true ∧ ((n : Int) == 0) = false) ∧ decide (14 < (n : Int)) = false) ∧ (e0 != 0) = false := by simpa using hyes
        obtain ⟨⟨⟨y1, y2⟩, y3⟩, y4⟩ := y
        clear hyes dg
        have d : a.tmps.getD 33 undef = (.agg #[.slice A1 P.length c1, .slice A2 E.length c2]) := hdep ⟨19, .data⟩ (by simp) rfl y1 y2 y3 y4
        have d2 : a.tmps.getD 36 undef = .int .i64 xa := hdep ⟨22, .data⟩ (by simp) rfl y1 y2 y3 y4
        go_simp
        refine (HEXX.out w' (by have := (HGD.out y1 y2 y3 y4).1; omega)).mono ?_
        rintro e ws ⟨rfl, hb⟩
        exact hK _ _ hb (fun _ _ _ _ => rfl)
      · have dg : a.tmps.getD 32 undef = .bool (!sB || ((n : Int) == 0) || decide (14 < (n : Int)) || (e0 != 0)) := hdep ⟨18, .guard⟩ (by simp) rfl
        refine wpOp_if rfl rfl rfl rfl dg (fun hyes => ?_) (fun hno => hK _ _ hB (fun h1 h2 h3 h4 => absurd (by rw [h1, h2, h3, h4]; rfl) hno))
        have y : ((sB = true ∧ ((n : Int) == 0) = false) ∧ decide (14 < (n : Int)) = false) ∧ (e0 != 0) = false := by simpa using hyes
        obtain ⟨⟨⟨y1, y2⟩, y3⟩, y4⟩ := y
        clear hyes dg
        have d : a.tmps.getD 37 undef = .bool ex := hdep ⟨23, .data⟩ (by simp) rfl y1 y2 y3 y4
        go_simp
        exact hK _ _ hB (fun _ _ _ _ => rfl)
      · have dc : a.tmps.getD 32 undef = .bool (!sB || ((n : Int) == 0) || decide (14 < (n : Int)) || (e0 != 0)) := hdep ⟨18, .data⟩ (by simp) rfl
        have dx : sB = true → ((n : Int) == 0) = false → decide (14 < (n : Int)) = false → (e0 != 0) = false → a.tmps.getD 38 undef = .bool (!ex) := hdep ⟨24, .data⟩ (by simp) rfl
        refine wpOp_of rfl rfl ?_
        obtain ⟨b, hb⟩ : ∃ b, (!sB || ((n : Int) == 0) || decide (14 < (n : Int)) || (e0 != 0)) = b := ⟨_, rfl⟩
        rw [hb] at dc
        cases b
        · have y : ((sB = true ∧ ((n : Int) == 0) = false) ∧ decide (14 < (n : Int)) = false) ∧ (e0 != 0) = false := by simpa using hb
          obtain ⟨⟨⟨y1, y2⟩, y3⟩, y4⟩ := y
          have dx := dx y1 y2 y3 y4
          go_simp
          exact hK _ _ hB (by show _ = _; rw [y1, y2, y3, y4]; rfl)
        · clear dx
          go_simp
          exact hK _ _ hB (by show _ = _; rw [hb]; rfl)
    · intro a w' ha hT hv
      have d25 : a.tmps.getD 39 undef = .bool (!sB || ((n : Int) == 0) || decide (14 < (n : Int)) || (e0 != 0) || !ex) := hv 25 (by decide)
      clear hv
      simp only [List.map_cons, List.map_nil, Act.puts] at ha
      generalize a.tmps.getD 14 undef = y14 at ha
      generalize a.tmps.getD 15 undef = y15 at ha
      generalize a.tmps.getD 16 undef = y16 at ha
      generalize a.tmps.getD 17 undef = y17 at ha
      generalize a.tmps.getD 18 undef = y18 at ha
      generalize a.tmps.getD 19 undef = y19 at ha
      generalize a.tmps.getD 20 undef = y20 at ha
      generalize a.tmps.getD 21 undef = y21 at ha
      generalize a.tmps.getD 22 undef = y22 at ha
      generalize a.tmps.getD 23 undef = y23 at ha
      generalize a.tmps.getD 24 undef = y24 at ha
      generalize a.tmps.getD 25 undef = y25 at ha
      generalize a.tmps.getD 26 undef = y26 at ha
      generalize a.tmps.getD 27 undef = y27 at ha
      generalize a.tmps.getD 28 undef = y28 at ha
      generalize a.tmps.getD 29 undef = y29 at ha
      generalize a.tmps.getD 30 undef = y30 at ha
      generalize a.tmps.getD 31 undef = y31 at ha
      generalize a.tmps.getD 32 undef = y32 at ha
      generalize a.tmps.getD 33 undef = y33 at ha
      generalize a.tmps.getD 34 undef = y34 at ha
      generalize a.tmps.getD 35 undef = y35 at ha
      generalize a.tmps.getD 36 undef = y36 at ha
      generalize a.tmps.getD 37 undef = y37 at ha
      generalize a.tmps.getD 38 undef = y38 at ha
      generalize a.tmps.getD 39 undef = y39 at ha d25
      simp only [Act.put, List.setIfInBounds_toArray, List.set_cons_zero, List.set_cons_succ] at ha
      subst ha
      subst d25
      have HW := hid hT
      clear hT
      obtain ⟨b, hb⟩ : ∃ b, (!sB || ((n : Int) == 0) || decide (14 < (n : Int)) || (e0 != 0) || !ex) = b := ⟨_, rfl⟩
      rw [hb]
      have HBF := hid hb
      clear hb
      go_wp2_with fail
      go_meet
      refine ⟨HW, ?_⟩
      cases b
      · have y : (((sB = true ∧ ((n : Int) == 0) = false) ∧ decide (14 < (n : Int)) = false) ∧ (e0 != 0) = false) ∧ ex = true := by simpa using HBF.out
        obtain ⟨⟨⟨⟨y1, y2⟩, y3⟩, y4⟩, y5⟩ := y
        obtain ⟨q1, q2, q3, q4, q5⟩ := HGD.out y1 y2 y3 y4
        exact Or.inr ⟨rfl, hid ⟨q1, q2, q3, q4, q5 y5⟩⟩
      · exact Or.inl rfl
  clear q0 q1 HSM HCK HEX HD0
  obtain ⟨HWC, hs39⟩ := hcut
  have HPc := hid (HP1.out.below HWC.out)
  have HEc := hid (HE1.out.below HWC.out)
  have HLc := hid (HL.out.below HWC.out)
  have HNc := hid (HN1.out.below HWC.out HN1.out.lt)
  have HBc : Hid (Below w.heap.size w wc) := hid (HB1.out.trans (HWC.out.mono HB1.out.size))
  clear HWC HP1 HE1 HL HN1 HB1
  rcases hs39 with rfl | ⟨rfl, HG⟩
  · go_wp2_with fail
    go_ret
    exact ⟨rfl, HBc.out⟩
  · obtain ⟨hP12, hpos, h14, hc0, ha0, han⟩ := HG.out
    have HC0 := hid hc0
    have HA0 := hid (And.intro ha0 han)
    clear HG hc0 ha0 han
    have q0 := HNc.out.at 0 rfl
    have q1 := HNc.out.at 1 rfl
    have HC := hid (minutes_any P E L A1 A2 A3 c1 c2 c3 _ HC0.out (by omega) HPc.out HEc.out HLc.out)
    unfold netV at HC
    go_wp2_with fail
    refine HC.out.mono ?_
    intro e wm hc
    obtain ⟨hb, hr⟩ := hc
    have HPm := hid (HPc.out.below hb)
    have HEm := hid (HEc.out.below hb)
    have HLm := hid (HLc.out.below hb)
    have HNm := hid (HNc.out.below hb HNc.out.lt)
    have HBm : Hid (Below w.heap.size w wm) := hid (HBc.out.trans (hb.mono HBc.out.size))
    clear hb HC q0 q1 HPc HEc HLc HNc HBc
    rcases hr with ⟨_, rfl⟩ | ⟨x, hm, rfl⟩
    · go_wp2_with fail
      go_ret
      exact ⟨rfl, HBm.out⟩
    · have HM := hid hm
      clear hm
      obtain ⟨m, hmL⟩ : ∃ m, L.length - 1 = m := ⟨_, rfl⟩
      have HML := hid hmL
      have hmlt : m < L.length := by omega
      have hw : IntKind.i64.wrap ((L.length : Int) - 1) = (m : Int) := by rw [IntWalk.i64_in _ (by omega)]; omega
      clear hmL
      obtain ⟨a, ha⟩ : ∃ a, L.getD 0 0 = a := ⟨_, rfl⟩
      obtain ⟨z, hz⟩ : ∃ z, L.getD m 0 = z := ⟨_, rfl⟩
      have HA := hid ha
      have HZ := hid hz
      clear ha hz
      obtain ⟨bb, off, hA3, _, _⟩ := HLm.out.at hpos
      subst hA3
      obtain ⟨bb', off', hA3, hbb, hcc⟩ := HLm.out.at hpos
      injection hA3 with hA3
      injection hA3 with h31 h32
      subst h31 h32
      have l0 := hcc 0 hpos
      have l1 := hcc m hmlt
      rw [HA.out, Nat.add_zero] at l0
      rw [HZ.out] at l1
      clear hcc
      have q0 := HNm.out.at 0 rfl
      have q1 := HNm.out.at 1 rfl
      have HC := hid (fun (W : World) (hb : Below wm.heap.size wm W) => Route_any P E A1 A2 c1 c2 a z W (HPm.out.below hb) (HEm.out.below hb))
      unfold netV at HC
      have HD : Hid (Below wm.heap.size wm wm.drew) := hid (Below.refl _ _).drew
      have hNlt := HNm.out.lt
      have KEEP : Hid (∀ w', Below wm.heap.size wm w' → w'.cell? ⟨w.heap.size, 0, none⟩ = some (.slice A1 P.length c1) ∧ w'.cell? ⟨w.heap.size, 1, none⟩ = some (.slice A2 E.length c2) ∧ w'.cell? ⟨bb, off, none⟩ = some (.int .i64 a) ∧ w'.cell? ⟨bb, off + m, none⟩ = some (.int .i64 z)) := hid (fun w' hb => ⟨(HNm.out.below hb HNm.out.lt).at 0 rfl, (HNm.out.below hb HNm.out.lt).at 1 rfl, (hb.cell (p := ⟨bb, off, none⟩) hbb).trans l0, (hb.cell (p := ⟨bb, off + m, none⟩) hbb).trans l1⟩)
      clear hNlt
      go_upto_region 8 with fail
      go_cut [7, 8] (fun s7 s8 wc => ∃ (M : List Int) (B : Option Addr) (d : Nat) (r : Int), s7 = .slice B M.length d ∧ s8 = .int .i64 r ∧ Hid (IntR wc B M ∧ RteS P E a z M r ∧ Below wm.heap.size wm wc))
      case first =>
        first | (go_region_held3 (fun w' => w'.cell? ⟨w.heap.size, 0, none⟩ = some (.slice A1 P.length c1) ∧ w'.cell? ⟨w.heap.size, 1, none⟩ = some (.slice A2 E.length c2) ∧ w'.cell? ⟨bb, off, none⟩ = some (.int .i64 a) ∧ w'.cell? ⟨bb, off + m, none⟩ = some (.int .i64 z)) (first | exact KEEP.out _ HD2.out | exact KEEP.out _ HD.out) (first | (go_at_call 17; refine (HC.out _ HD.out).mono ?_; intro e w2 hc; obtain ⟨M, B, d, r, rfl, hi, hs, hb⟩ := RteP.view hc; clear hc; have HD2 := hid (HD.out.trans (hb.mono HD.out.size))))) | fail "held"
        all_goals go_wp2_with fail
        all_goals go_meet
        all_goals exact ⟨M, B, d, r, rfl, rfl, hid ⟨hi, hs, HD.out.trans (hb.mono HD.out.size)⟩⟩
      obtain ⟨M, B, d, r, rfl, rfl, HR⟩ := hcut
      obtain ⟨wr, hwr⟩ : ∃ wr, wc = wr := ⟨_, rfl⟩
      rw [hwr] at HR ⊢
      clear hwr
      have hb := HR.out.2.2
      have HPr := hid (HPm.out.below hb)
      have HEr := hid (HEm.out.below hb)
      have HLr := hid (HLm.out.below hb)
      have HMr := hid HR.out.1
      have HRS := hid HR.out.2.1
      have HNr := hid (HNm.out.below hb HNm.out.lt)
      have HBr : Hid (Below w.heap.size w wr) := hid (HBm.out.trans (hb.mono HBm.out.size))
      clear hb HC HD KEEP q0 q1 l0 l1 hbb HPm HEm HLm HNm HBm HR
      obtain ⟨bb', off', hA3, hbb, hcc⟩ := HLr.out.at hpos
      injection hA3 with hA3
      injection hA3 with h31 h32
      subst h31 h32
      have l0 := hcc 0 hpos
      have l1 := hcc m hmlt
      rw [HA.out, Nat.add_zero] at l0
      rw [HZ.out] at l1
      clear hcc
      have q0 := HNr.out.at 0 rfl
      have q1 := HNr.out.at 1 rfl
      have HC := hid (fun (W : World) (hb : Below wr.heap.size wr W) => Between_any P E A1 A2 c1 c2 a z W (HPr.out.below hb) (HEr.out.below hb))
      unfold netV at HC
      have HD : Hid (Below wr.heap.size wr wr.drew) := hid (Below.refl _ _).drew
      have hNlt := HNr.out.lt
      have KEEP : Hid (∀ w', Below wr.heap.size wr w' → w'.cell? ⟨w.heap.size, 0, none⟩ = some (.slice A1 P.length c1) ∧ w'.cell? ⟨w.heap.size, 1, none⟩ = some (.slice A2 E.length c2) ∧ w'.cell? ⟨bb, off, none⟩ = some (.int .i64 a) ∧ w'.cell? ⟨bb, off + m, none⟩ = some (.int .i64 z)) := hid (fun w' hb => ⟨(HNr.out.below hb HNr.out.lt).at 0 rfl, (HNr.out.below hb HNr.out.lt).at 1 rfl, (hb.cell (p := ⟨bb, off, none⟩) hbb).trans l0, (hb.cell (p := ⟨bb, off + m, none⟩) hbb).trans l1⟩)
      clear hNlt
      go_upto_region 9 with fail
      go_cut [9, 10] (fun s9 s10 wc => ∃ (y s : Int), s9 = .int .i64 y ∧ s10 = .int .i64 s ∧ Hid (BetS P E a z y s ∧ Below wr.heap.size wr wc))
      case first =>
        first | (go_region_held3 (fun w' => w'.cell? ⟨w.heap.size, 0, none⟩ = some (.slice A1 P.length c1) ∧ w'.cell? ⟨w.heap.size, 1, none⟩ = some (.slice A2 E.length c2) ∧ w'.cell? ⟨bb, off, none⟩ = some (.int .i64 a) ∧ w'.cell? ⟨bb, off + m, none⟩ = some (.int .i64 z)) (first | exact KEEP.out _ HD2.out | exact KEEP.out _ HD.out) (first | (go_at_call 16; refine (HC.out _ HD.out).mono ?_; intro e w2 hc; obtain ⟨hb, y, s, rfl, hs⟩ := hc; have HD2 := hid (HD.out.trans (hb.mono HD.out.size))))) | fail "held"
        all_goals go_wp2_with fail
        all_goals go_meet
        all_goals exact ⟨y, s, rfl, rfl, hid ⟨hs, HD.out.trans (hb.mono HD.out.size)⟩⟩
      obtain ⟨y, s, rfl, rfl, HR⟩ := hcut
      obtain ⟨wt, hwt⟩ : ∃ wt, wc = wt := ⟨_, rfl⟩
      rw [hwt] at HR ⊢
      clear hwt
      have hb := HR.out.2
      have HLt := hid (HLr.out.below hb)
      have HMt := hid (HMr.out.below hb)
      have HBt : Hid (Below w.heap.size w wt) := hid (HBr.out.trans (hb.mono HBr.out.size))
      have HF := hid (least (x := x) HC0.out hpos HA.out (by rw [HML.out]; exact HZ.out) (by rw [← HA.out]; exact HA0.out.1) (by rw [← HA.out]; exact HA0.out.2) HM.out HRS.out HR.out.1)
      have hMl : M.length ≤ 12 := by have := HRS.out.len; omega
      clear hb HC HD KEEP q0 q1 l0 l1 hbb HPr HEr HLr HNr HBr HR HMr HRS hw HA HZ HML hmlt HM HC0 HA0
      obtain ⟨rfl, rfl, hyx⟩ := And.intro HF.out.1 (And.intro HF.out.2.1 HF.out.2.2.1)
      have hyx2 : ¬ x < y := by omega
      have HLE := hid HF.out.2.2.2
      clear HF hyx
      by_cases hxy : x = y
      · subst hxy
        have HFI := hid (HLE.out rfl).1
        have HLN := hid (HLE.out rfl).2
        clear HLE
        go_wp2_with fail
        go_loopw [11] (fun s11 wv => ∃ i : Nat, i ≤ L.length ∧ i ≤ M.length ∧ s11 = .int .i64 i ∧ Hid (Below wt.heap.size wt wv ∧ ∀ j, j < i → M.getD j 0 = L.getD j 0)) (fun s11 _ => L.length - (intOf s11).toNat)
        case atStart => exact ⟨0, Nat.zero_le _, Nat.zero_le _, rfl, hid ⟨Below.refl _ _, fun j hj => absurd hj (by omega)⟩⟩
        case round =>
          obtain ⟨i, hiL, hiM, rfl, HI⟩ := hrel
          have HBv : Hid (Below w.heap.size w wr) := hid (HBt.out.trans (HI.out.1.mono HBt.out.size))
          by_cases hb : i < L.length ∧ i < M.length
          · have hl := hb.1
            have hm := hb.2
            have hli : (i : Int) < L.length := by omega
            have hmi : (i : Int) < M.length := by omega
            obtain ⟨b1, o1, hA1, _, hc1⟩ := (HLt.out.below HI.out.1).at hpos
            obtain ⟨b2, o2, hA2, _, hc2⟩ := (HMt.out.below HI.out.1).at (by omega)
            injection hA1 with hA1
            injection hA1 with h31 h32
            subst h31 h32 hA2
            have l0 := hc1 i hl
            have l1 := hc2 i hm
            clear hc1 hc2 hb
            have HU : Hid ((∀ j, j < i → M.getD j 0 = L.getD j 0) → M.getD i 0 ≠ L.getD i 0 → M.getD i 0 < L.getD i 0) := hid (HFI.out i hl hm)
            have HV : Hid (M.getD i 0 = L.getD i 0 → ∀ j, j < i + 1 → M.getD j 0 = L.getD j 0) := hid (fun h j hj => by
              rcases (by omega : j < i ∨ j = i) with h2 | rfl
              · exact HI.out.2 j h2
              · exact h)
            generalize L.getD i 0 = u at *
            generalize M.getD i 0 = v at *
            by_cases huv : u = v
            · subst huv
              have hkk : (u == u) = true := by simp
              have HV2 := hid (HV.out rfl)
              clear HU HV
              go_wp2_with fail
              go_big_quiet (fail)
              go_wp2_with fail
              exact ⟨⟨i + 1, by omega, by omega, by go_num, hid ⟨below_drewN HI.out.1 _, HV2.out⟩⟩, by simp [intOf]; omega⟩
            · have k0 : (u == v) = false := by simpa using huv
              have k2 : (u != v) = true := by simpa using huv
              have hlt : v < u := HU.out HI.out.2 (fun e => huv e.symm)
              clear HU HV huv
              go_wp2_with fail
              go_big_quiet (fail)
              go_wp2_with fail
              go_big_quiet (fail)
              go_wp2_with fail
              go_ret
              exact ⟨rfl, below_drewN (below_drewN HBv.out _) _⟩
          · have HE2 : Hid (M.length = L.length) := hid (HLN.out (fun j h1 h2 => HI.out.2 j (by omega)))
            have h1 : (L.length : Int) = M.length := by have := HE2.out; omega
            have h2 : i = L.length := by have := HE2.out; omega
            subst h2
            have h3 : ((M.length : Int) == (L.length : Int)) = true := by simp [HE2.out]
            clear h1 hb
            go_wp2_with fail
            go_ret
            exact ⟨rfl, HBv.out⟩
      · have k0 : (x == y) = false := by simpa using hxy
        have hgt : y < x := by omega
        clear HLE hxy
        go_wp2_with fail
        go_loopw [11] (fun s11 wr => s11 = .int .i64 0 ∧ Hid (Below w.heap.size w wr)) (fun _ _ => 0)
        case atStart => exact ⟨rfl, HBt⟩
        case round =>
          obtain ⟨rfl, HI⟩ := hrel
          go_wp2_with fail
          go_ret
          exact ⟨rfl, HI.out⟩
end Go.Proofs.Ytmbmmnlcnplgnaa
