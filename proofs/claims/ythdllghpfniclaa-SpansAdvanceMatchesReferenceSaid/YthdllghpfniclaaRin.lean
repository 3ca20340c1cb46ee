/-
  The walks of wagonpoolref05's Contains, holds and insert. Conditions: the lists lie in memory as they read.
-/
import Derived.Test.YthdllghpfniclaaOwn
import Derived.Test.YthdllghpfniclaaCon
import Derived.Laws.AppendOwnNone
import Derived.IntWalk
namespace Go.Proofs.Ythdllghpfniclaa
open Go.RowKit
set_option maxHeartbeats 1000000 in
theorem rcon_any (L : List Sp) (m : Int) (A : Option Addr) (c : Nat) (w : World) (hL : SpR w A L) (hl : L.length ≤ 1000000) :
    Calls Try.prog 13 #[.slice A L.length c, .int .i64 m] w fun e w' => e = .returned (.bool (conB L m)) ∧ w = w' := by
  have HL := hid hL
  obtain ⟨r, hr⟩ : ∃ r, conB L m = r := ⟨_, rfl⟩
  rw [hr]
  have HR := hid hr
  clear hL hr
  go_enter Try.func13, Try.ntmps13
  go_wp2_with fail
  go_loop [5] (fun s5 => ∃ i : Nat, i ≤ L.length ∧ s5 = .int .i64 i ∧ Hid ((L.take i).any (inSp m) = false)) (fun s5 => L.length - (intOf s5).toNat)
  case atStart => exact ⟨0, Nat.zero_le _, rfl, hid rfl⟩
  case round =>
    obtain ⟨i, hi, rfl, HI⟩ := hrel
    by_cases hlt : i < L.length
    · obtain ⟨b, off, rfl, hb, hc⟩ := HL.out.at2 (Below.refl _ _) (by omega)
      obtain ⟨l0, l1⟩ := hc i _ (List.getElem?_eq_getElem hlt)
      have HT : Hid ((L.take (i + 1)).any (inSp m) = inSp m L[i]) := hid (by rw [List.take_add_one, List.getElem?_eq_getElem hlt, List.any_append, HI.out]; simp)
      have HA : Hid (inSp m L[i] = true → L.any (inSp m) = true) := hid (fun h => List.any_eq_true.2 ⟨_, List.getElem_mem hlt, h⟩)
      clear hc
      generalize L[i] = s at *
      obtain ⟨f, t⟩ := s
      simp only at l0 l1
      rw [show inSp m (f, t) = decide (f ≤ m ∧ m < t) from rfl] at HT HA
      by_cases h1 : f ≤ m
      · have k1 : decide (f ≤ m) = true := by simpa using h1
        by_cases h2 : m < t
        · have k2 : decide (m < t) = true := by simpa using h2
          have HQ : Hid (r = decide (0 ≤ m ∧ m < 1073741824)) := hid (by
            rw [← HR.out]
            unfold conB
            rw [show L.any (inSp m) = true from HA.out (decide_eq_true ⟨h1, h2⟩), Bool.and_true])
          by_cases h3 : 0 ≤ m
          · have k3 : decide (0 ≤ m) = true := by simpa using h3
            by_cases h4 : m < 1073741824
            · have k4 : decide (m < 1073741824) = true := by simpa using h4
              have HF : Hid (r = true) := hid (by rw [HQ.out]; simp; omega)
              clear HQ
              go_wp2_with fail
              go_ret
              exact ⟨ret_bool HF.out.symm, rfl⟩
            · have k4 : decide (m < 1073741824) = false := by simpa using h4
              have HF : Hid (r = false) := hid (by rw [HQ.out]; simp; omega)
              clear HQ
              go_wp2_with fail
              go_ret
              exact ⟨ret_bool HF.out.symm, rfl⟩
          · have k3 : decide (0 ≤ m) = false := by simpa using h3
            have HF : Hid (r = false) := hid (by rw [HQ.out]; simp; omega)
            clear HQ
            go_wp2_with fail
            go_ret
            exact ⟨ret_bool HF.out.symm, rfl⟩
        · have k2 : decide (m < t) = false := by simpa using h2
          go_wp2_with fail
          go_round
          case rel => exact ⟨i + 1, by omega, by go_num, hid (by rw [HT.out]; simp; omega)⟩
          case measure => simp [intOf]; omega
      · have k1 : decide (f ≤ m) = false := by simpa using h1
        go_wp2_with fail
        go_round
        case rel => exact ⟨i + 1, by omega, by go_num, hid (by rw [HT.out]; simp; omega)⟩
        case measure => simp [intOf]; omega
    · have : i = L.length := by omega
      subst this
      have HQ : Hid (r = false) := hid (by
        rw [← HR.out]
        have := HI.out
        rw [List.take_length] at this
        unfold conB
        rw [this, Bool.and_false])
      go_wp2_with fail
      go_ret
      exact ⟨ret_bool HQ.out.symm, rfl⟩
theorem holds0_any (x y : Bool) (w : World) : Calls Try.prog 39 #[.int .i64 0, .bool x, .bool y] w fun e w' => e = .returned (.bool (x || y)) ∧ w = w' := by
  cases x <;> cases y <;> (go_enter Try.func39, Try.ntmps39; go_wp2_with fail; go_ret; exact ⟨rfl, rfl⟩)
/-! ### Lists of numbers -/
def intC (P : List Int) : List Value := P.map (.int .i64)
def IntR (w : World) (A : Option Addr) (P : List Int) : Prop := CelR w A (intC P)
theorem intC_append (L M : List Int) : intC (L ++ M) = intC L ++ intC M := by unfold intC; rw [List.map_append]
theorem IntR.at {w : World} {A : Option Addr} {P : List Int} (h : IntR w A P) (hp : 0 < P.length) : ∃ b off, A = some ⟨b, off, none⟩ ∧ b < w.heap.size ∧ ∀ i y, P[i]? = some y → w.cell? ⟨b, off + i, none⟩ = some (.int .i64 y) := by
  obtain ⟨b, off, e, hb, hc⟩ := h (by intro e; unfold intC at e; rw [List.map_eq_nil_iff] at e; subst e; cases hp)
  exact ⟨b, off, e, hb, fun i y hy => hc i _ (by unfold intC; rw [List.getElem?_map, hy]; rfl)⟩
theorem IntR.take {w : World} {A : Option Addr} {P : List Int} (h : IntR w A P) (n : Nat) : IntR w A (P.take n) := fun hne => by
  have hp : 0 < P.length := by
    cases P with
    | nil => exact absurd (by simp [intC]) hne
    | cons => simp
  obtain ⟨b, off, e, hb, hc⟩ := h.at hp
  refine ⟨b, off, e, hb, fun j u hu => ?_⟩
  unfold intC at hu
  rw [List.getElem?_map] at hu
  obtain ⟨y, hy, rfl⟩ := Option.map_eq_some_iff.1 hu
  rw [List.getElem?_take] at hy
  split at hy
  · exact hc j y hy
  · cases hy
theorem IntR.drop {w : World} {b off : Nat} {P : List Int} (h : IntR w (some ⟨b, off, none⟩) P) (n : Nat) : IntR w (some ⟨b, off + n, none⟩) (P.drop n) := fun hne => by
  have hp : 0 < P.length := by
    cases P with
    | nil => exact absurd (by simp [intC]) hne
    | cons => simp
  obtain ⟨b', off', e, hb, hc⟩ := h.at hp
  injection e with e
  injection e with e1 e2
  subst e1 e2
  refine ⟨b, off + n, rfl, hb, fun j u hu => ?_⟩
  unfold intC at hu
  rw [List.getElem?_map] at hu
  obtain ⟨y, hy, rfl⟩ := Option.map_eq_some_iff.1 hu
  rw [List.getElem?_drop] at hy
  rw [Nat.add_assoc]
  exact hc _ y hy
def OwnI (w : World) (B : Nat) (v : Value) (P : List Int) : Prop := w.ownsRow B 3 1 v P.length (intC P)
theorem info3 : (Try.prog.info? 3).map (fun i => (i.zero, i.size, i.bytes)) = some (some (.int .i64 0), 1, 8) := by kernel_rfl
theorem OwnI.form {w : World} {base : Nat} {v : Value} {P : List Int} (h : OwnI w base v P) : ∃ A c, v = .slice A P.length c ∧ IntR w A P ∧ P.length ≤ c ∧ (A = none → c = 0) := by
  rcases h.2 with ⟨h1, h2⟩ | ⟨g, c, cur, hv, hb, hg, hnc, hcm, hcs, htake⟩
  · have : P = [] := List.eq_nil_of_length_eq_zero h2
    subst this
    exact ⟨none, 0, h1, CelR.nil _ _, Nat.le_refl _, fun _ => rfl⟩
  · subst hv
    refine ⟨_, c, rfl, fun _ => ⟨g, 0, rfl, (Array.getElem?_eq_some_iff.1 hg).1, fun j u hu => ?_⟩, hnc, fun e => by cases e⟩
    have hj : j < P.length * 1 := by
      have := (List.getElem?_eq_some_iff.1 hu).1
      unfold intC at this
      rw [List.length_map] at this; omega
    rw [Nat.zero_add, World.ownsRow.cellAt h j hj]; exact hu
theorem OwnI.grown {w0 w w' w1 : World} {B : Nat} {v : Value} {P : List Int} (h : OwnI w1 B v P) (hb : Below B w0 w) (hB : B ≤ w.heap.size) (hg : w.grownBy w' v.ownBlock) : Below B w0 w' :=
  hb.grown hg hB (fun k e => (World.ownsRow.lt h k e).1)
theorem app_int {ops : Array Oper} {rest : List Oper} {o : Oper} {a : Act} {Q : Exit → Act → World → Prop} {w : World} (hgd : o.guard = none) (s x : Operand)
    (ho : o.op = .call { callee := .builtin .append, args := #[s, x], argTypes := #[56, 56] })
    (B : Nat) (v : Value) (X : List Int) (hs : a.eval s = v) (hown : OwnI w B v X) (A : Option Addr) (n c : Nat) (M : List Int) (hn' : n = M.length) (hx : a.eval x = .slice A n c) (hM : IntR w A M) (hn : A = none → c = 0)
    (hlen : X.length + M.length ≤ 1000000) (hbase : B ≤ w.heap.size)
    (h : ∀ A' c' w', OwnI w' B (.slice A' (X.length + n) c') (X ++ M) → w.grownBy w' v.ownBlock → wpList Try.prog ops Q rest (a.put o.dst (.slice A' (X.length + n) c')) w') :
    wpList Try.prog ops Q (o :: rest) a w := by
  subst hn'
  obtain ⟨i0, hi3, hz0, hz1, hz2⟩ := info_parts info3
  have key : ∀ ad : Addr, A = some ad → wpList Try.prog ops Q (o :: rest) a w := fun ad hA => by
    subst hA
    refine wpList_append_own_at w hgd s x _ ho B 3 i0 _ 1 8 Try.underlying56 hi3 hz0 hz1 hz2 rfl (by decide) v X.length (intC X) hs hown ad M.length c (intC M) hx (by simp [intC]) ?_
      (by
        intro u hu
        unfold intC at hu
        obtain ⟨s, _, rfl⟩ := List.mem_map.1 hu
        rfl) (by unfold maxLen; omega) (by omega) hbase ?_
    · intro j u hu
      obtain ⟨b, off, e, _, hc⟩ := hM (by intro e; rw [e] at hu; cases hu)
      injection e with e
      subst e
      rw [show (⟨b, off, none⟩ : Addr).add j = ⟨b, off + j, none⟩ by simp [Addr.add]]
      exact hc j u hu
    · intro v' w' h1 h2 _ _
      have h3 : OwnI w' B v' (X ++ M) := by
        unfold OwnI
        rw [intC_append, List.length_append]
        exact h1
      obtain ⟨A', c', rfl, _⟩ := h3.form
      rw [List.length_append] at h3 ⊢
      exact h A' c' w' h3 h2
  cases A with
  | some ad => exact key ad rfl
  | none =>
    have hc := hn rfl
    subst hc
    have hM0 : M = [] := by
      cases M with
      | nil => rfl
      | cons s M =>
        obtain ⟨_, _, e, _⟩ := hM (by simp [intC])
        cases e
    subst hM0
    obtain ⟨A', c', rfl, _⟩ := hown.form
    refine wpList_append_own_none hgd s x _ ho B 3 i0 1 Try.underlying56 hi3 _ X.length (intC X) hs hown hx ?_
    have := h A' c' w (by rw [List.append_nil]; exact hown) ⟨rfl, rfl, rfl, Nat.le_refl _, fun _ _ _ => rfl⟩
    exact this
theorem own_empty3 {w : World} {B p : Nat} (h : Blk w p 3 #[]) (hB : B ≤ p) : OwnI w B (.slice (some ⟨p, 0, none⟩) 0 0) [] :=
  ⟨by simp [intC], .inr ⟨p, 0, #[], rfl, hB, h, Nat.le_refl _, by unfold maxLen; omega, by simp, by simp [intC]⟩⟩
theorem one_int (w : World) (x : Int) : IntR (w.alloc (.cells #[.int .i64 x] 3)) (some ⟨w.heap.size, 0, none⟩) [x] := fun _ =>
  ⟨w.heap.size, 0, rfl, by simp, fun j u hu => by rw [Nat.zero_add]; exact (Blk.new w 3 #[.int .i64 x]).at j (by simpa [intC] using hu)⟩
/-- An increasing list with a further number. -/
def insL (x : Int) : List Int → List Int
  | [] => [x]
  | y :: P => if y < x then y :: insL x P else if y = x then y :: P else x :: y :: P
theorem insL_len (x : Int) (P : List Int) : (insL x P).length ≤ P.length + 1 := by
  induction P with
  | nil => simp [insL]
  | cons y P ih => unfold insL; split <;> (try split) <;> simp <;> omega
/-- A slice of numbers, as it reads. -/
def IntV (w : World) (v : Value) (P : List Int) : Prop := ∃ A c, v = .slice A P.length c ∧ IntR w A P ∧ P.length ≤ c ∧ (A = none → c = 0)
theorem IntR.below {w w' : World} {A : Option Addr} {P : List Int} (h : IntR w A P) (hb : Below w.heap.size w w') : IntR w' A P := CelR.below h hb
set_option maxHeartbeats 4000000 in
theorem insert_any (P : List Int) (x : Int) (A : Option Addr) (c : Nat) (w : World) (hP : IntR w A P) (hc : P.length ≤ c) (hA : A = none → c = 0) (hl : P.length ≤ 100000) :
    Calls Try.prog 56 #[.slice A P.length c, .int .i64 x] w fun e w' => ∃ v, e = .returned v ∧ IntV w' v (insL x P) ∧ Below w.heap.size w w' := by
  have HP := hid hP
  have HA := hid hA
  have HC := hid hc
  clear hP hA hc
  obtain ⟨R, hR⟩ : ∃ R, insL x P = R := ⟨_, rfl⟩
  rw [hR]
  have HR := hid hR
  clear hR
  go_enter Try.func56, Try.ntmps56
  go_wp2_with fail
  go_loop [5] (fun s5 => ∃ i : Nat, i ≤ P.length ∧ s5 = .int .i64 i ∧ Hid (P.take i ++ insL x (P.drop i) = R)) (fun s5 => P.length - (intOf s5).toNat)
  case atStart => exact ⟨0, Nat.zero_le _, rfl, HR⟩
  case round =>
    obtain ⟨i, hi, rfl, HI⟩ := hrel
    by_cases hlt : i < P.length
    · obtain ⟨b, off, rfl, hb, hcc⟩ := HP.out.at (by omega)
      have l0 := hcc i _ (List.getElem?_eq_getElem hlt)
      have HT : Hid (P.take i ++ insL x (P[i] :: P.drop (i + 1)) = R) := hid (by have := HI.out; rwa [List.drop_eq_getElem_cons hlt] at this)
      have HT1 : Hid (P.take (i + 1) = P.take i ++ [P[i]]) := hid (by rw [List.take_add_one, List.getElem?_eq_getElem hlt]; rfl)
      have HT2 : Hid (P = P.take i ++ (P[i] :: P.drop (i + 1))) := hid (by rw [← List.drop_eq_getElem_cons hlt, List.take_append_drop])
      have HT3 : Hid (P.drop i = P[i] :: P.drop (i + 1)) := hid (List.drop_eq_getElem_cons hlt)
      clear hcc
      generalize P[i] = y at *
      by_cases h1 : y < x
      · have k1 : decide (y < x) = true := by simpa using h1
        have HN : Hid (P.take (i + 1) ++ insL x (P.drop (i + 1)) = R) := hid (by
          have := HT.out
          rw [show insL x (y :: P.drop (i + 1)) = y :: insL x (P.drop (i + 1)) from if_pos h1] at this
          rw [HT1.out, List.append_assoc]; exact this)
        go_wp2_with fail
        go_round
        case rel => exact ⟨i + 1, by omega, by go_num, HN⟩
        case measure => simp [intOf]; omega
      · have k1 : decide (y < x) = false := by simpa using h1
        by_cases h2 : y = x
        · have k2 : (y == x) = true := by simpa using h2
          have HN : Hid (P = R) := hid (by
            have := HT.out
            rw [show insL x (y :: P.drop (i + 1)) = y :: P.drop (i + 1) from (if_neg h1).trans (if_pos h2)] at this
            rw [← this, ← HT2.out])
          go_wp2_with fail
          go_ret
          exact ⟨_, rfl, ⟨_, _, by rw [← HN.out]; rfl, by rw [← HN.out]; exact HP.out, by rw [← HN.out]; exact HC.out, HA.out⟩, Below.refl _ _⟩
        · have k2 : (y == x) = false := by simpa using h2
          have HN : Hid ((P.take i ++ [x]) ++ P.drop i = R) := hid (by
            have := HT.out
            rw [show insL x (y :: P.drop (i + 1)) = x :: y :: P.drop (i + 1) from (if_neg h1).trans (if_neg h2), ← HT3.out] at this
            rw [List.append_assoc]; exact this)
          clear HT HT1 HT2 HT3 HI
          have hcc := HC.out
          have hic : ¬ i = c := by omega
          have hic2 : ¬ c = i := by omega
          have hile : i ≤ c := by omega
          have HOE : Hid (OwnI (w.alloc (.cells #[] 3)) w.heap.size (.slice (some ⟨w.heap.size, 0, none⟩) 0 0) []) := hid (own_empty3 (Blk.new _ _ _) (Nat.le_refl _))
          have HB0 : Hid (Below w.heap.size w (w.alloc (.cells #[] 3))) := hid ((Below.refl _ _).alloc (Nat.le_refl _) _)
          have HM : Hid (IntR (w.alloc (.cells #[] 3)) (some ⟨b, off, none⟩) (P.take i)) := hid ((HP.out.take i).below HB0.out)
          have HTL : Hid ((P.take i).length = i) := hid (by rw [List.length_take]; omega)
          have HSE : Hid (w.heap.size ≤ (w.alloc (.cells #[] 3)).heap.size) := hid HB0.out.size
          obtain ⟨T, hT⟩ : ∃ T, P.take i = T := ⟨_, rfl⟩
          rw [hT] at HM HTL HN
          have HDR : Hid (∀ W, Below w.heap.size w W → IntR W (some ⟨b, off + i, none⟩) (P.drop i)) := hid (fun W h => (HP.out.drop i).below h)
          have HDL : Hid ((P.length - i) = (P.drop i).length) := hid (List.length_drop.symm)
          obtain ⟨D, hD⟩ : ∃ T, P.drop i = T := ⟨_, rfl⟩
          rw [hD] at HDR HDL HN
          clear hT hD
          go_wp2_with (at_builtin; go_must (refine app_int rfl (.tmp 34) (.tmp 37) rfl w.heap.size _ [] rfl HOE.out (some ⟨b, off, none⟩) i c T HTL.out.symm rfl HM.out (fun e => by cases e) (by rw [HTL.out]; simp; omega) HSE.out ?_))
          intro A1 c1 w1 ho1 hg1
          have HO1 : Hid (OwnI w1 w.heap.size (.slice A1 i c1) T) := hid (by simpa using ho1)
          have HB1 : Hid (Below w.heap.size w w1) := hid (HOE.out.grown HB0.out HSE.out hg1)
          have HBx : Hid (Below w.heap.size w (w1.alloc (.cells #[.int .i64 x] 3))) := hid (HB1.out.alloc HB1.out.size _)
          have HOx : Hid (OwnI (w1.alloc (.cells #[.int .i64 x] 3)) w.heap.size (.slice A1 i c1) T) := hid (World.ownsRow.alloc HO1.out _)
          have HMx : Hid (IntR (w1.alloc (.cells #[.int .i64 x] 3)) (some ⟨w1.heap.size, 0, none⟩) [x]) := hid (one_int _ _)
          have HSx : Hid (w.heap.size ≤ (w1.alloc (.cells #[.int .i64 x] 3)).heap.size) := hid HBx.out.size
          clear ho1 hg1
          go_wp2_with (at_builtin; go_must (refine app_int rfl (.tmp 39) (.tmp 41) rfl w.heap.size _ T rfl HOx.out (some ⟨w1.heap.size, 0, none⟩) 1 1 [x] rfl rfl HMx.out (fun e => by cases e) (by rw [HTL.out]; simp; omega) HSx.out ?_))
          intro A2 c2 w2 ho2 hg2
          have HO2 : Hid (OwnI w2 w.heap.size (.slice A2 (T.length + 1) c2) (T ++ [x])) := hid ho2
          have HB2 : Hid (Below w.heap.size w w2) := hid (HOx.out.grown HBx.out HSx.out hg2)
          clear ho2 hg2
          have HMd := hid (HDR.out w2 HB2.out)
          go_wp2_with (at_builtin; go_must (refine app_int rfl (.tmp 43) (.tmp 46) rfl w.heap.size _ (T ++ [x]) rfl HO2.out (some ⟨b, off + i, none⟩) (P.length - i) (c - i) D HDL.out rfl HMd.out (fun e => by cases e) (by rw [← HDL.out]; simp [HTL.out]; omega) HB2.out.size ?_))
          intro A3 c3 w3 ho3 hg3
          have HB3 : Hid (Below w.heap.size w w3) := hid (HO2.out.grown HB2.out HB2.out.size hg3)
          have hRR : T ++ x :: D = R := by have := HN.out; simpa using this
          rw [hRR] at ho3
          have HF3 := hid ho3.form
          clear ho3 hg3 hRR
          go_wp2_with fail
          go_ret
          exact ⟨_, rfl, HF3.out, HB3.out⟩
    · have hin : i = P.length := by omega
      have hd : P.drop i = [] := List.drop_eq_nil_of_le (by omega)
      have HD0 := hid hd
      have HN : Hid (P.take i ++ [x] ++ P.drop i = R) := hid (by
        have h := HI.out
        rw [hd] at h ⊢
        rw [List.append_nil]
        exact h)
      have hcc := HC.out
      have hile : i ≤ c := by omega
      have k0 : ¬ (i : Int) < (P.length : Int) := by omega
      have kz : (i : Int) ≤ (P.length : Int) := by omega
      by_cases hci : c = i
      · subst hci
        clear hd HI hin
        have HOE : Hid (OwnI (w.alloc (.cells #[] 3)) w.heap.size (.slice (some ⟨w.heap.size, 0, none⟩) 0 0) []) := hid (own_empty3 (Blk.new _ _ _) (Nat.le_refl _))
        have HB0 : Hid (Below w.heap.size w (w.alloc (.cells #[] 3))) := hid ((Below.refl _ _).alloc (Nat.le_refl _) _)
        have HM : Hid (IntR (w.alloc (.cells #[] 3)) A (P.take c)) := hid ((HP.out.take c).below HB0.out)
        have HTL : Hid ((P.take c).length = c) := hid (by rw [List.length_take]; omega)
        have HSE : Hid (w.heap.size ≤ (w.alloc (.cells #[] 3)).heap.size) := hid HB0.out.size
        obtain ⟨T, hT⟩ : ∃ T, P.take c = T := ⟨_, rfl⟩
        rw [hT] at HM HTL HN
        have HDR : Hid (∀ W, Below w.heap.size w W → IntR W A (P.drop c)) := hid (fun W h => ((by rw [HD0.out]; exact CelR.nil _ _ : IntR w A (P.drop c))).below h)
        have HDL : Hid (0 = (P.drop c).length) := hid (by rw [HD0.out]; rfl)
        obtain ⟨D, hD⟩ : ∃ T, P.drop c = T := ⟨_, rfl⟩
        rw [hD] at HDR HDL HN
        clear hT hD
        go_wp2_with (at_builtin; go_must (refine app_int rfl (.tmp 34) (.tmp 37) rfl w.heap.size _ [] rfl HOE.out A c c T HTL.out.symm rfl HM.out HA.out (by rw [HTL.out]; simp; omega) HSE.out ?_))
        intro A1 c1 w1 ho1 hg1
        have HO1 : Hid (OwnI w1 w.heap.size (.slice A1 c c1) T) := hid (by simpa using ho1)
        have HB1 : Hid (Below w.heap.size w w1) := hid (HOE.out.grown HB0.out HSE.out hg1)
        have HBx : Hid (Below w.heap.size w (w1.alloc (.cells #[.int .i64 x] 3))) := hid (HB1.out.alloc HB1.out.size _)
        have HOx : Hid (OwnI (w1.alloc (.cells #[.int .i64 x] 3)) w.heap.size (.slice A1 c c1) T) := hid (World.ownsRow.alloc HO1.out _)
        have HMx : Hid (IntR (w1.alloc (.cells #[.int .i64 x] 3)) (some ⟨w1.heap.size, 0, none⟩) [x]) := hid (one_int _ _)
        have HSx : Hid (w.heap.size ≤ (w1.alloc (.cells #[.int .i64 x] 3)).heap.size) := hid HBx.out.size
        clear ho1 hg1
        go_wp2_with (at_builtin; go_must (refine app_int rfl (.tmp 39) (.tmp 41) rfl w.heap.size _ T rfl HOx.out (some ⟨w1.heap.size, 0, none⟩) 1 1 [x] rfl rfl HMx.out (fun e => by cases e) (by rw [HTL.out]; simp; omega) HSx.out ?_))
        intro A2 c2 w2 ho2 hg2
        have HO2 : Hid (OwnI w2 w.heap.size (.slice A2 (T.length + 1) c2) (T ++ [x])) := hid ho2
        have HB2 : Hid (Below w.heap.size w w2) := hid (HOx.out.grown HBx.out HSx.out hg2)
        clear ho2 hg2
        have HMd := hid (HDR.out w2 HB2.out)
        go_wp2_with (at_builtin; go_must (refine app_int rfl (.tmp 43) (.tmp 46) rfl w.heap.size _ (T ++ [x]) rfl HO2.out A 0 0 D HDL.out rfl HMd.out (fun _ => rfl) (by rw [← HDL.out]; simp [HTL.out]; omega) HB2.out.size ?_))
        intro A3 c3 w3 ho3 hg3
        have HB3 : Hid (Below w.heap.size w w3) := hid (HO2.out.grown HB2.out HB2.out.size hg3)
        have hRR : T ++ x :: D = R := by have := HN.out; simpa using this
        rw [hRR] at ho3
        have HF3 := hid ho3.form
        clear ho3 hg3 hRR
        go_wp2_with fail
        go_ret
        exact ⟨_, rfl, HF3.out, HB3.out⟩
      · obtain ⟨b, off, sp, rfl⟩ : ∃ b off sp, A = some ⟨b, off, sp⟩ := by
          cases A with
          | none => have := HA.out rfl; omega
          | some ad => obtain ⟨b, off, sp⟩ := ad; exact ⟨b, off, sp, rfl⟩
        have hic2 : ¬ i = c := fun e => hci e.symm
        clear hd HI hin
        have HOE : Hid (OwnI (w.alloc (.cells #[] 3)) w.heap.size (.slice (some ⟨w.heap.size, 0, none⟩) 0 0) []) := hid (own_empty3 (Blk.new _ _ _) (Nat.le_refl _))
        have HB0 : Hid (Below w.heap.size w (w.alloc (.cells #[] 3))) := hid ((Below.refl _ _).alloc (Nat.le_refl _) _)
        have HM : Hid (IntR (w.alloc (.cells #[] 3)) (some ⟨b, off, sp⟩) (P.take i)) := hid ((HP.out.take i).below HB0.out)
        have HTL : Hid ((P.take i).length = i) := hid (by rw [List.length_take]; omega)
        have HSE : Hid (w.heap.size ≤ (w.alloc (.cells #[] 3)).heap.size) := hid HB0.out.size
        obtain ⟨T, hT⟩ : ∃ T, P.take i = T := ⟨_, rfl⟩
        rw [hT] at HM HTL HN
        have HDR : Hid (∀ W, Below w.heap.size w W → IntR W (some ((⟨b, off, sp⟩ : Addr).add i)) (P.drop i)) := hid (fun W h => ((by rw [HD0.out]; exact CelR.nil _ _ : IntR w (some ((⟨b, off, sp⟩ : Addr).add i)) (P.drop i))).below h)
        have HDL : Hid ((P.length - i) = (P.drop i).length) := hid (List.length_drop.symm)
        obtain ⟨D, hD⟩ : ∃ T, P.drop i = T := ⟨_, rfl⟩
        rw [hD] at HDR HDL HN
        clear hT hD
        go_wp2_with (at_builtin; go_must (refine app_int rfl (.tmp 34) (.tmp 37) rfl w.heap.size _ [] rfl HOE.out (some ⟨b, off, sp⟩) i c T HTL.out.symm rfl HM.out (fun e => by cases e) (by rw [HTL.out]; simp; omega) HSE.out ?_))
        intro A1 c1 w1 ho1 hg1
        have HO1 : Hid (OwnI w1 w.heap.size (.slice A1 i c1) T) := hid (by simpa using ho1)
        have HB1 : Hid (Below w.heap.size w w1) := hid (HOE.out.grown HB0.out HSE.out hg1)
        have HBx : Hid (Below w.heap.size w (w1.alloc (.cells #[.int .i64 x] 3))) := hid (HB1.out.alloc HB1.out.size _)
        have HOx : Hid (OwnI (w1.alloc (.cells #[.int .i64 x] 3)) w.heap.size (.slice A1 i c1) T) := hid (World.ownsRow.alloc HO1.out _)
        have HMx : Hid (IntR (w1.alloc (.cells #[.int .i64 x] 3)) (some ⟨w1.heap.size, 0, none⟩) [x]) := hid (one_int _ _)
        have HSx : Hid (w.heap.size ≤ (w1.alloc (.cells #[.int .i64 x] 3)).heap.size) := hid HBx.out.size
        clear ho1 hg1
        go_wp2_with (at_builtin; go_must (refine app_int rfl (.tmp 39) (.tmp 41) rfl w.heap.size _ T rfl HOx.out (some ⟨w1.heap.size, 0, none⟩) 1 1 [x] rfl rfl HMx.out (fun e => by cases e) (by rw [HTL.out]; simp; omega) HSx.out ?_))
        intro A2 c2 w2 ho2 hg2
        have HO2 : Hid (OwnI w2 w.heap.size (.slice A2 (T.length + 1) c2) (T ++ [x])) := hid ho2
        have HB2 : Hid (Below w.heap.size w w2) := hid (HOx.out.grown HBx.out HSx.out hg2)
        clear ho2 hg2
        have HMd := hid (HDR.out w2 HB2.out)
        go_wp2_with (at_builtin; go_must (refine app_int rfl (.tmp 43) (.tmp 46) rfl w.heap.size _ (T ++ [x]) rfl HO2.out (some ((⟨b, off, sp⟩ : Addr).add i)) (P.length - i) (c - i) D HDL.out rfl HMd.out (fun e => by cases e) (by rw [← HDL.out]; simp [HTL.out]; omega) HB2.out.size ?_))
        intro A3 c3 w3 ho3 hg3
        have HB3 : Hid (Below w.heap.size w w3) := hid (HO2.out.grown HB2.out HB2.out.size hg3)
        have hRR : T ++ x :: D = R := by have := HN.out; simpa using this
        rw [hRR] at ho3
        have HF3 := hid ho3.form
        clear ho3 hg3 hRR
        go_wp2_with fail
        go_ret
        exact ⟨_, rfl, HF3.out, HB3.out⟩
end Go.Proofs.Ythdllghpfniclaa
