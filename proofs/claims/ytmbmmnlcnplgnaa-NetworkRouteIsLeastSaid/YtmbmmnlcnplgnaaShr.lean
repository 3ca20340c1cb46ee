/-
  The walk of network.Shares: the kilometres of a route for each railway. Conditions: the lists lie in memory as they read; a route of at most a thousand places.
-/
import Derived.Test.YtmbmmnlcnplgnaaRte
import Derived.StillTailTactics
namespace Go.Proofs.Ytmbmmnlcnplgnaa
open Go.RowKit
theorem lines_len (E : List Edg) : ∀ L : List Int, (lines E L).length = L.length - 1
  | [] => rfl
  | [_] => rfl
  | p :: q :: l => by
    unfold lines
    rw [List.length_cons, lines_len E (q :: l)]; simp
theorem lines_get (E : List Edg) : ∀ (L : List Int) (i : Nat), i + 1 < L.length → (lines E L)[i]? = some (lin E (L.getD i 0) (L.getD (i + 1) 0))
  | [], i, h => by simp at h
  | [_], i, h => by simp at h
  | p :: q :: l, 0, _ => by unfold lines; rfl
  | p :: q :: l, i + 1, h => by
    unfold lines
    rw [List.getElem?_cons_succ, lines_get E (q :: l) i (by simpa using h)]
    simp
/-- The map of kilometres after some lines. -/
def kmG (E : List Edg) (M : List Int) (r : Int) : Option Int := if usd E M r = true then some (kmOf E M r) else none
theorem kmG_put (E : List Edg) (M : List Int) (i : Int) : (fun y => if y = (edgeAt E i).ry then some ((kmG E M (edgeAt E i).ry).getD 0 + (edgeAt E i).km) else kmG E M y) = kmG E (M ++ [i]) := by
  funext y
  unfold kmG
  rw [usd_append, kmOf_append]
  by_cases e : y = (edgeAt E i).ry
  · subst e
    have h1 : kmOf E [i] (edgeAt E i).ry = (edgeAt E i).km := by simp [kmOf]
    have h2 : usd E [i] (edgeAt E i).ry = true := by simp [usd]
    rw [if_pos rfl, h1, h2, Bool.or_true, if_pos rfl]
    by_cases h : usd E M (edgeAt E i).ry = true
    · rw [if_pos h]; rfl
    · rw [if_neg h, kmOf_unused (by simpa using h)]; rfl
  · rw [if_neg e]
    have h1 : usd E [i] y = false := by simp [usd]; exact fun h => e h.symm
    have h2 : kmOf E [i] y = 0 := kmOf_unused h1
    rw [h1, h2, Bool.or_false, Int.add_zero]
theorem kmOf_bd {E : List Edg} {n : Nat} (hE : Val E n) (M : List Int) (hM : ∀ i ∈ M, 0 ≤ i ∧ i < E.length) (r : Int) : 0 ≤ kmOf E M r ∧ kmOf E M r ≤ 10000 * (M.length : Int) := by
  induction M with
  | nil => simp [kmOf]
  | cons i M ih =>
    have h1 := ih (fun j hj => hM j (by simp [hj]))
    have h2 := hM i (by simp)
    have h3 := hE (edgeAt E i) (mem_getD (by omega))
    have h4 := h3.k0
    have h5 := h3.kn
    rw [show i :: M = [i] ++ M from rfl, kmOf_append]
    have h6 : kmOf E [i] r = if (edgeAt E i).ry = r then (edgeAt E i).km else 0 := by simp [kmOf]
    rw [h6]
    rw [List.length_append]
    simp
    split <;> omega
theorem info51 : (Try.prog.info? 51).map (fun i => (i.zero, i.size, i.bytes)) = some (some (.agg #[.int .i64 0, .int .i64 0]), 2, 16) := by kernel_rfl
def OwnH (w : World) (B : Nat) (v : Value) (X : List (Int × Int)) : Prop := w.ownsRow B 51 2 v X.length (shrC X)
theorem OwnH.form {w : World} {B : Nat} {v : Value} {L : List (Int × Int)} (h : OwnH w B v L) : ∃ A c, v = .slice A L.length c ∧ ShrR w A L := by
  rcases h.2 with ⟨h1, h2⟩ | ⟨g, c, cur, hv, hb, hg, hnc, hcm, hcs, htake⟩
  · have : L = [] := List.eq_nil_of_length_eq_zero h2
    subst this
    exact ⟨none, 0, h1, CelR.nil _ _⟩
  · subst hv
    refine ⟨_, c, rfl, fun _ => ⟨g, 0, rfl, (Array.getElem?_eq_some_iff.1 hg).1, fun j u hu => ?_⟩⟩
    have hj : j < L.length * 2 := by rw [← shrC_len]; exact (List.getElem?_eq_some_iff.1 hu).1
    rw [Nat.zero_add, World.ownsRow.cellAt h j hj]; exact hu
theorem push_shr {ops : Array Oper} {rest : List Oper} {o : Oper} {a : Act} {Q : Exit → Act → World → Prop} {w : World} (hgd : o.guard = none) (s x : Operand)
    (ho : o.op = .call { callee := .builtin .append, args := #[s, x], argTypes := #[35, 35] })
    (B : Nat) (v : Value) (X : List (Int × Int)) (hs : a.eval s = v) (hown : OwnH w B v X) (p : Nat) (y z : Int) (hx : a.eval x = .slice (some ⟨p, 0, none⟩) 1 1) (hp : Blk w p 51 #[.int .i64 y, .int .i64 z])
    (hlen : X.length ≤ 1000000) (hbase : B ≤ w.heap.size)
    (h : ∀ A' c' w', OwnH w' B (.slice A' (X.length + 1) c') (X ++ [(y, z)]) → w.grownBy w' v.ownBlock → wpList Try.prog ops Q rest (a.put o.dst (.slice A' (X.length + 1) c')) w') :
    wpList Try.prog ops Q (o :: rest) a w := by
  obtain ⟨i0, hi3, hz0, hz1, hz2⟩ := info_parts info51
  refine wpList_append_own_at w hgd s x _ ho B 51 i0 _ 2 16 Try.underlying35 hi3 hz0 hz1 hz2 rfl (by decide) v X.length (shrC X) hs hown ⟨p, 0, none⟩ 1 1 [.int .i64 y, .int .i64 z] hx rfl ?_
    (by intro u hu; simp at hu; rcases hu with rfl | rfl <;> rfl) (by unfold maxLen; omega) (by omega) hbase ?_
  · intro j u hu
    have e : ((⟨p, 0, none⟩ : Addr).add j) = ⟨p, j, none⟩ := by simp [Addr.add]; omega
    rw [e]
    refine hp.at j ?_
    simpa using hu
  · intro v' w' h1 h2 _ _
    have h3 : OwnH w' B v' (X ++ [(y, z)]) := by
      unfold OwnH
      rw [shrC_append, List.length_append]
      exact h1
    obtain ⟨A', c', rfl, _⟩ := h3.form
    rw [List.length_append] at h3 ⊢
    exact h A' c' w' h3 h2
/-- What Shares answers. -/
def ShsP (w : World) (P : List Plc) (E : List Edg) (L : List Int) (e : Ending) (w' : World) : Prop :=
  Below w.heap.size w w' ∧ ((bldE P E L ≠ 0 ∧ e = .returned (.tuple #[.slice none 0 0, .int .i64 (bldE P E L)])) ∨
    (bldE P E L = 0 ∧ (lines E L).any (fun i => decide (i < 0)) = true ∧ e = .returned (.tuple #[.slice none 0 0, .int .i64 80])) ∨
    (bldE P E L = 0 ∧ (lines E L).any (fun i => decide (i < 0)) = false ∧ ∃ (A : Option Addr) (c : Nat), e = .returned (.tuple #[.slice A (shrs E (lines E L) 16).length c, .int .i64 0]) ∧ ShrR w' A (shrs E (lines E L) 16)))
set_option maxHeartbeats 4000000 in
set_option maxRecDepth 100000 in
theorem Shares_any (P : List Plc) (E : List Edg) (L : List Int) (A1 A2 A3 : Option Addr) (c1 c2 c3 : Nat) (w : World) (h1 : PlcR w A1 P) (h2 : EdgR w A2 E) (h3 : IntR w A3 L) (hl : L.length ≤ 1000) :
    Calls Try.prog 19 #[netV A1 P.length c1 A2 E.length c2, .slice A3 L.length c3] w (ShsP w P E L) := by
  have H1 := hid h1
  have H2 := hid h2
  have H3 := hid h3
  clear h1 h2 h3
  have hB1 : Below w.heap.size w (w.alloc (.cells #[.slice A1 P.length c1, .slice A2 E.length c2] 25)) := (Below.refl _ _).alloc (Nat.le_refl _) _
  have hn1 : Blk (w.alloc (.cells #[.slice A1 P.length c1, .slice A2 E.length c2] 25)) w.heap.size 25 #[.slice A1 P.length c1, .slice A2 E.length c2] := Blk.new _ _ _
  have HB1 := hid hB1
  have HN1 := hid hn1
  have HBL := hid (build_any P E L A1 A2 A3 c1 c2 c3 _ (H1.out.below hB1) (H2.out.below hB1) (H3.out.below hB1) (by omega))
  clear hB1 hn1
  unfold netV at HBL ⊢
  go_enter Try.func19, Try.ntmps19
  go_wp2_with fail
  refine HBL.out.mono ?_
  rintro e w1 ⟨hb, hr⟩
  have HB := hid (HB1.out.trans (hb.mono HB1.out.size))
  have HN := hid (HN1.out.below hb HN1.out.lt)
  clear hb HB1 HN1 HBL
  rcases hr with ⟨hr, rfl⟩ | ⟨hr, gn, bm, rfl, hG⟩
  · have k0 : (bldE P E L != 0) = true := by simpa using hr
    have HP : Hid (∀ W, Below w.heap.size w W → ShsP w P E L (.returned (.tuple #[.slice none 0 0, .int .i64 (bldE P E L)])) W) := hid (fun W h => ⟨h, Or.inl ⟨hr, rfl⟩⟩)
    clear hr
    generalize bldE P E L = r at *
    go_wp2_with fail
    go_ret2
    exact HP.out _ (HB.out.alloc HB.out.size _)
  · obtain ⟨hc, hL⟩ := bldE_ok hr
    obtain ⟨hP5, hE5, hV⟩ := chkE_ok hc
    have HLV := hid hL
    have HR := hid hr
    have HVAL := hid hV
    have hB2 : Below w1.heap.size w1 (w1.alloc (.cells #[.slice (some ⟨gn, 0, none⟩) P.length P.length, .map (some bm)] 61)) := (Below.refl _ _).alloc (Nat.le_refl _) _
    have HG2 := hid hG
    have HGB := hid (Blk.new w1 61 #[.slice (some ⟨gn, 0, none⟩) P.length P.length, .map (some bm)])
    have HB2 := hid (HB.out.trans (hB2.mono HB.out.size))
    have HNB := hid (HN.out.below hB2 HN.out.lt)
    unfold gV
    have hmm := @run_makeMap Try.prog
    clear hr hc hL hV hG hB2 HN
    obtain ⟨LN, hLN⟩ : ∃ M, lines E L = M := ⟨_, rfl⟩
    have HLN := hid hLN
    clear hLN
    go_wp2_with fail
    have hmap0 : MapG 3 mk1 ((w1.alloc (.cells #[.slice (some ⟨gn, 0, none⟩) P.length P.length, .map (some bm)] 61)).alloc (.map #[] 0)) (w1.heap.size + 1) 0 (kmG E []) := by
      have := MapG.made (w1.alloc (.cells #[.slice (some ⟨gn, 0, none⟩) P.length P.length, .map (some bm)] 61)) 3 mk1
      rw [show kmG E [] = fun _ => none by funext r; simp [kmG, usd]]
      simpa using this
    have hB3 : Below w.heap.size w ((w1.alloc (.cells #[.slice (some ⟨gn, 0, none⟩) P.length P.length, .map (some bm)] 61)).alloc (.map #[] 0)) := HB2.out.alloc HB2.out.size _
    have hg3 := HGB.out.alloc (.map #[] 0)
    have hn3 := HNB.out.alloc (.map #[] 0)
    have hB4 : Below w1.heap.size w1 ((w1.alloc (.cells #[.slice (some ⟨gn, 0, none⟩) P.length P.length, .map (some bm)] 61)).alloc (.map #[] 0)) := ((Below.refl _ _).alloc (Nat.le_refl _) _).alloc (by simp) _
    have hsz3 : w1.heap.size + 2 ≤ ((w1.alloc (.cells #[.slice (some ⟨gn, 0, none⟩) P.length P.length, .map (some bm)] 61)).alloc (.map #[] 0)).heap.size := by simp
    obtain ⟨W3, hW3⟩ : ∃ W3, (w1.alloc (.cells #[.slice (some ⟨gn, 0, none⟩) P.length P.length, .map (some bm)] 61)).alloc (.map #[] 0) = W3 := ⟨_, rfl⟩
    rw [hW3] at hmap0 hB3 hg3 hn3 hB4 hsz3 ⊢
    have HB3 := hid hB3
    have HG3 := hid hg3
    have HN3 := hid hn3
    have HB4 := hid hB4
    have HSZ := hid hsz3
    have HLL := hid (lines_len E L)
    rw [HLN.out] at HLL
    have HM0 : Hid (MapG 3 mk1 W3 (w1.heap.size + 1) 0 (kmG E (LN.take 0)) ∧ Below (w1.heap.size + 1) W3 W3 ∧ ∀ x ∈ LN.take 0, 0 ≤ x) := hid ⟨hmap0, Below.refl _ _, by simp⟩
    clear hW3 hmap0 hB3 hg3 hn3 hB4 hsz3 HGB HNB HB2 hmm
    go_loopw [4, 8] (fun s4 s8 wr => ∃ k i : Nat, Hid (i = k + 1) ∧ k < i ∧ k ≤ LN.length ∧ s8 = .int .i64 i ∧ s4 = .slice none 0 0 ∧ Hid (MapG 3 mk1 wr (w1.heap.size + 1) k (kmG E (LN.take k)) ∧ Below (w1.heap.size + 1) W3 wr ∧ ∀ x ∈ LN.take k, 0 ≤ x)) (fun _ s8 _ => L.length + 1 - (intOf s8).toNat)
    case atStart => exact ⟨0, 1, hid rfl, by omega, Nat.zero_le _, rfl, rfl, HM0⟩
    case round =>
      clear HM0
      obtain ⟨k, i, HKI, hki, hk, rfl, rfl, HI⟩ := hrel
      by_cases hlt : i < L.length
      · have hkL : k < LN.length := by have := HLL.out; have := HKI.out; omega
        have hbel : Below w.heap.size w wr := HB3.out.trans (HI.out.2.1.mono (by have := HB.out.size; omega))
        obtain ⟨b, off, hA, hb, hcc⟩ := (H3.out.below hbel).at (by omega)
        have l0 := hcc k (by omega)
        have l1 := hcc i hlt
        have hlk : LN[k]? = some (lin E (L.getD k 0) (L.getD i 0)) := by
          have := lines_get E L k (by have := HKI.out; omega)
          rw [HLN.out] at this
          rw [this, HKI.out]
        have hmm : ∀ j, j < L.length → 0 ≤ L.getD j 0 ∧ L.getD j 0 < P.length := fun j hj => HLV.out _ (by rw [List.getD_eq_getElem?_getD, List.getElem?_eq_getElem hj]; exact List.getElem_mem hj)
        have hx0 := hmm k (by omega)
        have hy0 := hmm i hlt
        have hbel1 : Below w1.heap.size w1 wr := HB4.out.trans (HI.out.2.1.mono (by omega))
        have hlook : ∀ m, (Instr.lookup 59 (.map (some bm)) (.agg #[.int .i64 (L.getD k 0), .int .i64 (L.getD i 0)]) true).run Try.prog (wr.drewN m) = .ok (.tuple #[.int .i64 ((opt (lin E) (L.getD k 0, L.getD i 0)).getD 0), .bool (opt (lin E) (L.getD k 0, L.getD i 0)).isSome]) (wr.drewN m) := fun m =>
          ((HG2.out.map.keep hbel1).drewN m).look_ok keyed65 Try.underlying59 (L.getD k 0, L.getD i 0) (key2 ⟨by omega, by omega⟩ ⟨by omega, by omega⟩)
        have hw : IntKind.i64.wrap ((i : Int) - 1) = (k : Int) := by rw [IntWalk.i64_in _ (by omega), HKI.out]; omega
        have z0 := (HG3.out.below HI.out.2.1 (by omega)).at 1 rfl
        have z1 := (HN3.out.below HI.out.2.1 (by have := HB.out.size; have := HN3.out.lt; omega)).at 1 rfl
        subst hA
        clear hcc hmm
        generalize L.getD k 0 = x at *
        generalize L.getD i 0 = y at *
        rcases (by omega : lin E x y < 0 ∨ 0 ≤ lin E x y) with h0 | h0
        · have HP : Hid (∀ W, Below w.heap.size w W → ShsP w P E L (.returned (.tuple #[.slice none 0 0, .int .i64 80])) W) := hid (fun W h => ⟨h, Or.inr (Or.inl ⟨HR.out, by rw [HLN.out, List.any_eq_true]; exact ⟨_, List.mem_of_getElem? hlk, by simpa using h0⟩, rfl⟩)⟩)
          have HBE := hid hbel
          simp only [opt_no h0, Option.getD_none, Option.isSome_none] at hlook
          clear h0 hlk hbel hbel1
          go_wp2_with fail
          go_big_quiet (fail)
          clear hw hlook
          go_wp2_with fail
          go_ret2
          exact HP.out _ (below_drewN HBE.out _)
        · simp only [opt_yes h0, Option.getD_some, Option.isSome_some] at hlook
          obtain ⟨j, hj⟩ : ∃ j : Nat, lin E x y = j := ⟨(lin E x y).toNat, by omega⟩
          have hjE : j < E.length := by have := (lin_lt E x y).2; omega
          rw [hj] at hlook hlk
          obtain ⟨eb, eo, hA2, heb, hec⟩ := (H2.out.below hbel).at (by omega)
          obtain ⟨-, -, m2, -, m4⟩ := hec j _ (List.getElem?_eq_getElem hjE)
          have hed : edgeAt E j = E[j] := by unfold edgeAt; rw [Int.toNat_natCast, List.getD_eq_getElem?_getD, List.getElem?_eq_getElem hjE]; rfl
          have hok := HVAL.out _ (List.getElem_mem hjE)
          have htk : LN.take (k + 1) = LN.take k ++ [(j : Int)] := by rw [List.take_add_one, hlk]; rfl
          have hput := kmG_put E (LN.take k) j
          rw [← htk, hed] at hput
          have hbd := kmOf_bd HVAL.out (LN.take k) (fun z hz => by
            have h1 := HI.out.2.2 z hz
            refine ⟨h1, ?_⟩
            obtain ⟨q, hq⟩ := List.getElem?_of_mem (List.mem_of_mem_take hz)
            have hqL : q < LN.length := (List.getElem?_eq_some_iff.1 hq).1
            have := lines_get E L q (by have := HLL.out; omega)
            rw [HLN.out, hq] at this
            injection this with this
            rw [this]; exact (lin_lt _ _ _).2) E[j].ry
          have hvb : 0 ≤ (kmG E (LN.take k) E[j].ry).getD 0 ∧ (kmG E (LN.take k) E[j].ry).getD 0 ≤ 10000000 := by
            have hlen : ((LN.take k).length : Int) ≤ 1000 := by rw [List.length_take]; omega
            unfold kmG
            split
            · show 0 ≤ kmOf _ _ _ ∧ kmOf _ _ _ ≤ _; omega
            · show (0 : Int) ≤ 0 ∧ (0 : Int) ≤ _; omega
          have hry : I64 E[j].ry := ⟨by have := hok.r0; omega, by have := hok.rn; omega⟩
          have hkm0 := hok.k0
          have hkmn := hok.kn
          have HMP := HI.out.1
          have HMM : Hid (∀ m, MapG 3 mk1 (wr.drewN m) (w1.heap.size + 1) k (kmG E (LN.take k))) := hid (fun m => HMP.drewN m)
          have hlk2 : ∀ m, (Instr.lookup 66 (.map (some (w1.heap.size + 1))) (.int .i64 E[j].ry) false).run Try.prog (wr.drewN m) = .ok (.int .i64 ((kmG E (LN.take k) E[j].ry).getD 0)) (wr.drewN m) := fun m => (HMP.drewN m).look keyed3 Try.underlying66 E[j].ry (key1 hry)
          have HRY := hid hry
          have HPUT := hid hput
          have HBE := hid hbel
          have HBM := hid HI.out.2.1
          have HNN : Hid (∀ z ∈ LN.take (k + 1), 0 ≤ z) := hid (by
            rw [htk]
            intro z hz
            rcases List.mem_append.1 hz with h | h
            · exact HI.out.2.2 z h
            · rw [List.mem_singleton] at h; omega)
          subst hA2
          clear h0 hlk hbel hbel1 hj hec hed hok htk hput hbd HMP hry HI
          generalize hgv : (kmG E (LN.take k) E[j].ry).getD 0 = v at *
          clear hgv
          generalize E[j].ry = er at *
          generalize E[j].km = ek at *
          generalize E[j].mn = em at *
          go_wp2_with fail
          go_big_quiet (fail)
          clear hw hlook
          go_wp2_with fail
          obtain ⟨w5, hw5⟩ : ∃ w5, wr.drewN nq = w5 := ⟨_, rfl⟩
          have y1 : w5.cell? ⟨w.heap.size, 1, none⟩ = some (.slice (some ⟨eb, eo, none⟩) E.length c2) := by rw [← hw5]; exact z1
          have y2 : w5.cell? ⟨eb, eo + j * 5 + 2, none⟩ = some (.int .i64 er) := by rw [← hw5]; exact m2
          have y4 : w5.cell? ⟨eb, eo + j * 5 + 4, none⟩ = some (.int .i64 ek) := by rw [← hw5]; exact m4
          have hlk5 : (Instr.lookup 66 (.map (some (w1.heap.size + 1))) (.int .i64 er) false).run Try.prog w5.drew = .ok (.int .i64 v) w5.drew := by rw [← hw5]; exact hlk2 (nq + 1)
          have HM5 : Hid (MapG 3 mk1 w5.drew (w1.heap.size + 1) k (kmG E (LN.take k))) := hid (by rw [← hw5]; exact HMM.out (nq + 1))
          have HB5 : Hid (Below (w1.heap.size + 1) W3 w5.drew) := hid (by rw [← hw5]; exact below_drewN HBM.out (nq + 1))
          rw [hw5]
          clear hw5 z1 m2 m4 hlk2 HMM HBM l0 l1 z0
          have HVE : Hid (I64 (v + ek)) := hid ⟨by omega, by omega⟩
          have hw2 : IntKind.i64.wrap (v + ek) = v + ek := IntWalk.i64_in _ (by omega)
          go_still_tail 15, (by kernel_rfl)
          refine wp_put rfl (.tmp 48) (.tmp 54) (.tmp 62) 66 rfl HM5.out (fun _ _ => mk1_inj) keyed3 Try.underlying66 (by omega) rfl er rfl (key1 HRY.out) (v + ek) rfl HVE.out ?_
          intro w6 hm6 hg6
          have HN6 : Hid (MapG 3 mk1 w6 (w1.heap.size + 1) (k + 1) (kmG E (LN.take (k + 1))) ∧ Below (w1.heap.size + 1) W3 w6 ∧ ∀ x ∈ LN.take (k + 1), 0 ≤ x) := hid ⟨by rw [← HPUT.out]; exact hm6, HB5.out.grown hg6 (by have := HB5.out.size; have := HSZ.out; omega) (fun z e => by injection e with e; omega), HNN.out⟩
          clear hm6 hg6 hlk5 y1 y2 y4 hw2
          go_wp2_with fail
          go_roundw
          case rel => exact ⟨k + 1, i + 1, hid (by rw [HKI.out]), by omega, by omega, by go_num, rfl, HN6⟩
          case measure => simp [intOf]; omega
      · have hkl : k = LN.length := by have := HLL.out; have := HKI.out; omega
        have hm := HI.out.1
        have hnn := HI.out.2.2
        rw [hkl, List.take_length] at hm hnn
        have HMP := hid (hm.mono (show LN.length ≤ 1000 by have := HLL.out; omega))
        have HBE : Hid (Below w.heap.size w wr) := hid (HB3.out.trans (HI.out.2.1.mono (by have := HB.out.size; omega)))
        have HAN : Hid (LN.any (fun i => decide (i < 0)) = false) := hid (by rw [List.any_eq_false]; intro x hx; have := hnn x hx; simp; omega)
        have HSZ2 : Hid (w1.heap.size + 2 ≤ wr.heap.size) := hid (Nat.le_trans HSZ.out HI.out.2.1.size)
        clear hm hnn HI hk hkl HKI
        go_wp2_with fail
        obtain ⟨wo, rfl⟩ : ∃ wo : World, wo = wr := ⟨_, rfl⟩
        go_loopw [4, 63] (fun s4 s63 wv => ∃ (r : Nat) (A : Option Addr) (c : Nat), r ≤ 16 ∧ s63 = .int .i64 r ∧ s4 = .slice A (shrs E LN r).length c ∧ Hid (OwnH wv wo.heap.size (.slice A (shrs E LN r).length c) (shrs E LN r) ∧ Below wo.heap.size wo wv)) (fun _ s63 _ => 16 - (intOf s63).toNat)
        case atStart => exact ⟨0, none, 0, by omega, rfl, rfl, hid ⟨World.ownsRow_nil _ _ _ _, Below.refl _ _⟩⟩
        case round =>
          obtain ⟨r, A, c, hr, rfl, rfl, HO⟩ := hrel
          have hsl := shrs_len E LN r
          by_cases hr16 : r < 16
          · have hlk : (Instr.lookup 66 (.map (some (w1.heap.size + 1))) (.int .i64 r) true).run Try.prog wr = .ok (.tuple #[.int .i64 ((kmG E LN (r : Int)).getD 0), .bool (kmG E LN (r : Int)).isSome]) wr := (HMP.out.keep HO.out.2).look_ok keyed3 Try.underlying66 (r : Int) (key1 ⟨by omega, by omega⟩)
            have HSU := hid (shrs_succ E LN r)
            cases hu : usd E LN (r : Int) with
            | false =>
              have hk0 : kmG E LN (r : Int) = none := by unfold kmG; rw [hu]; rfl
              rw [hk0] at hlk
              simp only [Option.getD_none, Option.isSome_none] at hlk
              have HN : Hid (shrs E LN (r + 1) = shrs E LN r) := hid (by rw [HSU.out, hu]; simp)
              clear hk0 hu
              go_wp2_with fail
              go_roundw
              case rel => exact ⟨r + 1, A, c, by omega, by go_num, by rw [HN.out], by rw [HN.out]; exact HO⟩
              case measure => simp [intOf]; omega
            | true =>
              have hk0 : kmG E LN (r : Int) = some (kmOf E LN (r : Int)) := by unfold kmG; rw [hu]; rfl
              rw [hk0] at hlk
              simp only [Option.getD_some, Option.isSome_some] at hlk
              have HN : Hid (shrs E LN (r + 1) = shrs E LN r ++ [((r : Int), kmOf E LN (r : Int))]) := hid (by rw [HSU.out, hu]; simp)
              clear hk0 hu HSU
              generalize kmOf E LN (r : Int) = v at *
              obtain ⟨Z, hZ⟩ : ∃ Z, shrs E LN r = Z := ⟨_, rfl⟩
              rw [hZ] at HO HN hsl ⊢
              have HOW : Hid (OwnH (wr.alloc (.cells #[.int .i64 r, .int .i64 v] 51)) wo.heap.size (.slice A Z.length c) Z) := hid (own_below HO.out.1 ((Below.refl _ _).alloc (Nat.le_refl _) _))
              have HBO : Hid (Below wo.heap.size wo (wr.alloc (.cells #[.int .i64 r, .int .i64 v] 51))) := hid (HO.out.2.alloc HO.out.2.size _)
              clear hZ
              go_wp2_with (at_builtin; go_must (refine push_shr rfl (.tmp 73) (.tmp 77) rfl wo.heap.size _ _ rfl HOW.out wr.heap.size (r : Int) v rfl (Blk.new _ _ _) (by omega) HBO.out.size ?_))
              intro A' c' w5 ho hg
              have HN5 : Hid (OwnH w5 wo.heap.size (.slice A' (Z.length + 1) c') (Z ++ [((r : Int), v)]) ∧ Below wo.heap.size wo w5) := hid ⟨ho, HBO.out.grown hg HBO.out.size (fun z e => (HOW.out.lt z e).1)⟩
              clear ho hg
              go_wp2_with fail
              go_roundw
              case rel => exact ⟨r + 1, A', c', by omega, by go_num, by rw [HN.out]; simp, by rw [HN.out]; simpa using HN5⟩
              case measure => simp [intOf]; omega
          · have : r = 16 := by omega
            subst this
            have HF : Hid (ShsP w P E L (.returned (.tuple #[.slice A (shrs E LN 16).length c, .int .i64 0])) wr) := hid ⟨HBE.out.trans (HO.out.2.mono HBE.out.size), Or.inr (Or.inr ⟨HR.out, by rw [HLN.out]; exact HAN.out, A, c, by rw [HLN.out], by
              rw [HLN.out]
              obtain ⟨A', c', e, hh⟩ := OwnH.form HO.out.1
              injection e with e1 _ e2
              subst e1
              exact hh⟩)⟩
            clear hsl
            generalize (shrs E LN 16).length = zl at *
            go_wp2_with fail
            go_ret2
            exact HF.out
end Go.Proofs.Ytmbmmnlcnplgnaa
