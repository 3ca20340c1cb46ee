/-
  The walks of yard.room and wagonpoolref35.room: whether no track overflows. Conditions: the cars' lengths are valid, the tracks lie from 0 to 15, the lists lie in memory as they read.
-/
import Derived.Test.YthfoggbaoafpjaaRbw
import Derived.Test.YthfoggbaoafpjaaShelf
namespace Go.Proofs.Ythfoggbaoafpjaa
open Go.RowKit
/-- The length on track t of the first k cars. -/
def sumOn (L : List Car) (T : List Int) : Nat → Nat → Int
  | 0, _ => 0
  | k + 1, t => sumOn L T k t + if T.getD k 0 = (t : Int) then (L.getD k default).ln else 0
def LnV (L : List Car) : Prop := ∀ i, i < L.length → 0 ≤ (L.getD i default).ln ∧ (L.getD i default).ln ≤ 1000000
theorem sumOn_bd {L : List Car} {T : List Int} (h : LnV L) (t : Nat) : ∀ k, k ≤ L.length → 0 ≤ sumOn L T k t ∧ sumOn L T k t ≤ 1000000 * (k : Int)
  | 0, _ => by simp [sumOn]
  | k + 1, hk => by
    have ih := sumOn_bd h (T := T) t k (by omega)
    have h1 := h k (by omega)
    unfold sumOn
    split <;> omega
theorem sumOn_mono {L : List Car} {T : List Int} (h : LnV L) (t : Nat) {k : Nat} : ∀ {m : Nat}, k ≤ m → m ≤ L.length → sumOn L T k t ≤ sumOn L T m t
  | 0, hk, _ => by have : k = 0 := by omega
                   subst this; exact Int.le_refl _
  | m + 1, hk, hm => by
    by_cases e : k = m + 1
    · subst e; exact Int.le_refl _
    · have ih := sumOn_mono h (T := T) t (k := k) (m := m) (by omega) (by omega)
      have h1 := h m (by omega)
      show _ ≤ sumOn L T m t + _
      split <;> omega
def roomB (tl : Int) (L : List Car) (T : List Int) : Bool := (List.range 16).all fun t => decide (sumOn L T L.length t ≤ tl)
theorem roomB_iff {tl : Int} {L : List Car} {T : List Int} : roomB tl L T = true ↔ ∀ t, t < 16 → sumOn L T L.length t ≤ tl := by
  unfold roomB
  rw [List.all_eq_true]
  constructor
  · intro h t ht; simpa using h t (List.mem_range.2 ht)
  · intro h t ht; simpa using h t (List.mem_range.1 ht)
/-- A block of n numbers. -/
def ArrF (w : World) (g : Nat) (e : TypeId) (n : Nat) (f : Nat → Int) : Prop := Blk w g e ((List.range n).map fun i => Value.int .i64 (f i)).toArray
section
variable {w w' : World} {g n : Nat} {e : TypeId} {f : Nat → Int}
theorem ArrF.lt (h : ArrF w g e n f) : g < w.heap.size := Blk.lt h
theorem ArrF.at (h : ArrF w g e n f) {i : Nat} (hi : i < n) : w.cell? ⟨g, i, none⟩ = some (.int .i64 (f i)) :=
  Blk.at h i (by rw [List.getElem?_toArray, List.getElem?_map, List.getElem?_range hi]; rfl)
theorem ArrF.frozen (h : ArrF w g e n f) (i : Nat) : w.frozen? ⟨g, i, none⟩ = false := Blk.frozen h i
theorem ArrF.drew (h : ArrF w g e n f) : ArrF w.drew g e n f := h
theorem ArrF.drewN (h : ArrF w g e n f) (k : Nat) : ArrF (w.drewN k) g e n f := h
theorem ArrF.congr {f' : Nat → Int} (h : ArrF w g e n f) (he : ∀ i, i < n → f i = f' i) : ArrF w g e n f' := by
  unfold ArrF at h ⊢
  have : (List.range n).map (fun i => Value.int .i64 (f i)) = (List.range n).map (fun i => Value.int .i64 (f' i)) := List.map_congr_left (fun i hi => by rw [he i (by simpa using hi)])
  rwa [this] at h
theorem ArrF.set (h : ArrF w g e n f) (i : Nat) (x : Int) : ArrF (w.setCell ⟨g, i, none⟩ (.int .i64 x)) g e n (upd f i x) := by
  have h1 := Blk.set_ h i (.int .i64 x)
  unfold ArrF
  have : ((List.range n).map fun i => Value.int .i64 (f i)).toArray.setIfInBounds i (.int .i64 x) = ((List.range n).map fun p => Value.int .i64 (upd f i x p)).toArray := by
    rw [List.setIfInBounds_toArray]
    congr 1
    apply List.ext_getElem
    · simp
    · intro j h1 h2
      rw [List.getElem_set]
      simp only [List.getElem_map, List.getElem_range]
      unfold upd
      by_cases e : i = j
      · subst e; simp
      · rw [if_neg e, if_neg (fun e2 => e e2.symm)]
  rwa [this] at h1
theorem ArrF.keep (h : ArrF w g e n f) (hb : Below w.heap.size w w') : ArrF w' g e n f := Blk.below h hb h.lt
end
theorem maxOf_le {zs : List Int} {t : Int} : ∀ k, 0 < k → k ≤ zs.length → (Lib.maxOf (zs.take k) ≤ t ↔ ∀ j, j < k → zs.getD j 0 ≤ t)
  | 0, h, _ => by omega
  | 1, _, hk => by
    rw [Lib.maxOf_one]
    exact ⟨fun h j hj => by have : j = 0 := by omega
                            subst this; exact h, fun h => h 0 (by omega)⟩
  | k + 2, _, hk => by
    rw [Lib.maxOf_step zs (k + 1) (by omega) (by omega)]
    have ih := maxOf_le (zs := zs) (t := t) (k + 1) (by omega) (by omega)
    constructor
    · intro h j hj
      by_cases e : j = k + 1
      · subst e; omega
      · exact ih.1 (by omega) j (by omega)
    · intro h
      have h1 := ih.2 (fun j hj => h j (by omega))
      have h2 := h (k + 1) (by omega)
      omega

set_option maxHeartbeats 8000000 in
set_option maxRecDepth 100000 in
theorem room_any (r : Rls) (L : List Car) (T : List Int) (A1 A2 : Option Addr) (c1 c2 : Nat) (w : World) (h1 : CarR w A1 L) (h2 : IntR w A2 T) (hl : L.length ≤ 256) (hlen : T.length = L.length) (hv : LnV L) (ht : ∀ i, i < L.length → ∃ t : Nat, T.getD i 0 = t ∧ t < 16) : Calls Try.prog 39 #[rlsV r, .slice A1 L.length c1, .slice A2 T.length c2] w fun e w' => e = .returned (.bool (roomB r.tl L T)) ∧ Below w.heap.size w w' := by
  have HC := hid h1
  have HT := hid h2
  have HV := hid hv
  have HIX : Hid (∀ i, i < L.length → ∃ t : Nat, T.getD i 0 = t ∧ t < 16) := hid ht
  have HLEN := hid hlen
  clear h1 h2 hv ht hlen
  obtain ⟨tr, tl, nl, nw, ga, bp, gp⟩ := r
  simp only
  have hal : Below w.heap.size w ((w.alloc (.cells #[.int .i64 tr, .int .i64 tl, .int .i64 nl, .int .i64 nw, .int .i64 ga, .int .i64 bp, .int .i64 gp] 23)).alloc (.cells #[.int .i64 0, .int .i64 0, .int .i64 0, .int .i64 0, .int .i64 0, .int .i64 0, .int .i64 0, .int .i64 0, .int .i64 0, .int .i64 0, .int .i64 0, .int .i64 0, .int .i64 0, .int .i64 0, .int .i64 0, .int .i64 0] 76)) := (((Below.refl _ _).alloc (Nat.le_refl _) _).alloc (by simp) _)
  have hrb : Blk ((w.alloc (.cells #[.int .i64 tr, .int .i64 tl, .int .i64 nl, .int .i64 nw, .int .i64 ga, .int .i64 bp, .int .i64 gp] 23)).alloc (.cells #[.int .i64 0, .int .i64 0, .int .i64 0, .int .i64 0, .int .i64 0, .int .i64 0, .int .i64 0, .int .i64 0, .int .i64 0, .int .i64 0, .int .i64 0, .int .i64 0, .int .i64 0, .int .i64 0, .int .i64 0, .int .i64 0] 76)) w.heap.size 23 #[.int .i64 tr, .int .i64 tl, .int .i64 nl, .int .i64 nw, .int .i64 ga, .int .i64 bp, .int .i64 gp] := (Blk.new _ _ _).alloc _
  have haf : ArrF ((w.alloc (.cells #[.int .i64 tr, .int .i64 tl, .int .i64 nl, .int .i64 nw, .int .i64 ga, .int .i64 bp, .int .i64 gp] 23)).alloc (.cells #[.int .i64 0, .int .i64 0, .int .i64 0, .int .i64 0, .int .i64 0, .int .i64 0, .int .i64 0, .int .i64 0, .int .i64 0, .int .i64 0, .int .i64 0, .int .i64 0, .int .i64 0, .int .i64 0, .int .i64 0, .int .i64 0] 76)) (w.heap.size + 1) 76 16 (sumOn L T 0) := Blk.of_size _ (by simp) _ _
  have HAL := hid hal
  have HRB := hid hrb
  have HAF := hid haf
  clear hal hrb haf
  obtain ⟨RB, hRB⟩ : ∃ b, roomB tl L T = b := ⟨_, rfl⟩
  have HROOM := hid hRB
  rw [hRB]
  clear hRB
  unfold rlsV rlsA
  go_enter Try.func39, Try.ntmps39
  go_upto_region 2 with fail
  obtain ⟨gl, hgl⟩ : ∃ g, w.heap.size + 1 = g := ⟨_, rfl⟩
  obtain ⟨w1, hw1⟩ : ∃ W, ((w.alloc (.cells #[.int .i64 tr, .int .i64 tl, .int .i64 nl, .int .i64 nw, .int .i64 ga, .int .i64 bp, .int .i64 gp] 23)).alloc (.cells #[.int .i64 0, .int .i64 0, .int .i64 0, .int .i64 0, .int .i64 0, .int .i64 0, .int .i64 0, .int .i64 0, .int .i64 0, .int .i64 0, .int .i64 0, .int .i64 0, .int .i64 0, .int .i64 0, .int .i64 0, .int .i64 0] 76)) = W := ⟨_, rfl⟩
  have HGL := hid hgl
  rw [hw1] at HAL HRB HAF ⊢
  rw [hgl] at HAF ⊢
  clear hw1 hgl
  have hgl2 : w.heap.size < gl := by have := HGL.out; omega
  go_wp2_with fail
  go_loopw [12] (fun s12 wr => ∃ i : Nat, i ≤ L.length ∧ s12 = .int .i64 i ∧ Hid (ArrF wr gl 76 16 (sumOn L T i) ∧ Exc (fun k => k = gl) w1 wr)) (fun s12 _ => L.length - (intOf s12).toNat)
  case atStart => exact ⟨0, Nat.zero_le _, rfl, hid ⟨HAF.out, Exc.refl _ _⟩⟩
  case round =>
    obtain ⟨i, hi, rfl, HH⟩ := hrel
    have HBW : Hid (Below w.heap.size w wr) := hid (HAL.out.trans (HH.out.2.belowB HAL.out.size (fun k hk e => by omega)))
    by_cases hlt : i < L.length
    · obtain ⟨b1, o1, hA1, hb1, hc1⟩ := HC.out.at (by omega)
      obtain ⟨t, htt, ht16⟩ := HIX.out i hlt
      obtain ⟨b2, o2, hA2, hb2, hc2⟩ := HT.out.at (by have := HLEN.out; omega)
      have hx := hc1 i _ (getD_at hlt)
      have hcx : ∀ o, wr.cell? ⟨b1, o, none⟩ = w.cell? ⟨b1, o, none⟩ := fun o => HBW.out.cell (p := ⟨b1, o, none⟩) hb1
      obtain ⟨l0, l1, l2, l3, l4, l5, l6⟩ := hx.of hcx
      have m0 := (HBW.out.cell (p := ⟨b2, o2 + i, none⟩) hb2).trans (hc2 i (by have := HLEN.out; omega))
      rw [htt] at m0
      have hv1 := HV.out i hlt
      have hsb := sumOn_bd HV.out (T := T) t i hi
      obtain ⟨cc, hcc⟩ : ∃ cc, L.getD i default = cc := ⟨_, rfl⟩
      have HCC := hid hcc
      have HTT := hid htt
      rw [hcc] at l0 l1 l2 l3 l4 l5 l6 hv1
      obtain ⟨id, bl, ln, wt, ga', br, da⟩ := cc
      simp only at l0 l1 l2 l3 l4 l5 l6 hv1
      obtain ⟨S, hS⟩ : ∃ S, sumOn L T i t = S := ⟨_, rfl⟩
      have HS := hid hS
      rw [hS] at hsb
      subst hA1 hA2
      have bi : (i : Int) < L.length := by omega
      have bi2 : (i : Int) < T.length := by have := HLEN.out; omega
      have bt0 : (0 : Int) ≤ (t : Int) := by omega
      have bt1 : (t : Int) < 16 := by omega
      have hws : IntKind.i64.wrap (S + ln) = S + ln := IntWalk.i64_in _ (by omega)
      have hbl : Below wr.heap.size wr (wr.alloc (.cells #[.int .i64 id, .int .i64 bl, .int .i64 ln, .int .i64 wt, .int .i64 ga', .int .i64 br, .int .i64 da] 33)) := (Below.refl _ _).alloc (Nat.le_refl _) _
      have HX := hid (Blk.new wr 33 #[.int .i64 id, .int .i64 bl, .int .i64 ln, .int .i64 wt, .int .i64 ga', .int .i64 br, .int .i64 da])
      have HAFx := hid (HH.out.1.keep hbl)
      have HEX : Hid (Exc (fun k => k = gl) w1 (wr.alloc (.cells #[.int .i64 id, .int .i64 bl, .int .i64 ln, .int .i64 wt, .int .i64 ga', .int .i64 br, .int .i64 da] 33))) := hid (HH.out.2.trans (Exc.of_below hbl))
      have M0 := hid ((hbl.cell (p := ⟨b2, o2 + i, none⟩) (Nat.lt_of_lt_of_le hb2 HBW.out.size)).trans m0)
      clear hc1 hc2 htt hcc hS hx hcx hb1 hb2
      go_upto_region 5 with fail
      obtain ⟨gx, hgx⟩ : ∃ g, wr.heap.size = g := ⟨_, rfl⟩
      obtain ⟨Wx, hWx⟩ : ∃ W, wr.alloc (.cells #[.int .i64 id, .int .i64 bl, .int .i64 ln, .int .i64 wt, .int .i64 ga', .int .i64 br, .int .i64 da] 33) = W := ⟨_, rfl⟩
      rw [hWx] at HX HAFx HEX M0 ⊢
      rw [hgx] at HX ⊢
      clear hWx hgx hbl l0 l1 l2 l3 l4 l5 l6 m0
      have x2 := HX.out.at 2 rfl
      have m0 := M0.out
      have a0 := HAFx.out.at (i := t) ht16
      have f0 := HAFx.out.frozen t
      rw [HS.out] at a0
      refine region_last 10 [17, 18, 19, 20, 21, 22, 23, 24, 25, 26] (fun jx vx _ => vx = ([.slice (some ⟨b2, o2, none⟩) T.length c2, .int .i64 (i : Nat), .pointer (some ⟨b2, o2 + i, none⟩), .int .i64 (t : Nat), .pointer (some ⟨gl, t, none⟩), .int .i64 S, .pointer (some ⟨gx, 2, none⟩), .int .i64 ln, .int .i64 (S + ln), .pointer (some ⟨gl, t, none⟩)] : List Value).getD jx undef) (fun _ a b => a = b) (fun a b => a.drew = b) 0 (fun _ => True) rfl (by kernel_rfl) rfl (by kernel_rfl) rfl (by decide) (by simp) rfl trivial (fun _ _ _ _ _ _ => trivial) (fun _ _ _ _ h k => h.trans k) (fun _ _ _ _ _ _ h _ => h) ?_ ?_
      · intro io oo ac wz hio hj hbase hT _ hdep K hK
        subst hT
        have e2 : ac.tmps.getD 2 undef = .slice (some ⟨b2, o2, none⟩) T.length c2 := hbase 2 (by decide)
        have e7 : ac.tmps.getD 7 undef = .pointer (some ⟨gl, 0, none⟩) := hbase 7 (by decide)
        have e8 : ac.tmps.getD 8 undef = .int .i64 (i : Nat) := hbase 8 (by decide)
        have e9 : ac.tmps.getD 9 undef = .pointer (some ⟨gx, 0, none⟩) := hbase 9 (by decide)
        obtain rfl | rfl | rfl | rfl | rfl | rfl | rfl | rfl | rfl | rfl : io = 0 ∨ io = 1 ∨ io = 2 ∨ io = 3 ∨ io = 4 ∨ io = 5 ∨ io = 6 ∨ io = 7 ∨ io = 8 ∨ io = 9 := by omega
        all_goals (injection hj with hj; subst hj; refine wpOp_of rfl rfl ?_)
        · go_simp
          exact hK _ _ rfl rfl
        · go_simp
          exact hK _ _ rfl rfl
        · have d17 : ac.tmps.getD 17 undef = .slice (some ⟨b2, o2, none⟩) T.length c2 := hdep ⟨0, .data⟩ (by simp) rfl
          have d18 : ac.tmps.getD 18 undef = .int .i64 (i : Nat) := hdep ⟨1, .data⟩ (by simp) rfl
          go_simp
          exact hK _ _ rfl rfl
        · have d19 : ac.tmps.getD 19 undef = .pointer (some ⟨b2, o2 + i, none⟩) := hdep ⟨2, .data⟩ (by simp) rfl
          go_simp
          exact hK _ _ rfl rfl
        · have d20 : ac.tmps.getD 20 undef = .int .i64 (t : Nat) := hdep ⟨3, .data⟩ (by simp) rfl
          go_simp
          exact hK _ _ rfl rfl
        · have d21 : ac.tmps.getD 21 undef = .pointer (some ⟨gl, t, none⟩) := hdep ⟨4, .data⟩ (by simp) rfl
          go_simp
          exact hK _ _ rfl rfl
        · go_simp
          exact hK _ _ rfl rfl
        · have d23 : ac.tmps.getD 23 undef = .pointer (some ⟨gx, 2, none⟩) := hdep ⟨6, .data⟩ (by simp) rfl
          go_simp
          exact hK _ _ rfl rfl
        · have d22 : ac.tmps.getD 22 undef = .int .i64 S := hdep ⟨5, .data⟩ (by simp) rfl
          have d24 : ac.tmps.getD 24 undef = .int .i64 ln := hdep ⟨7, .data⟩ (by simp) rfl
          go_simp
          exact hK _ _ rfl rfl
        · have d20 : ac.tmps.getD 20 undef = .int .i64 (t : Nat) := hdep ⟨3, .data⟩ (by simp) rfl
          go_simp
          exact hK _ _ rfl rfl
      · intro ac wz ha hT hv K hK
        subst hT
        have d26 : ac.tmps.getD 26 undef = .pointer (some ⟨gl, t, none⟩) := hv 9 (by decide)
        have d25 : ac.tmps.getD 25 undef = .int .i64 (S + ln) := hv 8 (by decide)
        have HA := hid ha
        clear ha hv
        refine wpOp_of rfl rfl ?_
        go_simp
        refine hK _ _ ?_
        clear hK K
        have ha := HA.out
        clear HA d26 d25
        simp only [List.map_cons, List.map_nil, Act.puts] at ha
        generalize ac.tmps.getD 17 undef = y17 at ha
        generalize ac.tmps.getD 18 undef = y18 at ha
        generalize ac.tmps.getD 19 undef = y19 at ha
        generalize ac.tmps.getD 20 undef = y20 at ha
        generalize ac.tmps.getD 21 undef = y21 at ha
        generalize ac.tmps.getD 22 undef = y22 at ha
        generalize ac.tmps.getD 23 undef = y23 at ha
        generalize ac.tmps.getD 24 undef = y24 at ha
        generalize ac.tmps.getD 25 undef = y25 at ha
        generalize ac.tmps.getD 26 undef = y26 at ha
        simp only [Act.put, List.setIfInBounds_toArray, List.set_cons_zero, List.set_cons_succ] at ha
        subst ha
        obtain ⟨W9, hW9⟩ : ∃ W, (Wx.setCell ⟨gl, t, none⟩ (.int .i64 (S + ln))).drew = W := ⟨_, rfl⟩
        have HN : Hid (ArrF W9 gl 76 16 (sumOn L T (i + 1)) ∧ Exc (fun k => k = gl) w1 W9) := hid (by
          rw [← hW9]
          refine ⟨?_, ((HEX.out.setCell (p := ⟨gl, t, none⟩) (Or.inl rfl) _).drew)⟩
          refine ((HAFx.out.set t (S + ln)).drew).congr (fun q _ => ?_)
          unfold upd
          show _ = sumOn L T i q + _
          rw [HTT.out, HCC.out]
          by_cases e : q = t
          · rw [if_pos e, e, if_pos rfl, HS.out]
          · rw [if_neg e, if_neg (by omega)]; omega)
        rw [hW9]
        clear hW9 x2 m0 a0 f0
        go_wp2_with fail
        exact ⟨⟨i + 1, by omega, by go_num, HN⟩, by simp [intOf]; omega⟩
    · have : i = L.length := by omega
      subst this
      have r1 := (HRB.out.exc HH.out.2 (by omega)).at 1 rfl
      have HZ : Hid (∀ W, ArrF W gl 76 16 (sumOn L T L.length) → ∀ j, j < ((List.range 16).map (sumOn L T L.length)).length → W.cell? ⟨gl, 0 + j, none⟩ = some (.int .i64 (((List.range 16).map (sumOn L T L.length)).getD j 0))) := hid (fun W hW j hj => by
        have hj' : j < 16 := by simpa using hj
        rw [Nat.zero_add, hW.at hj', List.getD_eq_getElem?_getD, List.getElem?_map, List.getElem?_range hj']; rfl)
      obtain ⟨mx, hmx⟩ : ∃ m, Lib.maxOf (((List.range 16).map (sumOn L T L.length)).take 16) = m := ⟨_, rfl⟩
      have HMAX : Hid (∀ q, Calls Try.prog 61 #[.slice (some ⟨gl, 0, none⟩) 16 16] (wr.drewN q) fun e w' => e = .returned (.int .i64 mx) ∧ w' = wr.drewN q) := hid (fun q => by
        rw [← hmx]
        exact Try.slices_Max_int gl 0 16 16 ((List.range 16).map (sumOn L T L.length)) _ (by omega) (by simp) (by omega) (HZ.out _ (HH.out.1.drewN q)))
      have HLE : Hid (decide (mx ≤ tl) = RB) := hid (by
        have h1 := maxOf_le (zs := (List.range 16).map (sumOn L T L.length)) (t := tl) 16 (by omega) (by simp)
        rw [hmx] at h1
        rw [← HROOM.out, Bool.eq_iff_iff, roomB_iff, decide_eq_true_eq, h1]
        constructor
        · intro h t ht; have := h t ht; rwa [List.getD_eq_getElem?_getD, List.getElem?_map, List.getElem?_range ht] at this
        · intro h t ht; rw [List.getD_eq_getElem?_getD, List.getElem?_map, List.getElem?_range ht]; exact h t ht)
      clear hmx HZ
      go_wp2_with fail
      go_quiet ((go_at_call 61; exact Calls.quiet_of_same (HMAX.out _)))
      go_wp2_with fail
      go_ret
      exact ⟨ret_bool HLE.out, below_drewN HBW.out _⟩
end Go.Proofs.Ythfoggbaoafpjaa
