/-
  The walk of the reference's distances: its rows come to the plain function of the rounds. Condition: the graph's edges and the begin's marks lie in memory as they read.
-/
import Derived.Test.YtpgcfeamlkdmpaaRgm
import Derived.BigQuiet
import Derived.Deep.QuietTactic
namespace Go.Proofs.Ytpgcfeamlkdmpaa
open Go.RowKit
theorem info4 : (Try.prog.info? 4).map (fun i => (i.zero, i.size, i.bytes)) = some (some (.bool false), 1, 1) := by kernel_rfl
theorem make_eq {t e : TypeId} {z : Value} {by' : Nat} (ht : Try.prog.underlying t = some (.slice e)) (hi : (Try.prog.info? e).map (fun i => (i.zero, i.size, i.bytes)) = some (some z, 1, by')) (hz : z.cells = #[z]) (hb : by' ≤ 1000) (n : Nat) (hn : n ≤ 10000000) :
    ∃ X : Array Value, X.toList = List.replicate n z ∧ ∀ w : World, (Instr.makeSlice t (.int .i64 n) (.int .i64 n)).run Try.prog w = .ok (.slice (some ⟨w.heap.size, 0, none⟩) n n) (w.alloc (.cells X e)) := by
  obtain ⟨i, h1, h2, h3, h4⟩ := info_parts hi
  refine ⟨madeCells z.cells (n * i.size), ?_, fun w => ?_⟩
  · rw [h3, Nat.mul_one, hz, toList_madeCells_one]
  · have hbb : (i.bytes : Int) * (n : Int) ≤ 281474976710656 := by
      have h1 : i.bytes * n ≤ 1000 * 10000000 := Nat.mul_le_mul (by omega) hn
      have h2 : ((i.bytes * n : Nat) : Int) ≤ 281474976710656 := by omega
      rwa [Int.natCast_mul] at h2
    have hmk := run_make (P := Try.prog) w t e i z ht h1 h2 .i64 .i64 n n (by omega) (Int.le_refl _) hbb (by omega)
    simpa only [Int.toNat_natCast] using hmk
theorem wpList_append_fresh {P : Program} {w : World} {ops : Array Oper} {rest : List Oper} {o : Oper} {a : Act} {Q : Exit → Act → World → Prop} (hgd : o.guard = none) {s x : Operand} {t e : TypeId} (ho : o.op = .call { callee := .builtin .append, args := #[s, x], argTypes := #[t, t] })
    (i : TypeInfo) (z : Value) (bytes : Nat) (ht : P.underlying t = some (.slice e)) (hi : P.info? e = some i) (hz : i.zero = some z) (hsize : i.size = 1) (hby : i.bytes = bytes)
    (g : Nat) (hs : a.eval s = .slice (some ⟨g, 0, none⟩) 0 0) (hb : Blk w g e #[]) (A : Option Addr) (m c : Nat) (hx : a.eval x = .slice A m c) (hA : A = none → m = 0 ∧ c = 0) (news : List Value) (hl : news.length = m)
    (hnews : ∀ ad, A = some ad → ∀ j u, news[j]? = some u → w.cell? (ad.add j) = some u) (h1 : ∀ u ∈ news, u.oneCell' = true) (h63 : m ≤ maxLen) (hbytes : m * bytes ≤ 140737488355328)
    (h : ∀ g' c' w', Below w.heap.size w w' → Row w' g' e news → (m = 0 → g' = g) → (0 < m → g' = w.heap.size) → wpList P ops Q rest (a.put o.dst (.slice (some ⟨g', 0, none⟩) m c')) w') :
    wpList P ops Q (o :: rest) a w :=
  wpList_plain hgd fun _ hK => wp_append_fresh ho i z bytes ht hi hz hsize hby g hs hb A m c hx hA news hl hnews h1 h63 hbytes (fun g' c' w' r1 r2 r3 r4 => hK _ _ (h g' c' w' r1 r2 r3 r4))
def DistP (k : Nat) (As : List Arc4) (x : Nat → Int) (bg : Nat → Bool) (w : World) (e : Ending) (w' : World) : Prop :=
  ∃ gd gt gy ct, e = .returned (.tuple #[.slice (some ⟨gd, 0, none⟩) k k, .slice (some ⟨gt, 0, none⟩) k ct, .slice (some ⟨gy, 0, none⟩) k k]) ∧ T3 w k gd gt gy (rndsD (netA k As) x k (dst0 bg)) w'
theorem dbd_mid {k : Nat} {As : List Arc4} (hA : ArcOk k As) (x : Nat → Int) (bg : Nat → Bool) {r i : Nat} (hr : r < k) (hi : i ≤ As.length) : DBd (arcsD (netA k As) x i (rndsD (netA k As) x r (dst0 bg))) 40000 := by
  refine (DBd.arcs hA.ok (DBd.rnds hA.ok (x := x) bg r) i hi).mono ?_
  have h1 := hA.k64
  have h2 := hA.m256
  have h3 : 2 * (netA k As).m * r ≤ 512 * 64 := Nat.mul_le_mul (by show 2 * As.length ≤ 512; omega) (by omega)
  omega
theorem stp1_yes {N : Net} {x : Nat → Int} {s : DS} {i : Nat} (h : relF N x s i) : stp1 N x i s = updD s (N.t i) (s.d (N.f i) + N.cost i) ((i : Int) + 1) := if_pos h
theorem stp2_yes {N : Net} {x : Nat → Int} {s : DS} {i : Nat} (h : relB N x s i) : stp2 N x i s = updD s (N.f i) (s.d (N.t i) - N.cost i) (-(i : Int) - 1) := if_pos h
theorem edge_cells {w : World} {A : Option Addr} {As : List Arc4} {x : Nat → Int} (h : CelR w A (EdF As x)) {i : Nat} (hi : i < As.length) :
    ∃ b off, A = some ⟨b, off, none⟩ ∧ b < w.heap.size ∧ ∀ j, j < 5 → w.cell? ⟨b, off + i * 5 + j, none⟩ = some (edV (As.getD i default) (x i) j) := by
  obtain ⟨b, off, h1, h2, h3⟩ := h (fun e => by have := EdF_len As x; rw [e] at this; simp at this; omega)
  exact ⟨b, off, h1, h2, fun j hj => by rw [Nat.add_assoc]; exact h3 _ _ (EdF_cell hi j hj)⟩
set_option maxHeartbeats 8000000 in
set_option maxRecDepth 100000 in
theorem dist_any (k : Nat) (As : List Arc4) (x : Nat → Int) (bg : Nat → Bool) (g b0 : Nat) (A : Option Addr) (c cb : Nat) (w : World) (hA : ArcOk k As) (hg : Blk w g 69 #[.int .i64 k, .slice A As.length c]) (hE : CelR w A (EdF As x)) (hB : Row w b0 4 (Fn k fun v => .bool (bg v))) :
    Calls Try.prog 33 #[.pointer (some ⟨g, 0, none⟩), .slice (some ⟨b0, 0, none⟩) k cb] w (DistP k As x bg w) := by
  have hk := hA.k64
  have hm := hA.m256
  obtain ⟨i4, hi4, hz4, hs4, hb4⟩ := info_parts info4
  obtain ⟨X, hX, hmk⟩ := make_eq Try.underlying22 info3 rfl (by decide) k (by omega)
  have HX := hid hX
  have HA := hid hA
  have HG := hid hg
  have HE := hid hE
  have HB := hid hB
  have q0 := hg.at 0 rfl
  clear hA hX hg hE hB
  go_enter Try.func33, Try.ntmps33
  go_wp2_with (at_builtin; go_must (refine wpList_append_fresh rfl (s := .tmp 18) (x := .tmp 19) (t := 46) (e := 4) rfl i4 _ 1 Try.underlying46 hi4 hz4 hs4 hb4 _ rfl ?c0 (some ⟨b0, 0, none⟩) k cb rfl (fun e => by cases e) (Fn k fun v => .bool (bg v)) (Fn_len _ _) ?c1 ?c2 (by unfold maxLen; omega) (by omega) ?_))
  case c0 => exact Blk.of_size _ (by simp) _ _
  case c1 =>
    intro ad e j u hu
    injection e with e
    subst e
    have := ((HB.out.alloc (.cells X 3)).alloc (.cells #[] 4)).at hu
    rw [Addr.add_lit, Nat.zero_add]
    exact this
  case c2 => intro u hu; unfold Fn at hu; obtain ⟨n, _, rfl⟩ := List.mem_map.1 hu; rfl
  intro gt ct w3 hb3 hr3 hz hgt
  have hgt0 : w.heap.size ≤ gt := by
    rcases Nat.eq_zero_or_pos k with h | h
    · have := hz h; omega
    · have := hgt h; omega
  clear hz
  have hW : Below w.heap.size w w3 := (((Below.refl _ w).alloc (Nat.le_refl _) (.cells X 3)).alloc (by simp) (.cells #[] 4)).trans (hb3.mono (by omega))
  have hd3 : Row w3 w.heap.size 3 (Fn k fun _ => .int .i64 0) := by
    rw [← Fn_rep, ← HX.out]
    exact ((Row.of_blk (Blk.new w 3 X)).alloc (.cells #[] 4)).below hb3 (by omega)
  have hgx : g < w.heap.size := HG.out.lt
  have HG3 := hid (HG.out.below hW hgx)
  have q3 := HG3.out.at 0 rfl
  have HD3 := hid hd3
  have HR3 := hid hr3
  have HW := hid hW
  have HGT := hid hgt0
  have HGX := hid hgx
  clear hb3 hr3 hW hgt0 hgt hd3 hgx q0 i4 hi4 hz4 hs4 hb4
  go_wp2_with fail
  obtain ⟨W1, hW1⟩ : ∃ W1, w3.alloc (.cells X 3) = W1 := ⟨_, rfl⟩
  have HT0 : Hid (T3 w k w.heap.size gt w3.heap.size (dst0 bg) W1) := hid (by
    rw [← hW1]
    refine ⟨HD3.out.alloc _, HR3.out.alloc _, ?_, HW.out.alloc HW.out.size _, Nat.le_refl _, HGT.out, HW.out.size, ?_⟩
    · show Row _ _ 3 (Fn k fun _ => .int .i64 0)
      rw [← Fn_rep, ← HX.out]
      exact Row.of_blk (Blk.new w3 3 X)
    · have := HD3.out.lt; omega)
  rw [hW1]
  generalize w3.heap.size = gy at *
  obtain ⟨gd, hgd⟩ : ∃ gd, w.heap.size = gd := ⟨_, rfl⟩
  rw [hgd] at HT0 ⊢
  clear hW1 q3 HG3 HD3 HR3 HW HX hmk hgd X HGT
  go_loopw [10] (fun s10 wr => ∃ r : Nat, r ≤ k ∧ s10 = .int .i64 r ∧ Hid (T3 w k gd gt gy (rndsD (netA k As) x r (dst0 bg)) wr)) (fun s10 _ => k - (intOf s10).toNat)
  case atStart => exact ⟨0, Nat.zero_le _, rfl, HT0⟩
  case round =>
    obtain ⟨r, hr, rfl, HT⟩ := hrel
    have HGR := hid (HG.out.below HT.out.bw HGX.out)
    have q0 := HGR.out.at 0 rfl
    by_cases hlt : r < k
    · have HL0 : Hid (T3 w k gd gt gy (arcsD (netA k As) x 0 (rndsD (netA k As) x r (dst0 bg))) wr) := HT
      clear HT
      go_wp2_with fail
      clear q0 HGR
      go_loopw [11] (fun s11 wv => ∃ i : Nat, i ≤ As.length ∧ s11 = .int .i64 i ∧ Hid (T3 w k gd gt gy (arcsD (netA k As) x i (rndsD (netA k As) x r (dst0 bg))) wv)) (fun s11 _ => As.length - (intOf s11).toNat)
      case atStart => exact ⟨0, Nat.zero_le _, rfl, HL0⟩
      case round =>
        clear HL0 HT0
        obtain ⟨i, hi, rfl, HT⟩ := hrel
        have HGR := hid (HG.out.below HT.out.bw HGX.out)
        have q1 := HGR.out.at 1 rfl
        by_cases hli : i < As.length
        · have HDB := hid (dbd_mid HA.out x bg hlt hi)
          have HNX : Hid (∀ W, T3 w k gd gt gy (stp2 (netA k As) x i (stp1 (netA k As) x i (arcsD (netA k As) x i (rndsD (netA k As) x r (dst0 bg))))) W → Hid (T3 w k gd gt gy (arcsD (netA k As) x (i + 1) (rndsD (netA k As) x r (dst0 bg))) W)) := hid (fun W h => hid h)
          generalize arcsD (netA k As) x i (rndsD (netA k As) x r (dst0 bg)) = s at *
          obtain ⟨b, off, rfl, hb, hc⟩ := edge_cells (HE.out.below HT.out.bw) hli
          obtain ⟨fi, ti, e1, e2, e3, e4, hfi, hti, hft⟩ := HA.out.ends hli
          obtain ⟨cp, hcp⟩ : ∃ v, (As.getD i default).cap = v := ⟨_, rfl⟩
          obtain ⟨co, hco⟩ : ∃ v, (As.getD i default).cost = v := ⟨_, rfl⟩
          obtain ⟨xv, hxv⟩ : ∃ v, x i = v := ⟨_, rfl⟩
          have l0 : wr.cell? ⟨b, off + i * 5, none⟩ = some (.int .i64 fi) := by rw [← e1]; exact hc 0 (by decide)
          have l1 : wr.cell? ⟨b, off + i * 5 + 1, none⟩ = some (.int .i64 ti) := by rw [← e2]; exact hc 1 (by decide)
          have l2 : wr.cell? ⟨b, off + i * 5 + 2, none⟩ = some (.int .i64 cp) := by rw [← hcp]; exact hc 2 (by decide)
          have l3 : wr.cell? ⟨b, off + i * 5 + 3, none⟩ = some (.int .i64 co) := by rw [← hco]; exact hc 3 (by decide)
          have l4 : wr.cell? ⟨b, off + i * 5 + 4, none⟩ = some (.int .i64 xv) := by rw [← hxv]; exact hc 4 (by decide)
          have hco0 : 0 ≤ co := by rw [← hco]; exact HA.out.cost0 i hli
          have hco1 : co ≤ 1000000000 := by rw [← hco]; exact HA.out.cost1 i hli
          have HY1 : Hid (∀ s : DS, s.th fi = true → xv < cp → (s.th ti = false ∨ s.d fi + co < s.d ti) → stp1 (netA k As) x i s = updD s ti (s.d fi + co) ((i : Int) + 1)) := hid (fun s h1 h2 h3 => by
            have := stp1_yes (N := netA k As) (x := x) (i := i) (s := s) ⟨by rw [e3]; exact h1, by rw [hxv]; show xv < (As.getD i default).cap; rw [hcp]; exact h2, by rw [e3, e4]; show _ ∨ s.d fi + (As.getD i default).cost < _; rw [hco]; exact h3⟩
            rw [e3, e4, show (netA k As).cost i = co from hco] at this
            exact this)
          have HZ1 : Hid (∀ s : DS, ¬ (s.th fi = true ∧ xv < cp ∧ (s.th ti = false ∨ s.d fi + co < s.d ti)) → stp1 (netA k As) x i s = s) := hid (fun s h => if_neg (fun h' : relF (netA k As) x s i => h (by
            obtain ⟨h1, h2, h3⟩ := h'
            rw [e3] at h1
            rw [hxv, show (netA k As).cap i = cp from hcp] at h2
            rw [e3, e4, show (netA k As).cost i = co from hco] at h3
            exact ⟨h1, h2, h3⟩)))
          have HY2 : Hid (∀ s : DS, s.th ti = true → 0 < xv → (s.th fi = false ∨ s.d ti - co < s.d fi) → stp2 (netA k As) x i s = updD s fi (s.d ti - co) (-(i : Int) - 1)) := hid (fun s h1 h2 h3 => by
            have := stp2_yes (N := netA k As) (x := x) (i := i) (s := s) ⟨by rw [e4]; exact h1, by rw [hxv]; exact h2, by rw [e3, e4]; show _ ∨ s.d ti - (As.getD i default).cost < _; rw [hco]; exact h3⟩
            rw [e3, e4, show (netA k As).cost i = co from hco] at this
            exact this)
          have HZ2 : Hid (∀ s : DS, ¬ (s.th ti = true ∧ 0 < xv ∧ (s.th fi = false ∨ s.d ti - co < s.d fi)) → stp2 (netA k As) x i s = s) := hid (fun s h => if_neg (fun h' : relB (netA k As) x s i => h (by
            obtain ⟨h1, h2, h3⟩ := h'
            rw [e4] at h1
            rw [hxv] at h2
            rw [e3, e4, show (netA k As).cost i = co from hco] at h3
            exact ⟨h1, h2, h3⟩)))
          have HDB1 : Hid (DBd (stp1 (netA k As) x i s) 40001) := hid (HDB.out.stp1 (HA.out.ok.cost0 i hli) (HA.out.ok.cost1 i hli))
          have HX := hid (Blk.new wr 66 #[.int .i64 fi, .int .i64 ti, .int .i64 cp, .int .i64 co, .int .i64 xv])
          have HTX := hid (HT.out.alloc (.cells #[.int .i64 fi, .int .i64 ti, .int .i64 cp, .int .i64 co, .int .i64 xv] 66))
          have HXD : Hid (wr.heap.size ≠ gd ∧ wr.heap.size ≠ gt ∧ wr.heap.size ≠ gy) := hid (by have := HT.out.d.lt; have := HT.out.t.lt; have := HT.out.y.lt; omega)
          have HFT := hid hft
          clear hc e1 e2 e3 e4 hcp hco hxv hft
          go_upto_region 11 with fail
          obtain ⟨Wx, hWx⟩ : ∃ W, wr.alloc (.cells #[.int .i64 fi, .int .i64 ti, .int .i64 cp, .int .i64 co, .int .i64 xv] 66) = W := ⟨_, rfl⟩
          rw [hWx] at HX HTX ⊢
          clear hWx l0 l1 l2 l3 l4 q1 HT HGR
          obtain ⟨gx, hgx⟩ : ∃ gx, wr.heap.size = gx := ⟨_, rfl⟩
          rw [hgx] at HX HXD ⊢
          clear hgx
          have x0 := HX.out.at 0 rfl
          have x1 := HX.out.at 1 rfl
          have x2 := HX.out.at 2 rfl
          have x3 := HX.out.at 3 rfl
          have x4 := HX.out.at 4 rfl
          obtain ⟨bf, hbf⟩ : ∃ v, s.th fi = v := ⟨_, rfl⟩
          obtain ⟨bt, hbt⟩ : ∃ v, s.th ti = v := ⟨_, rfl⟩
          obtain ⟨df, hdf⟩ : ∃ v, s.d fi = v := ⟨_, rfl⟩
          obtain ⟨dt, hdt⟩ : ∃ v, s.d ti = v := ⟨_, rfl⟩
          have kf : Wx.cell? ⟨gt, fi, none⟩ = some (.bool bf) := by rw [← hbf]; exact HTX.out.tv hfi
          have kt : Wx.cell? ⟨gt, ti, none⟩ = some (.bool bt) := by rw [← hbt]; exact HTX.out.tv hti
          have mf : Wx.cell? ⟨gd, fi, none⟩ = some (.int .i64 df) := by rw [← hdf]; exact HTX.out.dv hfi
          have mt : Wx.cell? ⟨gd, ti, none⟩ = some (.int .i64 dt) := by rw [← hdt]; exact HTX.out.dv hti
          have hrf := HDB.out fi
          have hrt := HDB.out ti
          rw [hdf] at hrf
          rw [hdt] at hrt
          obtain ⟨cb, hcb⟩ : ∃ cb : Bool, (bf && decide (xv < cp) && (!bt || decide (df + co < dt))) = cb := ⟨_, rfl⟩
          have HCY : Hid (cb = true → (stp1 (netA k As) x i s) = updD s ti (df + co) ((i : Int) + 1)) := hid (fun h => by
            rw [← hcb] at h
            simp only [Bool.and_eq_true, Bool.or_eq_true, Bool.not_eq_true', decide_eq_true_eq] at h
            have := HY1.out s (by rw [hbf]; exact h.1.1) h.1.2 (by rw [hbt, hdf, hdt]; exact h.2)
            rwa [hdf] at this)
          have HCN : Hid (cb = false → (stp1 (netA k As) x i s) = s) := hid (fun h => HZ1.out s (fun h' => by
            rw [hbf, hbt, hdf, hdt] at h'
            have h2 : (bf && decide (xv < cp) && (!bt || decide (df + co < dt))) = true := by
              simp only [Bool.and_eq_true, Bool.or_eq_true, Bool.not_eq_true', decide_eq_true_eq]
              exact ⟨⟨h'.1, h'.2.1⟩, h'.2.2⟩
            rw [hcb, h] at h2; cases h2))
          clear hbf hbt hdf hdt
          have hw : IntKind.i64.wrap (df + co) = df + co := IntWalk.i64_in _ (by omega)
          go_cut [85] from 50 to 84 (fun s wc => s = .bool cb ∧ ∃ q, wc = Wx.drewN q)
          case first =>
            clear HCY HCN
            cases bf with
            | false =>
              obtain rfl : cb = false := by rw [← hcb]; simp [*]
              clear hcb
              go_big_quiet (fail)
              go_wp2_with fail
              go_meet
              exact ⟨rfl, _, rfl⟩
            | true =>
              by_cases hro : xv < cp
              · have k1 : decide (xv < cp) = true := by simpa using hro
                cases bt with
                | false =>
                  obtain rfl : cb = true := by rw [← hcb]; simp [*]
                  clear hcb
                  go_big_quiet (fail)
                  go_wp2_with fail
                  go_meet
                  exact ⟨rfl, _, rfl⟩
                | true =>
                  by_cases hdl : df + co < dt
                  · have k2 : decide (df + co < dt) = true := by simpa using hdl
                    obtain rfl : cb = true := by rw [← hcb]; simp [*]
                    clear hcb
                    go_big_quiet (fail)
                    go_wp2_with fail
                    go_meet
                    exact ⟨rfl, _, rfl⟩
                  · have k2 : decide (df + co < dt) = false := by simpa using hdl
                    obtain rfl : cb = false := by rw [← hcb]; simp [*]
                    clear hcb
                    go_big_quiet (fail)
                    go_wp2_with fail
                    go_meet
                    exact ⟨rfl, _, rfl⟩
              · have k1 : decide (xv < cp) = false := by simpa using hro
                obtain rfl : cb = false := by rw [← hcb]; simp [*]
                clear hcb
                go_big_quiet (fail)
                go_wp2_with fail
                go_meet
                exact ⟨rfl, _, rfl⟩
          case rest =>
          obtain ⟨rfl, nq, hwc⟩ := hcut
          have HT2 : Hid (T3 w k gd gt gy s wc) := hid (by rw [hwc]; exact HTX.out.drewN nq)
          have HX2 : Hid (Blk wc gx 66 #[.int .i64 fi, .int .i64 ti, .int .i64 cp, .int .i64 co, .int .i64 xv]) := hid (by rw [hwc]; exact HX.out.drewN nq)
          have zu : wc.cell? ⟨gd, fi, none⟩ = some (.int .i64 df) := by rw [hwc]; exact mf
          have zv : wc.cell? ⟨gd, ti, none⟩ = some (.int .i64 dt) := by rw [hwc]; exact mt
          clear hwc hcb kf kt mf mt x0 x1 x2 x3 x4 HTX HX
          obtain ⟨W2, hW2⟩ : ∃ W2, wc = W2 := ⟨_, rfl⟩
          rw [hW2] at HT2 HX2 zu zv ⊢
          clear hW2
          go_upto_if 85 with fail
          go_cut [] (fun wc => Hid (T3 w k gd gt gy (stp1 (netA k As) x i s) wc ∧ Blk wc gx 66 #[.int .i64 fi, .int .i64 ti, .int .i64 cp, .int .i64 co, .int .i64 xv]))
          case first =>
            cases cb with
            | false =>
              have HF : Hid (Hid (T3 w k gd gt gy (stp1 (netA k As) x i s) W2 ∧ Blk W2 gx 66 #[.int .i64 fi, .int .i64 ti, .int .i64 cp, .int .i64 co, .int .i64 xv])) := hid (hid ⟨by rw [HCN.out rfl]; exact HT2.out, HX2.out⟩)
              clear zu zv HCY HCN
              go_wp2_with fail
              go_meet
              exact HF.out
            | true =>
              have HF := hid (HCY.out rfl)
              have y0 := HX2.out.at 0 rfl
              have y1 := HX2.out.at 1 rfl
              have y3 := HX2.out.at 3 rfl
              have zf := HT2.out.d.frozen ti
              clear HCY HCN
              go_wp2_with fail
              go_region
              have HT3 : Hid (T3 w k gd gt gy ⟨fun z => if z = ti then df + co else s.d z, s.th, s.b⟩ (W2.setCell ⟨gd, ti, none⟩ (.int .i64 (df + co))).drew) := hid ((HT2.out.setd ti (df + co)).drewN 1)
              have HX3 : Hid (Blk (W2.setCell ⟨gd, ti, none⟩ (.int .i64 (df + co))).drew gx 66 #[.int .i64 fi, .int .i64 ti, .int .i64 cp, .int .i64 co, .int .i64 xv]) := hid ((HX2.out.far (p := ⟨gd, ti, none⟩) HXD.out.1 _).drew)
              obtain ⟨W3, hW3⟩ : ∃ W3, (W2.setCell ⟨gd, ti, none⟩ (.int .i64 (df + co))).drew = W3 := ⟨_, rfl⟩
              rw [hW3] at HT3 HX3 ⊢
              clear hW3 y0 y1 y3 zu zv zf HT2 HX2
              have HT4 := hid (HT3.out.sett ti)
              have HX4 := hid (HX3.out.far (p := ⟨gt, ti, none⟩) HXD.out.2.1 (.bool true))
              have HT5 := hid (HT4.out.sety ti ((i : Int) + 1))
              have HX5 := hid (HX4.out.far (p := ⟨gy, ti, none⟩) HXD.out.2.2 (.int .i64 ((i : Int) + 1)))
              have y1 := HX3.out.at 1 rfl
              have kv := HT3.out.tv hti
              have kz := HT3.out.t.frozen ti
              have n1 := HX4.out.at 1 rfl
              have nv := HT4.out.yv hti
              have nz := HT4.out.y.frozen ti
              have HFF : Hid (Hid (T3 w k gd gt gy (stp1 (netA k As) x i s) ((W3.setCell ⟨gt, ti, none⟩ (.bool true)).setCell ⟨gy, ti, none⟩ (.int .i64 ((i : Int) + 1))) ∧ Blk ((W3.setCell ⟨gt, ti, none⟩ (.bool true)).setCell ⟨gy, ti, none⟩ (.int .i64 ((i : Int) + 1))) gx 66 #[.int .i64 fi, .int .i64 ti, .int .i64 cp, .int .i64 co, .int .i64 xv])) := hid (hid ⟨by rw [HF.out]; exact HT5.out, HX5.out⟩)
              clear HT3 HX3 HT4 HX4 HT5 HX5 HF
              go_wp2_with fail
              go_meet
              exact HFF.out
          case rest =>
          have hc1 := hcut.out
          clear hcut zu zv HT2 HX2 HCY HCN hw hrf hrt HDB HY1 HZ1 W2
          obtain ⟨s1, hs1⟩ : ∃ s1, stp1 (netA k As) x i s = s1 := ⟨_, rfl⟩
          rw [hs1] at hc1 HDB1 HNX
          clear hs1 bf bt df dt cb
          obtain ⟨wy, hwy⟩ : ∃ wy : World, wy = wc := ⟨_, rfl⟩
          rw [← hwy] at hc1 ⊢
          clear hwy
          have HTY := hid hc1.1
          have HXY := hid hc1.2
          clear hc1
          have x0 := HXY.out.at 0 rfl
          have x1 := HXY.out.at 1 rfl
          have x3 := HXY.out.at 3 rfl
          have x4 := HXY.out.at 4 rfl
          go_upto_region 15 with fail
          obtain ⟨bf, hbf⟩ : ∃ v, s1.th fi = v := ⟨_, rfl⟩
          obtain ⟨bt, hbt⟩ : ∃ v, s1.th ti = v := ⟨_, rfl⟩
          obtain ⟨df, hdf⟩ : ∃ v, s1.d fi = v := ⟨_, rfl⟩
          obtain ⟨dt, hdt⟩ : ∃ v, s1.d ti = v := ⟨_, rfl⟩
          have kf : wy.cell? ⟨gt, fi, none⟩ = some (.bool bf) := by rw [← hbf]; exact HTY.out.tv hfi
          have kt : wy.cell? ⟨gt, ti, none⟩ = some (.bool bt) := by rw [← hbt]; exact HTY.out.tv hti
          have mf : wy.cell? ⟨gd, fi, none⟩ = some (.int .i64 df) := by rw [← hdf]; exact HTY.out.dv hfi
          have mt : wy.cell? ⟨gd, ti, none⟩ = some (.int .i64 dt) := by rw [← hdt]; exact HTY.out.dv hti
          have hrf := HDB1.out fi
          have hrt := HDB1.out ti
          rw [hdf] at hrf
          rw [hdt] at hrt
          obtain ⟨cb, hcb⟩ : ∃ cb : Bool, (bt && decide (0 < xv) && (!bf || decide (dt - co < df))) = cb := ⟨_, rfl⟩
          have HCY : Hid (cb = true → (stp2 (netA k As) x i s1) = updD s1 fi (dt - co) (-(i : Int) - 1)) := hid (fun h => by
            rw [← hcb] at h
            simp only [Bool.and_eq_true, Bool.or_eq_true, Bool.not_eq_true', decide_eq_true_eq] at h
            have := HY2.out s1 (by rw [hbt]; exact h.1.1) h.1.2 (by rw [hbf, hdf, hdt]; exact h.2)
            rwa [hdt] at this)
          have HCN : Hid (cb = false → (stp2 (netA k As) x i s1) = s1) := hid (fun h => HZ2.out s1 (fun h' => by
            rw [hbf, hbt, hdf, hdt] at h'
            have h2 : (bt && decide (0 < xv) && (!bf || decide (dt - co < df))) = true := by
              simp only [Bool.and_eq_true, Bool.or_eq_true, Bool.not_eq_true', decide_eq_true_eq]
              exact ⟨⟨h'.1, h'.2.1⟩, h'.2.2⟩
            rw [hcb, h] at h2; cases h2))
          clear hbf hbt hdf hdt
          have hw : IntKind.i64.wrap (dt - co) = dt - co := IntWalk.i64_in _ (by omega)
          go_cut [141] from 108 to 140 (fun s wc => s = .bool cb ∧ ∃ q, wc = wy.drewN q)
          case first =>
            clear HCY HCN
            cases bt with
            | false =>
              obtain rfl : cb = false := by rw [← hcb]; simp [*]
              clear hcb
              go_big_quiet (fail)
              go_wp2_with fail
              go_meet
              exact ⟨rfl, _, rfl⟩
            | true =>
              by_cases hro : 0 < xv
              · have k1 : decide (0 < xv) = true := by simpa using hro
                cases bf with
                | false =>
                  obtain rfl : cb = true := by rw [← hcb]; simp [*]
                  clear hcb
                  go_big_quiet (fail)
                  go_wp2_with fail
                  go_meet
                  exact ⟨rfl, _, rfl⟩
                | true =>
                  by_cases hdl : dt - co < df
                  · have k2 : decide (dt - co < df) = true := by simpa using hdl
                    obtain rfl : cb = true := by rw [← hcb]; simp [*]
                    clear hcb
                    go_big_quiet (fail)
                    go_wp2_with fail
                    go_meet
                    exact ⟨rfl, _, rfl⟩
                  · have k2 : decide (dt - co < df) = false := by simpa using hdl
                    obtain rfl : cb = false := by rw [← hcb]; simp [*]
                    clear hcb
                    go_big_quiet (fail)
                    go_wp2_with fail
                    go_meet
                    exact ⟨rfl, _, rfl⟩
              · have k1 : decide (0 < xv) = false := by simpa using hro
                obtain rfl : cb = false := by rw [← hcb]; simp [*]
                clear hcb
                go_big_quiet (fail)
                go_wp2_with fail
                go_meet
                exact ⟨rfl, _, rfl⟩
          case rest =>
          obtain ⟨rfl, nq, hwc⟩ := hcut
          have HT2 : Hid (T3 w k gd gt gy s1 wc) := hid (by rw [hwc]; exact HTY.out.drewN nq)
          have HX2 : Hid (Blk wc gx 66 #[.int .i64 fi, .int .i64 ti, .int .i64 cp, .int .i64 co, .int .i64 xv]) := hid (by rw [hwc]; exact HXY.out.drewN nq)
          have zu : wc.cell? ⟨gd, ti, none⟩ = some (.int .i64 dt) := by rw [hwc]; exact mt
          have zv : wc.cell? ⟨gd, fi, none⟩ = some (.int .i64 df) := by rw [hwc]; exact mf
          clear hwc hcb kf kt mf mt x0 x1 x3 x4 HTY HXY
          obtain ⟨W2, hW2⟩ : ∃ W2, wc = W2 := ⟨_, rfl⟩
          rw [hW2] at HT2 HX2 zu zv ⊢
          clear hW2
          go_upto_if 141 with fail
          clear HDB1 HY2 HZ2
          cases cb with
            | false =>
              have HF : Hid (Hid (T3 w k gd gt gy (stp2 (netA k As) x i s1) W2 ∧ Blk W2 gx 66 #[.int .i64 fi, .int .i64 ti, .int .i64 cp, .int .i64 co, .int .i64 xv])) := hid (hid ⟨by rw [HCN.out rfl]; exact HT2.out, HX2.out⟩)
              have HNN := hid (HNX.out _ HF.out.out.1)
              clear zu zv HCY HCN HNX HF HT2 HX2
              go_wp2_with fail
              exact ⟨⟨i + 1, by omega, by go_num, HNN.out⟩, by simp [intOf]; omega⟩
            | true =>
              have HF := hid (HCY.out rfl)
              have y0 := HX2.out.at 0 rfl
              have y1 := HX2.out.at 1 rfl
              have y3 := HX2.out.at 3 rfl
              have zf := HT2.out.d.frozen fi
              clear HCY HCN
              go_wp2_with fail
              go_region
              have HT3 : Hid (T3 w k gd gt gy ⟨fun z => if z = fi then dt - co else s1.d z, s1.th, s1.b⟩ (W2.setCell ⟨gd, fi, none⟩ (.int .i64 (dt - co))).drew) := hid ((HT2.out.setd fi (dt - co)).drewN 1)
              have HX3 : Hid (Blk (W2.setCell ⟨gd, fi, none⟩ (.int .i64 (dt - co))).drew gx 66 #[.int .i64 fi, .int .i64 ti, .int .i64 cp, .int .i64 co, .int .i64 xv]) := hid ((HX2.out.far (p := ⟨gd, fi, none⟩) HXD.out.1 _).drew)
              obtain ⟨W3, hW3⟩ : ∃ W3, (W2.setCell ⟨gd, fi, none⟩ (.int .i64 (dt - co))).drew = W3 := ⟨_, rfl⟩
              rw [hW3] at HT3 HX3 ⊢
              clear hW3 y0 y1 y3 zu zv zf HT2 HX2
              have HT4 := hid (HT3.out.sett fi)
              have HX4 := hid (HX3.out.far (p := ⟨gt, fi, none⟩) HXD.out.2.1 (.bool true))
              have HT5 := hid (HT4.out.sety fi (-(i : Int) - 1))
              have HX5 := hid (HX4.out.far (p := ⟨gy, fi, none⟩) HXD.out.2.2 (.int .i64 (-(i : Int) - 1)))
              have y0 := HX3.out.at 0 rfl
              have kv := HT3.out.tv hfi
              have kz := HT3.out.t.frozen fi
              have n0 := HX4.out.at 0 rfl
              have nv := HT4.out.yv hfi
              have nz := HT4.out.y.frozen fi
              have HFF : Hid (Hid (T3 w k gd gt gy (stp2 (netA k As) x i s1) ((W3.setCell ⟨gt, fi, none⟩ (.bool true)).setCell ⟨gy, fi, none⟩ (.int .i64 (-(i : Int) - 1))) ∧ Blk ((W3.setCell ⟨gt, fi, none⟩ (.bool true)).setCell ⟨gy, fi, none⟩ (.int .i64 (-(i : Int) - 1))) gx 66 #[.int .i64 fi, .int .i64 ti, .int .i64 cp, .int .i64 co, .int .i64 xv])) := hid (hid ⟨by rw [HF.out]; exact HT5.out, HX5.out⟩)
              clear HT3 HX3 HT4 HX4 HT5 HX5 HF
              have HNN := hid (HNX.out _ HFF.out.out.1)
              clear HNX HFF
              go_wp2_with fail
              exact ⟨⟨i + 1, by omega, by go_num, HNN.out⟩, by simp [intOf]; omega⟩
        · have : i = As.length := by omega
          subst this
          have HN : Hid (T3 w k gd gt gy (rndsD (netA k As) x (r + 1) (dst0 bg)) wr) := HT
          clear HT
          go_wp2_with fail
          exact ⟨⟨r + 1, by omega, by go_num, HN⟩, by simp [intOf]; omega⟩
    · have : r = k := by omega
      subst this
      have HF : Hid (DistP r As x bg w (.returned (.tuple #[.slice (some ⟨gd, 0, none⟩) r r, .slice (some ⟨gt, 0, none⟩) r ct, .slice (some ⟨gy, 0, none⟩) r r])) wr) := hid ⟨gd, gt, gy, ct, rfl, HT.out⟩
      clear HT
      go_wp2_with fail
      go_ret3
      exact HF.out
end Go.Proofs.Ytpgcfeamlkdmpaa
