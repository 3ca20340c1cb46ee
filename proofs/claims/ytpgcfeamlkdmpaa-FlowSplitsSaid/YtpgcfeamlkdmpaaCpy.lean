/-
  A region that draws its order and copies given arcs onto a fresh slice: what its operations yield. No program in sight but its types.
-/
import Derived.Test.YtpgcfeamlkdmpaaLaw7
import Derived.ArgAppend
namespace Go.Proofs.Ytpgcfeamlkdmpaa
open Go.RowKit
theorem own_base {w : World} {B B' n sz : Nat} {t : TypeId} {v : Value} {xs : List Value} (h : w.ownsRow B t sz v n xs) (hb : B' ≤ B) : w.ownsRow B' t sz v n xs := by
  obtain ⟨h1, h2⟩ := h
  refine ⟨h1, ?_⟩
  rcases h2 with h2 | ⟨g, c, cur, q1, q2, q3⟩
  · exact .inl h2
  · exact .inr ⟨g, c, cur, q1, by omega, q3⟩
/-- What may turn: in a row of arcs, what lies behind the first m: there the news come. -/
structure RowK (B m : Nat) (news : List Value) (w w' : World) : Prop where
  low : Below B w w'
  blk : ∀ g t cur, t ≠ 48 → Blk w g t cur → Blk w' g t cur
  arc : ∀ g cur, Blk w g 48 cur → ∃ cur', Blk w' g 48 cur' ∧ cur'.size = cur.size ∧ (cur' = cur ∨ (m * 4 + 4 ≤ cur.size ∧ cur'.toList.take (m * 4 + 4) = cur.toList.take (m * 4) ++ news))
theorem RowK.of_below {B m : Nat} {news : List Value} {w w' : World} (hB : B ≤ w.heap.size) (h : Below w.heap.size w w') : RowK B m news w w' :=
  ⟨h.mono hB, fun _ _ _ _ hg => hg.below h hg.lt, fun _ cur hg => ⟨cur, hg.below h hg.lt, rfl, Or.inl rfl⟩⟩
theorem RowK.small {B m : Nat} {news : List Value} {w w' : World} (h : RowK B m news w w') {g : Nat} {cur : Array Value} (hg : Blk w g 48 cur) (hs : cur.size ≤ m * 4) : Blk w' g 48 cur := by
  obtain ⟨cur', q1, q2, q3⟩ := h.arc g cur hg
  rcases q3 with q3 | ⟨q3, _⟩
  · rwa [q3] at q1
  · omega
theorem RowK.own {B m : Nat} {news : List Value} {w w' : World} (h : RowK B m news w w') {v : Value} {xs : List Value} (ho : w.ownsRow B 48 4 v m xs) : w'.ownsRow B 48 4 v m xs := by
  obtain ⟨h1, h2⟩ := ho
  refine ⟨h1, ?_⟩
  rcases h2 with h2 | ⟨g, c, cur, q1, q2, q3, q4, q5, q6, q7⟩
  · exact .inl h2
  · obtain ⟨cur', r1, r2, r3⟩ := h.arc g cur q3
    refine .inr ⟨g, c, cur', q1, q2, r1, q4, q5, by rw [r2]; exact q6, ?_⟩
    rcases r3 with rfl | ⟨r3, r4⟩
    · exact q7
    · have := congrArg (List.take (m * 4)) r4
      rw [List.take_take, Nat.min_eq_left (by omega), q7, ← h1, List.take_left] at this
      rw [← h1]; exact this
theorem RowK.own1 {B m : Nat} {news : List Value} {w w' : World} (h : RowK B m news w w') (hn : news.length = 4) {v : Value} {ys : List Value} (ho : w.ownsRow B 48 4 v (m + 1) (ys ++ news)) : w'.ownsRow B 48 4 v (m + 1) (ys ++ news) := by
  obtain ⟨h1, h2⟩ := ho
  have hy : ys.length = m * 4 := by rw [List.length_append, hn] at h1; omega
  refine ⟨h1, ?_⟩
  rcases h2 with h2 | ⟨g, c, cur, q1, q2, q3, q4, q5, q6, q7⟩
  · exact .inl h2
  · obtain ⟨cur', r1, r2, r3⟩ := h.arc g cur q3
    refine .inr ⟨g, c, cur', q1, q2, r1, q4, q5, by rw [r2]; exact q6, ?_⟩
    rcases r3 with rfl | ⟨r3, r4⟩
    · exact q7
    · rw [show (m + 1) * 4 = m * 4 + 4 by omega] at q7 ⊢
      have := congrArg (List.take (m * 4)) q7
      rw [List.take_take, Nat.min_eq_left (by omega), ← hy, List.take_left] at this
      rw [r4, ← hy, this]
/-- An append onto a fresh empty slice: a new row. -/
theorem wp_copy {P : Program} {Q : Exit → Act → World → Prop} {o : Oper} {a : Act} {w : World} {K : Act → World → Prop} {s x : Operand} {t e : TypeId} (ho : o.op = .call { callee := .builtin .append, args := #[s, x], argTypes := #[t, t] })
    (i : TypeInfo) (z : Value) (size bytes : Nat) (ht : P.underlying t = some (.slice e)) (hi : P.info? e = some i) (hz : i.zero = some z) (hsize : i.size = size) (hby : i.bytes = bytes) (hzs : z.cells.size = size) (hsz : 0 < size)
    (g : Nat) (hs : a.eval s = .slice (some ⟨g, 0, none⟩) 0 0) (ad : Addr) (m c : Nat) (hx : a.eval x = .slice (some ad) m c) (news : List Value) (hl : news.length = m * size)
    (hnews : ∀ j u, news[j]? = some u → w.cell? (ad.add j) = some u) (hm : 0 < m) (h63 : m ≤ maxLen) (hbytes : m * bytes ≤ 140737488355328)
    (h : ∀ g' c' w', Below w.heap.size w w' → w'.ownsRow w.heap.size e size (.slice (some ⟨g', 0, none⟩) m c') m news → K (a.put o.dst (.slice (some ⟨g', 0, none⟩) m c')) w') : o.wp P a w K Q := by
  obtain ⟨v', w', hrun, h1, h2⟩ := run_append_arg_grows (P := P) (w := w) t o.type e i z size bytes ht hi hz hsize hby hzs hsz ⟨g, 0, none⟩ 0 0 [] (by simp) (fun j u hu => by simp at hu) ad m c news hl hnews (by omega) (by omega) (by rw [Nat.zero_add]; exact hbytes)
  rw [Nat.zero_add, List.nil_append] at h1
  have hv : ∃ g' c', v' = .slice (some ⟨g', 0, none⟩) m c' := by
    rcases h1.2 with ⟨_, q⟩ | ⟨g', c', _, q, _⟩
    · omega
    · exact ⟨g', c', q⟩
  obtain ⟨g', c', rfl⟩ := hv
  unfold Oper.wp
  simp only [execOp, ho, resolve, invoke, builtin, Sem.run_bind, Sem.run_pure, Result.andThen_ok, List.map_toArray, List.map_cons, List.map_nil, hs, hx, hrun]
  exact h g' c' w' ⟨h2.os, h2.tape, h2.output, h2.size, fun k hk => h2.block k hk (by simp)⟩ h1
/-- An append of one arc onto a row of m. -/
theorem wp_onto {P : Program} {Q : Exit → Act → World → Prop} {o : Oper} {a : Act} {w : World} {K : Act → World → Prop} {s x : Operand} {t : TypeId} (ho : o.op = .call { callee := .builtin .append, args := #[s, x], argTypes := #[t, t] })
    (i : TypeInfo) (z : Value) (ht : P.underlying t = some (.slice 48)) (hi : P.info? 48 = some i) (hz : i.zero = some z) (hsize : i.size = 4) (hby : i.bytes = 32) (hzs : z.cells.size = 4)
    (B g m c : Nat) (xs : List Value) (hs : a.eval s = .slice (some ⟨g, 0, none⟩) m c) (hown : w.ownsRow B 48 4 (.slice (some ⟨g, 0, none⟩) m c) m xs) (g1 c1 : Nat) (hx : a.eval x = .slice (some ⟨g1, 0, none⟩) 1 c1) (news : List Value) (hl : news.length = 4) (hn1 : Blk w g1 48 news.toArray)
    (h1 : ∀ u ∈ news, u.oneCell' = true) (h63 : m + 1 ≤ maxLen) (hbytes : (m + 1) * 32 ≤ 140737488355328) (hB : B ≤ w.heap.size) (hm0 : 0 < m)
    (h : ∀ g' c' w', RowK B m news w w' → B ≤ w'.heap.size → w'.ownsRow B 48 4 (.slice (some ⟨g', 0, none⟩) (m + 1) c') (m + 1) (xs ++ news) → K (a.put o.dst (.slice (some ⟨g', 0, none⟩) (m + 1) c')) w') : o.wp P a w K Q := by
  have hnews : ∀ j u, news[j]? = some u → w.cell? ((⟨g1, 0, none⟩ : Addr).add j) = some u := fun j u hu => World.news_of_block hn1 j u (by simpa using hu)
  obtain ⟨hlx, ho2⟩ := hown
  rcases ho2 with ⟨hv, _⟩ | ⟨g', c', cur, hv, hgB, hb, hnc, hcm, hcs, htk⟩
  · cases hv
  · obtain ⟨rfl, rfl⟩ : g = g' ∧ c = c' := by
      injection hv with e1 e2 e3
      injection e1 with e1
      injection e1 with e1 _ _
      exact ⟨e1, e3⟩
    by_cases hroom : m + 1 ≤ c
    · have hrun := run_append_room (P := P) w t o.type 48 i ht hi g m c cur hb ⟨g1, 0, none⟩ 1 c1 news (by rw [hl, hsize]) hnews h1 hroom (by rw [hsize, hl, hcs]; omega)
      rw [hsize, hl] at hrun
      obtain ⟨nc, hnc'⟩ : ∃ q, (cur.toList.take (m * 4) ++ news ++ cur.toList.drop (m * 4 + 4)).toArray = q := ⟨_, rfl⟩
      rw [hnc'] at hrun
      have hsz : nc.size = cur.size := by rw [← hnc']; simp [hl, hcs]; omega
      have ht0 : nc.toList = xs ++ news ++ cur.toList.drop (m * 4 + 4) := by rw [← hnc', ← htk]
      have hrow : (w.setRow g nc).heap[g]? = some (.cells nc 48 (0, 0)) := setRow_heap w g cur nc 48 (0, 0) hb
      unfold Oper.wp
      simp only [execOp, ho, resolve, invoke, builtin, Sem.run_bind, Sem.run_pure, Result.andThen_ok, List.map_toArray, List.map_cons, List.map_nil, hs, hx, hrun]
      refine h g c _ ⟨⟨rfl, rfl, rfl, by simp [World.setRow], fun k hk => setRow_other w g k nc (by omega)⟩, fun g2 t2 cur2 ht2 h2 => ?_, fun g2 cur2 h2 => ?_⟩ (by simp [World.setRow]; exact hB) ⟨by rw [List.length_append, hlx, hl]; omega, .inr ⟨g, c, nc, rfl, hgB, hrow, hroom, hcm, by rw [hsz, hcs], ?_⟩⟩
      · have hne : g2 ≠ g := fun e => by
          subst e
          have : Blk w g2 48 cur := hb
          exact h2.ne_ this ht2 rfl
        exact (setRow_other w g g2 nc hne).trans h2
      · by_cases e : g2 = g
        · subst e
          have hcc : cur2 = cur := by
            have h2' : w.heap[g2]? = some (.cells cur2 48 (0, 0)) := h2
            rw [hb] at h2'
            injection h2' with h2'
            injection h2' with h2' _ _
            exact h2'.symm
          subst hcc
          refine ⟨nc, hrow, hsz, Or.inr ⟨by rw [hcs]; omega, ?_⟩⟩
          rw [ht0, htk, show m * 4 + 4 = (xs ++ news).length by rw [List.length_append, hlx, hl], List.take_left]
        · exact ⟨cur2, (setRow_other w g g2 nc e).trans h2, rfl, Or.inl rfl⟩
      · rw [ht0, show (m + 1) * 4 = (xs ++ news).length by rw [List.length_append, hlx, hl]; omega, List.take_left]
    · obtain ⟨v', w', hrun, q1, q2⟩ := run_append_arg_grows (P := P) (w := w) t o.type 48 i z 4 32 ht hi hz hsize hby hzs (by omega) ⟨g, 0, none⟩ m c xs hlx (fun j u hu => by
        rw [Addr.add_lit, Nat.zero_add, cell_of_row w g j cur 48 (0, 0) hb]
        rw [← htk, List.getElem?_take] at hu
        split at hu
        · simpa using hu
        · cases hu) ⟨g1, 0, none⟩ 1 c1 news (by rw [hl]) hnews (by omega) h63 hbytes
      have hbw : Below w.heap.size w w' := ⟨q2.os, q2.tape, q2.output, q2.size, fun k hk => q2.block k hk (by simp)⟩
      have hv' : ∃ g' c', v' = .slice (some ⟨g', 0, none⟩) (m + 1) c' := by
        rcases q1.2 with ⟨_, q⟩ | ⟨g', c', _, q, _⟩
        · omega
        · exact ⟨g', c', q⟩
      obtain ⟨g', c', rfl⟩ := hv'
      unfold Oper.wp
      simp only [execOp, ho, resolve, invoke, builtin, Sem.run_bind, Sem.run_pure, Result.andThen_ok, List.map_toArray, List.map_cons, List.map_nil, hs, hx, hrun]
      exact h g' c' w' (RowK.of_below hB hbw) (Nat.le_trans hB q2.size) (own_base q1 hB)
/-- What the operations of 'FlowNet{Supply: n.Supply, Arcs: append([]Arc{}, n.Arcs...)}' yield. -/
def PhiC (n0 k c1 m c2 B : Nat) (A1 A2 : Option Addr) (As : List Arc4) : Nat → Value → World → Prop
  | 0, v, _ => v = .pointer (some ⟨n0, 0, none⟩)
  | 1, v, _ => v = .slice A1 k c1
  | 2, v, w => ∃ g, v = .slice (some ⟨g, 0, none⟩) 0 0 ∧ Blk w g 48 #[]
  | 3, v, _ => v = .pointer (some ⟨n0, 1, none⟩)
  | 4, v, _ => v = .slice A2 m c2
  | 5, v, w => ∃ g c, v = .slice (some ⟨g, 0, none⟩) m c ∧ w.ownsRow B 48 4 (.slice (some ⟨g, 0, none⟩) m c) m (arcC As)
  | 6, v, w => ∃ g c, v = .agg #[.slice A1 k c1, .slice (some ⟨g, 0, none⟩) m c] ∧ w.ownsRow B 48 4 (.slice (some ⟨g, 0, none⟩) m c) m (arcC As)
  | 7, v, w => ∃ g, v = .pointer (some ⟨g, 0, none⟩) ∧ Blk w g 25 #[.slice none 0 0, .slice none 0 0] ∧ B ≤ g
  | _, _, _ => True
theorem PhiC.stab {n0 k c1 m c2 B : Nat} {A1 A2 : Option Addr} {As : List Arc4} : ∀ (i j : Nat) v w w', i ≠ j → PhiC n0 k c1 m c2 B A1 A2 As j v w → (Below w.heap.size w w' ∧ B ≤ w'.heap.size) → PhiC n0 k c1 m c2 B A1 A2 As j v w' := by
  intro i j v w w' _ h hR
  match j, h with
  | 0, h => exact h
  | 1, h => exact h
  | 2, ⟨g, h1, h2⟩ => exact ⟨g, h1, h2.below hR.1 h2.lt⟩
  | 3, h => exact h
  | 4, h => exact h
  | 5, ⟨g, c, h1, h2⟩ => exact ⟨g, c, h1, own_below h2 hR.1⟩
  | 6, ⟨g, c, h1, h2⟩ => exact ⟨g, c, h1, own_below h2 hR.1⟩
  | 7, ⟨g, h1, h2, h3⟩ => exact ⟨g, h1, h2.below hR.1 h2.lt, h3⟩
  | (n + 8), _ => exact trivial
/-- .. with a further arc behind. -/
def PhiD (n0 k c1 m c2 B : Nat) (A1 A2 : Option Addr) (As : List Arc4) (mo : Arc4) : Nat → Value → World → Prop
  | 0, v, _ => v = .pointer (some ⟨n0, 0, none⟩)
  | 1, v, _ => v = .slice A1 k c1
  | 2, v, w => ∃ g, v = .slice (some ⟨g, 0, none⟩) 0 0 ∧ Blk w g 48 #[]
  | 3, v, _ => v = .pointer (some ⟨n0, 1, none⟩)
  | 4, v, _ => v = .slice A2 m c2
  | 5, v, w => ∃ g c, v = .slice (some ⟨g, 0, none⟩) m c ∧ w.ownsRow B 48 4 (.slice (some ⟨g, 0, none⟩) m c) m (arcC As)
  | 6, v, _ => v = .agg (arcV mo).toArray
  | 7, v, w => ∃ g, v = .slice (some ⟨g, 0, none⟩) 1 1 ∧ Blk w g 48 (arcV mo).toArray
  | 8, v, w => ∃ g c, v = .slice (some ⟨g, 0, none⟩) (m + 1) c ∧ w.ownsRow B 48 4 (.slice (some ⟨g, 0, none⟩) (m + 1) c) (m + 1) (arcC As ++ arcV mo)
  | 9, v, w => ∃ g c, v = .agg #[.slice A1 k c1, .slice (some ⟨g, 0, none⟩) (m + 1) c] ∧ w.ownsRow B 48 4 (.slice (some ⟨g, 0, none⟩) (m + 1) c) (m + 1) (arcC As ++ arcV mo)
  | 10, v, w => ∃ g, v = .pointer (some ⟨g, 0, none⟩) ∧ Blk w g 25 #[.slice none 0 0, .slice none 0 0] ∧ B ≤ g
  | _, _, _ => True
theorem PhiD.stab {n0 k c1 m c2 B : Nat} {A1 A2 : Option Addr} {As : List Arc4} {mo : Arc4} (hm : 0 < m) : ∀ (i j : Nat) v w w', i ≠ j → PhiD n0 k c1 m c2 B A1 A2 As mo j v w → (RowK B m (arcV mo) w w' ∧ B ≤ w'.heap.size) → PhiD n0 k c1 m c2 B A1 A2 As mo j v w' := by
  intro i j v w w' _ h hR
  match j, h with
  | 0, h => exact h
  | 1, h => exact h
  | 2, ⟨g, h1, h2⟩ => exact ⟨g, h1, hR.1.small h2 (by simp)⟩
  | 3, h => exact h
  | 4, h => exact h
  | 5, ⟨g, c, h1, h2⟩ => exact ⟨g, c, h1, hR.1.own h2⟩
  | 6, h => exact h
  | 7, ⟨g, h1, h2⟩ => exact ⟨g, h1, hR.1.small h2 (by simp [arcV]; omega)⟩
  | 8, ⟨g, c, h1, h2⟩ => exact ⟨g, c, h1, hR.1.own1 rfl h2⟩
  | 9, ⟨g, c, h1, h2⟩ => exact ⟨g, c, h1, hR.1.own1 rfl h2⟩
  | 10, ⟨g, h1, h2, h3⟩ => exact ⟨g, h1, hR.1.blk _ _ _ (by decide) h2, h3⟩
  | (n + 11), _ => exact trivial
end Go.Proofs.Ytpgcfeamlkdmpaa
