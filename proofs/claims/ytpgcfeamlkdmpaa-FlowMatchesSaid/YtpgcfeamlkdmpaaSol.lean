/-
  The solver's memory: rows of cells known by their values; what keeps them. The program is in sight by its types alone.
-/
import Derived.Test.YtpgcfeamlkdmpaaCst
import Derived.Test.YtpgcfeamlkdmpaaReg
import Derived.Laws.AppendOwnNone
namespace Go.Proofs.Ytpgcfeamlkdmpaa
open Go.RowKit
/-- Block g begins with the cells cs. -/
def Row (w : World) (g : Nat) (t : TypeId) (cs : List Value) : Prop := ∃ cur : Array Value, Blk w g t cur ∧ cur.toList.take cs.length = cs
section
variable {w w' : World} {g : Nat} {t : TypeId} {cs : List Value}
theorem Row.lt (h : Row w g t cs) : g < w.heap.size := by obtain ⟨c, hb, _⟩ := h; exact hb.lt
theorem Row.at (h : Row w g t cs) {i : Nat} {v : Value} (hv : cs[i]? = some v) : w.cell? ⟨g, i, none⟩ = some v := by
  obtain ⟨cur, hb, he⟩ := h
  have hi : i < cs.length := (List.getElem?_eq_some_iff.1 hv).1
  refine hb.at i ?_
  rw [← he, List.getElem?_take_of_lt hi] at hv
  rw [← Array.getElem?_toList]; exact hv
theorem Row.frozen (h : Row w g t cs) (i : Nat) : w.frozen? ⟨g, i, none⟩ = false := by obtain ⟨c, hb, _⟩ := h; exact hb.frozen i
theorem Row.drewN (h : Row w g t cs) (n : Nat) : Row (w.drewN n) g t cs := h
theorem Row.drew (h : Row w g t cs) : Row w.drew g t cs := h
theorem Row.alloc (h : Row w g t cs) (o : Obj) : Row (w.alloc o) g t cs := by obtain ⟨c, hb, he⟩ := h; exact ⟨c, hb.alloc o, he⟩
theorem Row.far (h : Row w g t cs) {p : Addr} (hp : g ≠ p.block) (u : Value) : Row (w.setCell p u) g t cs := by obtain ⟨c, hb, he⟩ := h; exact ⟨c, hb.far hp u, he⟩
theorem Row.below {B : Nat} (h : Row w g t cs) (hb : Below B w w') (hg : g < B) : Row w' g t cs := by obtain ⟨c, hc, he⟩ := h; exact ⟨c, hc.below hb hg, he⟩
theorem Row.keep (h : Row w g t cs) (hb : Below w.heap.size w w') : Row w' g t cs := h.below hb h.lt
theorem Row.exc {C : Nat → Prop} (h : Row w g t cs) (hb : Exc C w w') (hg : ¬ C g) : Row w' g t cs := by obtain ⟨c, hc, he⟩ := h; exact ⟨c, hc.exc hb hg, he⟩
theorem Row.grown {row : Option Nat} (h : Row w g t cs) (hb : w.grownBy w' row) (hg : some g ≠ row) : Row w' g t cs := by obtain ⟨c, hc, he⟩ := h; exact ⟨c, hc.grown hb hg, he⟩
theorem Row.set_ (h : Row w g t cs) (i : Nat) (u : Value) : Row (w.setCell ⟨g, i, none⟩ u) g t (cs.set i u) := by
  obtain ⟨cur, hb, he⟩ := h
  refine ⟨_, hb.set_ i u, ?_⟩
  rw [List.length_set, Array.toList_setIfInBounds, List.take_set, he]
theorem Row.ne_ {g' : Nat} {t' : TypeId} {cs' : List Value} (h : Row w g t cs) (h' : Row w g' t' cs') (hne : t ≠ t') : g ≠ g' := by
  obtain ⟨c, hb, _⟩ := h
  obtain ⟨c', hb', _⟩ := h'
  exact hb.ne_ hb' hne
theorem Row.of_blk {cur : Array Value} (h : Blk w g t cur) : Row w g t cur.toList := ⟨cur, h, by rw [List.take_length]⟩
theorem Row.of_own {B n cap : Nat} {xs : List Value} (h : w.ownsRow B t 1 (.slice (some ⟨g, 0, none⟩) n cap) n xs) : Row w g t xs := by
  obtain ⟨h1, h2⟩ := h
  rcases h2 with ⟨h2, _⟩ | ⟨g', c', cur, h2, _, hb, _, _, _, he⟩
  · cases h2
  · injection h2 with h2 _ _
    injection h2 with h2
    injection h2 with h2 _ _
    subst h2
    exact ⟨cur, hb, by rw [h1]; exact he⟩
theorem Row.own {B n cap : Nat} (h : ∃ cur : Array Value, Blk w g t cur ∧ cur.size = cap ∧ cur.toList.take n = cs) (hB : B ≤ g) (hn : n ≤ cap) (hc : cap ≤ maxLen) (hl : cs.length = n) : w.ownsRow B t 1 (.slice (some ⟨g, 0, none⟩) n cap) n cs := by
  obtain ⟨cur, hb, hs, he⟩ := h
  exact ⟨by omega, .inr ⟨g, cap, cur, rfl, hB, hb, hn, hc, by omega, by rw [Nat.mul_one]; exact he⟩⟩
end
/-- Block g begins with the numbers of L. -/
def RowI (w : World) (g : Nat) (L : List Int) : Prop := Row w g 3 (intC L)
theorem RowI.at {w : World} {g : Nat} {L : List Int} (h : RowI w g L) (i : Nat) (hi : i < L.length) : w.cell? ⟨g, i, none⟩ = some (.int .i64 (L.getD i 0)) := Row.at h (intC_get L i hi)
theorem RowI.set_ {w : World} {g : Nat} {L : List Int} (h : RowI w g L) (i : Nat) (u : Int) : RowI (w.setCell ⟨g, i, none⟩ (.int .i64 u)) g (L.set i u) := by
  have := Row.set_ h i (.int .i64 u)
  rwa [intC_set] at this
theorem wp_make_row {P : Program} {Q : Exit → Act → World → Prop} {o : Oper} {a : Act} {w : World} {K : Act → World → Prop} {t e : TypeId} {d : Tmp} (hop : o.op = .makeSlice t (.tmp d) (.tmp d)) (n : Nat) (hd : a.tmps.getD d undef = .int .i64 n)
    (ht : P.underlying t = some (.slice e)) {i : TypeInfo} {z : Value} (hi : P.info? e = some i) (hz : i.zero = some z) (hb : i.bytes ≤ 1000) (hn : n ≤ 10000000)
    (h : K (a.put o.dst (.slice (some ⟨w.heap.size, 0, none⟩) n n)) (w.alloc (.cells (madeCells z.cells (n * i.size)) e))) : o.wp P a w K Q := by
  have hbb : (i.bytes : Int) * (n : Int) ≤ 281474976710656 := by
    have h1 : i.bytes * n ≤ 1000 * 10000000 := Nat.mul_le_mul hb hn
    have h2 : ((i.bytes * n : Nat) : Int) ≤ 281474976710656 := by omega
    rwa [Int.natCast_mul] at h2
  have hmk := run_make (P := P) w t e i z ht hi hz .i64 .i64 n n (by omega) (Int.le_refl _) hbb (by omega)
  simp only [Int.toNat_natCast] at hmk
  have hev : a.eval (.tmp d) = .int .i64 n := hd
  unfold Oper.wp
  simp [execOp, hop, hev, hmk, Result.andThen]
  exact h
theorem made_one {w : World} {e : TypeId} {z : Value} (n : Nat) (hz : z.cells = #[z]) : Row (w.alloc (.cells (madeCells z.cells (n * 1)) e)) w.heap.size e (List.replicate n z) := by
  have := Row.of_blk (Blk.new w e (madeCells z.cells (n * 1)))
  rw [Nat.mul_one, hz, toList_madeCells_one] at this
  rw [Nat.mul_one, hz]; exact this
theorem wp_append_any {P : Program} {Q : Exit → Act → World → Prop} {o : Oper} {a : Act} {w : World} {K : Act → World → Prop} {s x : Operand} {t e : TypeId} (ho : o.op = .call { callee := .builtin .append, args := #[s, x], argTypes := #[t, t] })
    (base : Nat) (i : TypeInfo) (z : Value) (size bytes : Nat) (ht : P.underlying t = some (.slice e)) (hi : P.info? e = some i) (hz : i.zero = some z) (hsize : i.size = size) (hby : i.bytes = bytes) (hzs : z.cells.size = size) (hsz : 0 < size)
    (v : Value) (n : Nat) (xs : List Value) (hs : a.eval s = v) (hown : w.ownsRow base e size v n xs) (A : Option Addr) (m c : Nat) (hx : a.eval x = .slice A m c) (hA : A = none → m = 0 ∧ c = 0) (news : List Value) (hl : news.length = m * size)
    (hnews : ∀ ad, A = some ad → ∀ j u, news[j]? = some u → w.cell? (ad.add j) = some u) (h1 : ∀ u ∈ news, u.oneCell' = true) (h63 : n + m ≤ maxLen) (hbytes : (n + m) * bytes ≤ 140737488355328) (hbase : base ≤ w.heap.size)
    (h : ∀ v' w', w'.ownsRow base e size v' (n + m) (xs ++ news) → w.grownBy w' v.ownBlock → (v'.ownBlock = v.ownBlock ∨ v'.ownBlock = some w.heap.size) → (v' = .slice none 0 0 → v = .slice none 0 0) → K (a.put o.dst v') w') : o.wp P a w K Q := by
  cases A with
  | none =>
    obtain ⟨rfl, rfl⟩ := hA rfl
    have hn : news = [] := List.eq_nil_of_length_eq_zero (by simpa using hl)
    subst hn
    have hrun := run_append_owned_none (P := P) (w := w) base t o.type e i size ht hi v n xs hown
    unfold Oper.wp
    simp [execOp, ho, resolve, invoke, builtin, hs, hx, hrun, Result.andThen]
    exact h _ _ (by simpa using hown) ⟨rfl, rfl, rfl, Nat.le_refl _, fun _ _ _ => rfl⟩ (Or.inl rfl) (fun h => h)
  | some ad =>
    obtain ⟨v', w', hrun, ho', hg, hnn, hb⟩ := run_append_own_at (P := P) w base t o.type e i z size bytes ht hi hz hsize hby hzs hsz v n xs hown ad m c news hl (hnews ad rfl) h1 h63 hbytes hbase
    unfold Oper.wp
    simp [execOp, ho, resolve, invoke, builtin, hs, hx, hrun, Result.andThen]
    exact h _ _ ho' hg hb (fun e => (hnn.1 e).1)
theorem below_setRow_same {w : World} {g : Nat} {e : TypeId} {cs : Array Value} (hb : Blk w g e cs) : Below w.heap.size w (w.setRow g cs) :=
  ⟨rfl, rfl, rfl, by simp [World.setRow], fun k hk => by
    by_cases h : k = g
    · subst h; rw [setRow_heap w k cs cs e (0, 0) hb]; exact hb.symm
    · exact setRow_other w g k cs h⟩
theorem wp_append_fresh {P : Program} {Q : Exit → Act → World → Prop} {o : Oper} {a : Act} {w : World} {K : Act → World → Prop} {s x : Operand} {t e : TypeId} (ho : o.op = .call { callee := .builtin .append, args := #[s, x], argTypes := #[t, t] })
    (i : TypeInfo) (z : Value) (bytes : Nat) (ht : P.underlying t = some (.slice e)) (hi : P.info? e = some i) (hz : i.zero = some z) (hsize : i.size = 1) (hby : i.bytes = bytes)
    (g : Nat) (hs : a.eval s = .slice (some ⟨g, 0, none⟩) 0 0) (hb : Blk w g e #[]) (A : Option Addr) (m c : Nat) (hx : a.eval x = .slice A m c) (hA : A = none → m = 0 ∧ c = 0) (news : List Value) (hl : news.length = m)
    (hnews : ∀ ad, A = some ad → ∀ j u, news[j]? = some u → w.cell? (ad.add j) = some u) (h1 : ∀ u ∈ news, u.oneCell' = true) (h63 : m ≤ maxLen) (hbytes : m * bytes ≤ 140737488355328)
    (h : ∀ g' c' w', Below w.heap.size w w' → Row w' g' e news → (m = 0 → g' = g) → (0 < m → g' = w.heap.size) → K (a.put o.dst (.slice (some ⟨g', 0, none⟩) m c')) w') : o.wp P a w K Q := by
  cases A with
  | none =>
    obtain ⟨rfl, rfl⟩ := hA rfl
    have hn : news = [] := List.eq_nil_of_length_eq_zero hl
    subst hn
    have hrun := run_append_owned_none (P := P) (w := w) 0 t o.type e i 1 ht hi (.slice (some ⟨g, 0, none⟩) 0 0) 0 [] ⟨rfl, .inr ⟨g, 0, #[], rfl, Nat.zero_le _, hb, Nat.le_refl _, by unfold maxLen; omega, rfl, rfl⟩⟩
    unfold Oper.wp
    simp [execOp, ho, resolve, invoke, builtin, hs, hx, hrun, Result.andThen]
    exact h g 0 w (Below.refl _ _) ⟨#[], hb, rfl⟩ (fun _ => rfl) (fun h => absurd h (by omega))
  | some ad =>
    rcases Nat.eq_zero_or_pos m with hm | hm
    · subst hm
      have hn : news = [] := List.eq_nil_of_length_eq_zero hl
      subst hn
      have hrun := run_append_room (P := P) w t o.type e i ht hi g 0 0 #[] hb ad 0 c [] (by simp) (fun j u hu => by simp at hu) (by simp) (by omega) (by simp)
      unfold Oper.wp
      simp [execOp, ho, resolve, invoke, builtin, hs, hx, Result.andThen]
      simp at hrun
      simp [hrun]
      exact h g 0 _ (below_setRow_same hb) ⟨#[], setRow_heap w g #[] #[] e (0, 0) hb, rfl⟩ (fun _ => rfl) (fun h => absurd h (by omega))
    · have hr := run_append_grow (P := P) w t o.type e i z ht hi hz ⟨g, 0, none⟩ 0 0 [] (by simp) (fun j v hv => by simp at hv) ad m c news (by rw [hl, hsize, Nat.mul_one]) (hnews ad rfl) (by omega) (by simp only [maxLen] at h63; omega) (by rw [hby]; exact growslice_fits (by omega) (by simpa using hbytes))
      simp only [Nat.zero_add] at hr
      unfold Oper.wp
      simp only [execOp, ho, resolve, invoke, builtin, Sem.run_bind, Sem.run_pure, Result.andThen_ok, List.map_toArray, List.map_cons, List.map_nil, hs, hx, hr]
      refine h w.heap.size _ _ ((Below.refl _ _).drew.alloc (Nat.le_refl _) _) ?_ (fun h => absurd h (by omega)) (fun _ => rfl)
      refine ⟨_, Blk.new w.drew e _, ?_⟩
      simp
/-- The arcs that begin (side false) or end (side true) at a node, among the first i. -/
def sideN (N : Net) (s : Bool) (j : Nat) : Nat := if s then N.t j else N.f j
def side (N : Net) (s : Bool) (i v : Nat) : List Int := ((List.range i).filter fun j => decide (sideN N s j = v)).map (fun (j : Nat) => (j : Int))
theorem side_succ (N : Net) (s : Bool) (i v : Nat) : side N s (i + 1) v = side N s i v ++ (if sideN N s i = v then [(i : Int)] else []) := by
  unfold side
  rw [List.range_succ, List.filter_append, List.map_append]
  by_cases h : sideN N s i = v
  · rw [if_pos h]; simp [h]
  · rw [if_neg h]; simp [h]
theorem side_len (N : Net) (s : Bool) (i v : Nat) : (side N s i v).length ≤ i := by
  unfold side; rw [List.length_map]; exact Nat.le_trans (List.length_filter_le _ _) (by simp)
theorem side_mem {N : Net} {s : Bool} {i v : Nat} {x : Int} : x ∈ side N s i v ↔ ∃ j : Nat, x = j ∧ j < i ∧ sideN N s j = v := by
  unfold side
  simp only [List.mem_map, List.mem_filter, List.mem_range, decide_eq_true_eq]
  constructor
  · rintro ⟨j, ⟨h1, h2⟩, rfl⟩; exact ⟨j, rfl, h1, h2⟩
  · rintro ⟨j, rfl, h1, h2⟩; exact ⟨j, ⟨h1, h2⟩, rfl⟩
end Go.Proofs.Ytpgcfeamlkdmpaa
