/-
  The walk of yard.order: the indices of the cars in the order of their blocks. Conditions: the cars lie in memory as they read, and are at most a thousand.
-/
import Derived.Test.YthfoggbaoafpjaaStb
import Derived.Test.YthfoggbaoafpjaaRow
namespace Go.Proofs.Ythfoggbaoafpjaa
open Go.RowKit
def OrdP (w : World) (L : List Car) (e : Ending) (w' : World) : Prop :=
  ∃ (g : Nat) (f : Nat → Int), e = .returned (.slice (some ⟨g, 0, none⟩) L.length L.length) ∧ RowF w' g L.length f ∧ Std (keyL L) L.length f ∧ w.heap.size ≤ g ∧ Below w.heap.size w w'
theorem rowF_zero {w : World} {g n : Nat} {X : Array Value} (h : Blk w g 3 X) (hX : X.toList = List.replicate n (.int .i64 0)) : RowF w g n (fun _ => 0) := by
  have : X = ((List.range n).map fun _ => Value.int .i64 0).toArray := by
    apply Array.ext'
    rw [hX, List.map_const', List.length_range]
  rw [this] at h
  exact h
set_option maxHeartbeats 4000000 in
theorem order_any (L : List Car) (A : Option Addr) (c : Nat) (w : World) (hL : CarR w A L) (hn : L.length ≤ 1000) : Calls Try.prog 35 #[.slice A L.length c] w (OrdP w L) := by
  obtain ⟨X, hX, hmk⟩ := make_eq Try.underlying37 info3 rfl (by decide) L.length (by omega)
  have hB1 : Below w.heap.size w ((w.alloc (.cells #[.slice A L.length c] 24)).alloc (.cells X 3)) := (((Below.refl _ _).alloc (Nat.le_refl _) _).alloc (by simp) _)
  have hV : Blk ((w.alloc (.cells #[.slice A L.length c] 24)).alloc (.cells X 3)) w.heap.size 24 #[.slice A L.length c] := (Blk.new _ _ _).alloc _
  have hR : RowF ((w.alloc (.cells #[.slice A L.length c] 24)).alloc (.cells X 3)) (w.heap.size + 1) L.length (fun _ => 0) := rowF_zero (Blk.of_size _ (by simp) _ _) hX
  have hEN : Env L A c w.heap.size (w.heap.size + 1) ((w.alloc (.cells #[.slice A L.length c] 24)).alloc (.cells X 3)) := ⟨hV.at 0 rfl, hV.lt, by omega, fun hp => by
    obtain ⟨b, off, h1, h2, h3⟩ := hL.at hp
    exact ⟨b, off, h1, by have := hB1.size; omega, by omega, fun i c hi => (h3 i c hi).of (fun o => hB1.cell (p := ⟨b, o, none⟩) h2)⟩⟩
  have HB1 := hid hB1
  have HR := hid hR
  have HEN := hid hEN
  clear hB1 hV hR hEN hL hX
  obtain ⟨n, hnL⟩ : ∃ n, L.length = n := ⟨_, rfl⟩
  have HN := hid hnL
  have HSS := hid (fun (w' : World) (hE : Env L A c w.heap.size (w.heap.size + 1) w') (hR : RowF w' (w.heap.size + 1) L.length (fun i => (i : Int))) => sortStable_any L A c w.heap.size (w.heap.size + 1) L.length w' hE hR hn)
  have HOP : Hid (∀ e w', (∃ (g : Nat) (f : Nat → Int), e = .returned (.slice (some ⟨g, 0, none⟩) n n) ∧ RowF w' g n f ∧ Std (keyL L) n f ∧ w.heap.size ≤ g ∧ Below w.heap.size w w') → OrdP w L e w') := hid (fun e w' h => by unfold OrdP; rw [hnL]; exact h)
  rw [hnL] at hmk HR hn HSS ⊢
  unfold cloV at HSS
  clear hnL
  go_enter Try.func35, Try.ntmps35
  go_upto_region 2 with fail
  obtain ⟨w2, hw2⟩ : ∃ w2, (w.alloc (.cells #[.slice A n c] 24)).alloc (.cells X 3) = w2 := ⟨_, rfl⟩
  have hBw : Hid (Below w.heap.size w w2 ∧ RowF w2 (w.heap.size + 1) n (fun _ => 0) ∧ Env L A c w.heap.size (w.heap.size + 1) w2) := hid (by rw [← hw2, ← HN.out]; exact ⟨HB1.out, by have := HR.out; rw [← HN.out] at this; exact this, HEN.out⟩)
  rw [hw2]
  clear hw2 HB1 HR HEN hmk
  obtain ⟨g, hg⟩ : ∃ g, w.heap.size + 1 = g := ⟨_, rfl⟩
  have HG := hid hg
  rw [hg] at hBw HSS ⊢
  clear hg
  go_wp2_with fail
  go_loopw [10] (fun s10 wr => ∃ i : Nat, i ≤ n ∧ s10 = .int .i64 i ∧ Hid (RowF wr g n (fun p => if p < i then (p : Int) else 0) ∧ Exc (fun k => k = g) w2 wr)) (fun s10 _ => n - (intOf s10).toNat)
  case atStart => exact ⟨0, Nat.zero_le _, rfl, hid ⟨hBw.out.2.1.congr (fun i _ => by rw [if_neg (by omega)]), Exc.refl _ _⟩⟩
  case round =>
    obtain ⟨i, hi, rfl, HH⟩ := hrel
    by_cases hlt : i < n
    · have l0 := HH.out.1.at (i := i) hlt
      have f0 := HH.out.1.frozen i
      have b0 : (i : Int) < (n : Int) := by omega
      go_wp2_with fail
      refine ⟨⟨i + 1, by omega, by go_num, hid ⟨(HH.out.1.set i (i : Int)).congr (fun p hp => ?_), HH.out.2.setCell (p := ⟨g, i, none⟩) (Or.inl rfl) _⟩⟩, by simp [intOf]; omega⟩
      unfold upd
      dsimp only
      by_cases e : p = i
      · rw [if_pos e, if_pos (by omega)]; omega
      · rw [if_neg e]
        by_cases e2 : p < i
        · rw [if_pos e2, if_pos (by omega)]
        · rw [if_neg e2, if_neg (by omega)]
    · have HC := hid (HSS.out wr (hBw.out.2.2.exc HH.out.2) (HH.out.1.congr (fun p hp => by rw [if_pos (by omega)])))
      go_wp2_with fail
      refine HC.out.mono ?_
      rintro e w3 ⟨rfl, f, u1, u2, u3⟩
      have HF : Hid (∃ f, RowF w3 g n f ∧ Std (keyL L) n f ∧ w.heap.size ≤ g ∧ Below w.heap.size w w3) := hid ⟨f, u1, u2, by have := HG.out; omega, hBw.out.1.trans ((HH.out.2.trans (u3.mono (fun _ _ h => h))).belowB hBw.out.1.size (fun k hk e => by have := HG.out; omega))⟩
      clear u1 u2 u3 HC
      go_wp2_with fail
      go_ret
      obtain ⟨f, h1, h2, h3, h4⟩ := HF.out
      exact HOP.out _ _ ⟨g, f, rfl, h1, h2, h3, h4⟩
/-- The order as a list. -/
def ordL (n : Nat) (f : Nat → Int) : List Int := (List.range n).map f
theorem Std.list {k : Int → Int} {n : Nat} {f : Nat → Int} (h : Std k n f) : (ordL n f).Pairwise (Bef k) ∧ ∀ x, x ∈ ordL n f ↔ 0 ≤ x ∧ x < (n : Int) := by
  constructor
  · unfold ordL
    rw [List.pairwise_map]
    exact List.Pairwise.imp_of_mem (fun {a b} ha hb hab => h.done.srt a b (Nat.zero_le _) hab (by simpa using hb)) List.pairwise_lt_range
  · intro x
    unfold ordL
    rw [List.mem_map]
    constructor
    · rintro ⟨i, hi, rfl⟩
      have := h.done.rng i (Nat.zero_le _) (by simpa using hi)
      omega
    · intro hx
      obtain ⟨j, _, h2, h3⟩ := h.sam.fwd x.toNat (Nat.zero_le _) (by omega)
      exact ⟨j, by simpa using h2, by rw [h3]; omega⟩
theorem bef_ext {k : Int → Int} : ∀ {L M : List Int}, L.Pairwise (Bef k) → M.Pairwise (Bef k) → (∀ x, x ∈ L ↔ x ∈ M) → L = M
  | [], [], _, _, _ => rfl
  | [], y :: M, _, _, h => absurd ((h y).2 (List.mem_cons_self ..)) (by simp)
  | x :: L, [], _, _, h => absurd ((h x).1 (List.mem_cons_self ..)) (by simp)
  | x :: L, y :: M, hL, hM, h => by
    have hx := (List.pairwise_cons.1 hL)
    have hy := (List.pairwise_cons.1 hM)
    have hxy : x = y := by
      rcases List.mem_cons.1 ((h x).1 (List.mem_cons_self ..)) with e | e
      · exact e
      · rcases List.mem_cons.1 ((h y).2 (List.mem_cons_self ..)) with e2 | e2
        · exact e2.symm
        · exact absurd ((hy.1 x e).trans (hx.1 y e2)) (fun hh => hh.irrefl)
    subst hxy
    congr 1
    refine bef_ext hx.2 hy.2 (fun z => ⟨fun hz => ?_, fun hz => ?_⟩)
    · rcases List.mem_cons.1 ((h z).1 (List.mem_cons_of_mem _ hz)) with e | e
      · exact absurd (e ▸ hx.1 z hz) (fun hh => hh.irrefl)
      · exact e
    · rcases List.mem_cons.1 ((h z).2 (List.mem_cons_of_mem _ hz)) with e | e
      · exact absurd (e ▸ hy.1 z hz) (fun hh => hh.irrefl)
      · exact e
/-- The indices of the cars in the order of their blocks: such a list. -/
structure Ordd (L : List Car) (l : List Int) : Prop where
  srt : l.Pairwise (Bef (keyL L))
  mem : ∀ x, x ∈ l ↔ 0 ≤ x ∧ x < (L.length : Int)
theorem Ordd.uniq {L : List Car} {l l' : List Int} (h : Ordd L l) (h' : Ordd L l') : l = l' := bef_ext h.srt h'.srt (fun x => (h.mem x).trans (h'.mem x).symm)
theorem Std.ordd {L : List Car} {f : Nat → Int} (h : Std (keyL L) L.length f) : Ordd L (ordL L.length f) := ⟨h.list.1, h.list.2⟩
end Go.Proofs.Ythfoggbaoafpjaa
