/-
  The walks of the library's symMergeCmpFunc, stableCmpFunc and SortStableFunc at the cars' indices. Condition: the row holds the indices in their order.
-/
import Derived.Test.YthfoggbaoafpjaaSyC
namespace Go.Proofs.Ythfoggbaoafpjaa
open Go.RowKit
theorem sym_any (L : List Car) (A : Option Addr) (c cb g n cap : Nat) (hn : n ≤ 100000) : ∀ (d a m b : Nat) (f : Nat → Int) (w : World), b - a ≤ d → Env L A c cb g w → RowF w g n f → Idx L.length f a b → Pre (keyL L) f a m b → a < m → m < b → b ≤ n →
    Calls Try.prog 81 #[.slice (some ⟨g, 0, none⟩) n cap, .int .i64 a, .int .i64 m, .int .i64 b, cloV cb] w (RowP w g n (Mrg (keyL L) a b f)) := by
  intro d
  induction d with
  | zero => intro a m b f w h0 _ _ _ _ h1 h2 _; omega
  | succ d ih =>
    intro a m b f w h0 hE hR hI hP h1 h2 h3
    by_cases e1 : m = a + 1
    · exact symA_any L A c cb g n cap a m b f w hE hR hI hP h1 h2 h3 hn e1
    · by_cases e2 : b = m + 1
      · exact symB_any L A c cb g n cap a m b f w hE hR hI hP h1 h2 h3 hn e1 e2
      · exact symC_any L A c cb g n cap a m b f w hE hR hI hP h1 h2 h3 hn e1 e2 (fun a' m' b' f' w' hd => ih a' m' b' f' w' (by omega))
/-! ### Blocks -/
/-- From 0 to hi: full blocks of bs, each sorted. -/
inductive Seg (k : Int → Int) (h : Nat → Int) (bs n : Nat) : Nat → Prop
  | nil : Seg k h bs n 0
  | snoc {mid : Nat} : Seg k h bs n mid → Done k h mid (mid + bs) → mid + bs ≤ n → Seg k h bs n (mid + bs)
/-- From lo to n: blocks of bs, the last perhaps shorter, each sorted. -/
inductive Blks (k : Int → Int) (h : Nat → Int) (bs n : Nat) : Nat → Prop
  | fin {lo : Nat} : n ≤ lo → Blks k h bs n lo
  | cons {lo : Nat} : lo < n → Done k h lo (min (lo + bs) n) → Blks k h bs n (lo + bs) → Blks k h bs n lo
section
variable {k : Int → Int} {h h' : Nat → Int} {bs n lo : Nat}
theorem Seg.congr (s : Seg k h bs n lo) (he : ∀ i, i < lo → h' i = h i) : Seg k h' bs n lo := by
  induction s with
  | nil => exact Seg.nil
  | snoc s hd hn ih => exact Seg.snoc (ih (fun i hi => he i (by omega))) (hd.of_same (fun i h1 h2 => he i h2)) hn
theorem Blks.congr (s : Blks k h bs n lo) (he : ∀ i, lo ≤ i → h' i = h i) : Blks k h' bs n lo := by
  induction s with
  | fin hn => exact Blks.fin hn
  | cons hl hd s ih => exact Blks.cons hl (hd.of_same (fun i h1 h2 => he i h1)) (ih (fun i hi => he i (by omega)))
theorem Seg.join (s : Seg k h bs n lo) (b : Blks k h bs n lo) : Blks k h bs n 0 := by
  induction s with
  | nil => exact b
  | @snoc mid s hd hn ih =>
    by_cases hb : mid < n
    · exact ih (Blks.cons hb (by rw [Nat.min_eq_left hn]; exact hd) b)
    · exact ih (Blks.fin (by omega))
theorem Blks.two (s : Blks k h bs n lo) (hb : 0 < bs) (hl : lo + 2 * bs ≤ n) : Done k h lo (lo + bs) ∧ Done k h (lo + bs) (lo + 2 * bs) ∧ Blks k h bs n (lo + 2 * bs) := by
  cases s with
  | fin hn => omega
  | cons hl1 hd s =>
    cases s with
    | fin hn => omega
    | cons hl2 hd2 s =>
      rw [Nat.min_eq_left (by omega)] at hd hd2
      rw [show lo + bs + bs = lo + 2 * bs by omega] at hd2 s
      exact ⟨hd, hd2, s⟩
theorem Blks.last2 (s : Blks k h bs n lo) (hl : n < lo + 2 * bs) (h1 : lo + bs < n) : Done k h lo (lo + bs) ∧ Done k h (lo + bs) n := by
  cases s with
  | fin hn => omega
  | cons hl1 hd s =>
    cases s with
    | fin hn => omega
    | cons hl2 hd2 s =>
      rw [Nat.min_eq_left (by omega)] at hd
      rw [Nat.min_eq_right (by omega)] at hd2
      exact ⟨hd, hd2⟩
theorem Blks.last1 (s : Blks k h bs n lo) (h1 : n ≤ lo + bs) : lo < n → Done k h lo n := fun hl => by
  cases s with
  | fin hn => omega
  | cons hl1 hd s => rwa [Nat.min_eq_right h1] at hd
theorem Blks.one (hd : lo < n → Done k h lo n) (h1 : n ≤ lo + bs) : Blks k h bs n lo := by
  by_cases hl : lo < n
  · exact Blks.cons hl (by rw [Nat.min_eq_right h1]; exact hd hl) (Blks.fin h1)
  · exact Blks.fin (by omega)
theorem Seg.le (s : Seg k h bs n lo) : lo ≤ n := by
  cases s with
  | nil => omega
  | snoc _ _ hn => exact hn
end
/-- What the sort comes to. -/
structure Std (k : Int → Int) (n : Nat) (f : Nat → Int) : Prop where
  done : Done k f 0 n
  sam : Sam 0 n (fun i => (i : Int)) f
set_option maxHeartbeats 8000000 in
set_option maxRecDepth 100000 in
theorem stable_any (L : List Car) (A : Option Addr) (c cb g cap : Nat) (w : World) (hE : Env L A c cb g w) (hR : RowF w g L.length (fun i => (i : Int))) (hn : L.length ≤ 1000) :
    Calls Try.prog 68 #[.slice (some ⟨g, 0, none⟩) L.length cap, .int .i64 L.length, cloV cb] w (RowP w g L.length (Std (keyL L) L.length)) := by
  have HR := hid hR
  have HE := hid hE
  clear hR hE
  obtain ⟨n, hnL⟩ : ∃ n, L.length = n := ⟨_, rfl⟩
  have HNL := hid hnL
  rw [hnL] at HR hn ⊢
  clear hnL
  have HINS := hid (fun a b f w' (hE : Env L A c cb g w') (hR : RowF w' g n f) (hi : Idx L.length f a b) (hinc : ∀ i j, a ≤ i → i < j → j < b → f i < f j) (hab : a ≤ b) (hbn : b ≤ n) => insSort_any L A c cb g n cap a b f w' hE hR hi hinc hab hbn (by omega))
  have HSYM := hid (fun a m b f w' => sym_any L A c cb g n cap (by omega) (b - a) a m b f w' (Nat.le_refl _))
  unfold cloV at HINS HSYM ⊢
  go_enter Try.func68, Try.ntmps68
  go_wp2_with fail
  go_loopw [7, 8] (fun s7 s8 wr => ∃ a : Nat, a ≤ n ∧ s7 = .int .i64 a ∧ s8 = .int .i64 ((a + 20 : Nat) : Int) ∧ ∃ h : Nat → Int, Hid (RowF wr g n h ∧ Seg (keyL L) h 20 n a ∧ (∀ i, a ≤ i → h i = i) ∧ Sam 0 n (fun i => (i : Int)) h ∧ Exc (fun k => k = g) w wr)) (fun s7 _ _ => n - (intOf s7).toNat)
  case atStart => exact ⟨0, Nat.zero_le _, rfl, rfl, fun i => (i : Int), hid ⟨HR.out, Seg.nil, fun _ _ => rfl, Sam.refl _ _ _, Exc.refl _ _⟩⟩
  case round =>
    obtain ⟨a, han, rfl, rfl, h, HH⟩ := hrel
    obtain ⟨b, hb⟩ : ∃ b, a + 20 = b := ⟨_, rfl⟩
    have HB := hid hb
    have hab : a < b := by omega
    have hb2 : b ≤ 1020 := by omega
    rw [hb]
    clear hb
    by_cases hle : b ≤ n
    · have HC := hid (HINS.out a b h wr (HE.out.exc HH.out.2.2.2.2) HH.out.1 (fun i h1 h2 => by have := HH.out.2.2.1 i h1; have := HNL.out; omega) (fun i j h1 h2 h3 => by have := HH.out.2.2.1 i h1; have := HH.out.2.2.1 j (by omega); omega) (by omega) hle)
      go_wp2_with fail
      refine HC.out.mono ?_
      rintro e w2 ⟨rfl, h', u1, u2, u3⟩
      have HN : Hid (RowF w2 g n h' ∧ Seg (keyL L) h' 20 n b ∧ (∀ i, b ≤ i → h' i = i) ∧ Sam 0 n (fun i => (i : Int)) h' ∧ Exc (fun k => k = g) w w2) := hid ⟨u1, by
        have e1 := HB.out
        rw [← e1]
        refine Seg.snoc (HH.out.2.1.congr (fun i hi => u2.sam.out i (by omega))) (Done.sort (f := h) (fun i h1 h2 => HH.out.2.2.1 i h1) (by rw [e1]; exact u2)) (by omega), fun i hi => by rw [u2.sam.out i (by omega)]; exact HH.out.2.2.1 i (by omega), HH.out.2.2.2.1.trans (u2.sam.wide (Nat.zero_le _) hle), HH.out.2.2.2.2.trans (u3.mono (fun _ _ h => h))⟩
      clear u1 u2 u3 HC
      go_wp2_with fail
      exact ⟨⟨b, hle, rfl, by go_num, h', HN⟩, by simp [intOf]; omega⟩
    · have HC := hid (HINS.out a n h wr (HE.out.exc HH.out.2.2.2.2) HH.out.1 (fun i h1 h2 => by have := HH.out.2.2.1 i h1; have := HNL.out; omega) (fun i j h1 h2 h3 => by have := HH.out.2.2.1 i h1; have := HH.out.2.2.1 j (by omega); omega) han (Nat.le_refl _))
      go_wp2_with fail
      refine HC.out.mono ?_
      rintro e w2 ⟨rfl, h', u1, u2, u3⟩
      have HN : Hid (RowF w2 g n h' ∧ Blks (keyL L) h' 20 n 0 ∧ Sam 0 n (fun i => (i : Int)) h' ∧ Exc (fun k => k = g) w w2) := hid ⟨u1, by
        have e1 := HB.out
        refine Seg.join (HH.out.2.1.congr (fun i hi => u2.sam.out i (by omega))) (Blks.one (fun _ => Done.sort (f := h) (fun i h1 h2 => HH.out.2.2.1 i h1) u2) (by omega)), HH.out.2.2.2.1.trans (u2.sam.wide (Nat.zero_le _) (Nat.le_refl _)), HH.out.2.2.2.2.trans (u3.mono (fun _ _ h => h))⟩
      clear u1 u2 u3 HC
      go_wp2_with fail
      go_loopw [6] (fun s6 wv => ∃ bs : Nat, 0 < bs ∧ bs ≤ 100000 ∧ s6 = .int .i64 bs ∧ ∃ h : Nat → Int, Hid (RowF wv g n h ∧ Blks (keyL L) h bs n 0 ∧ Sam 0 n (fun i => (i : Int)) h ∧ Exc (fun k => k = g) w wv)) (fun s6 _ => n - (intOf s6).toNat)
      case atStart => exact ⟨20, by omega, by omega, rfl, h', HN⟩
      case round =>
        obtain ⟨bs, hbs0, hbs1, rfl, h1, HJ⟩ := hrel
        clear HN
        by_cases hlt : bs < n
        · obtain ⟨b2, hb2e⟩ : ∃ b2, 2 * bs = b2 := ⟨_, rfl⟩
          have w0 : IntKind.i64.wrap (2 * (bs : Int)) = (b2 : Int) := by rw [IntWalk.i64_in _ (by omega)]; omega
          have HB2 := hid hb2e
          have hb2l : bs < b2 := by omega
          have hb2u : b2 ≤ 2000 := by omega
          clear hb2e
          go_wp2_with fail
          go_loopw [7, 8] (fun s7 s8 wx => ∃ a : Nat, a ≤ n ∧ s7 = .int .i64 a ∧ s8 = .int .i64 ((a + b2 : Nat) : Int) ∧ ∃ h : Nat → Int, Hid (RowF wx g n h ∧ Seg (keyL L) h b2 n a ∧ Blks (keyL L) h bs n a ∧ Sam 0 n (fun i => (i : Int)) h ∧ Exc (fun k => k = g) w wx)) (fun s7 _ _ => n - (intOf s7).toNat)
          case atStart => exact ⟨0, Nat.zero_le _, rfl, by simp, h1, hid ⟨HJ.out.1, Seg.nil, HJ.out.2.1, HJ.out.2.2.1, HJ.out.2.2.2⟩⟩
          case round =>
            obtain ⟨a', han', rfl, rfl, h2, HK⟩ := hrel
            obtain ⟨e', he'⟩ : ∃ e', a' + b2 = e' := ⟨_, rfl⟩
            obtain ⟨m', hm'⟩ : ∃ m', a' + bs = m' := ⟨_, rfl⟩
            have wm : IntKind.i64.wrap ((a' : Int) + (bs : Int)) = (m' : Int) := by rw [IntWalk.i64_in _ (by omega)]; omega
            have HEE := hid he'
            have HMM := hid hm'
            have hme : m' < e' := by omega
            have ham : a' < m' := by omega
            have hee : e' ≤ 4000 := by omega
            rw [he']
            have we : IntKind.i64.wrap ((e' : Int) + (b2 : Int)) = ((e' + b2 : Nat) : Int) := by rw [IntWalk.i64_in _ (by omega)]; omega
            clear he' hm'
            have HIX : Hid (Idx L.length h2 0 n) := hid (by rw [HNL.out]; exact HK.out.2.2.2.1.all (p := fun x => 0 ≤ x ∧ x < (n : Int)) (fun i h1 h2 => by omega))
            by_cases hle2 : e' ≤ n
            · have HD : Hid (Done (keyL L) h2 a' m' ∧ Done (keyL L) h2 m' e' ∧ Blks (keyL L) h2 bs n e') := hid (by
                have e1 := HEE.out
                have e2 := HMM.out
                have e3 := HB2.out
                have := HK.out.2.2.1.two hbs0 (by omega)
                rwa [e2, show a' + 2 * bs = e' by omega] at this)
              have HC := hid (HSYM.out a' m' e' h2 wr (HE.out.exc HK.out.2.2.2.2) HK.out.1 (fun i q1 q2 => HIX.out i (by omega) (by omega)) (HD.out.1.pre HD.out.2.1) ham hme hle2)
              go_wp2_with fail
              refine HC.out.mono ?_
              rintro e w3 ⟨rfl, h3, u1, u2, u3⟩
              have HN : Hid (RowF w3 g n h3 ∧ Seg (keyL L) h3 b2 n e' ∧ Blks (keyL L) h3 bs n e' ∧ Sam 0 n (fun i => (i : Int)) h3 ∧ Exc (fun k => k = g) w w3) := hid ⟨u1, by
                have e1 := HEE.out
                have := Done.merge HD.out.1 HD.out.2.1 u2 (by omega) (by omega)
                rw [← e1] at this ⊢
                exact Seg.snoc (HK.out.2.1.congr (fun i hi => u2.sam.out i (by omega))) this (by omega), HD.out.2.2.congr (fun i hi => u2.sam.out i (by omega)), HK.out.2.2.2.1.trans (u2.sam.wide (Nat.zero_le _) hle2), HK.out.2.2.2.2.trans (u3.mono (fun _ _ h => h))⟩
              clear u1 u2 u3 HC
              go_wp2_with fail
              exact ⟨⟨e', hle2, rfl, by go_num, h3, HN⟩, by simp [intOf]; omega⟩
            · have wd : IntKind.i64.wrap ((bs : Int) * 2) = (b2 : Int) := by have := HB2.out; rw [IntWalk.i64_in _ (by omega)]; omega
              by_cases hmn : m' < n
              · have HD : Hid (Done (keyL L) h2 a' m' ∧ Done (keyL L) h2 m' n) := hid (by
                  have e1 := HEE.out
                  have e2 := HMM.out
                  have e3 := HB2.out
                  have := HK.out.2.2.1.last2 (by omega) (by omega)
                  rwa [e2] at this)
                have HC := hid (HSYM.out a' m' n h2 wr (HE.out.exc HK.out.2.2.2.2) HK.out.1 (fun i q1 q2 => HIX.out i (by omega) (by omega)) (HD.out.1.pre HD.out.2) ham hmn (Nat.le_refl _))
                go_wp2_with fail
                refine HC.out.mono ?_
                rintro e w3 ⟨rfl, h3, u1, u2, u3⟩
                have HN : Hid (RowF w3 g n h3 ∧ Blks (keyL L) h3 b2 n 0 ∧ Sam 0 n (fun i => (i : Int)) h3 ∧ Exc (fun k => k = g) w w3) := hid ⟨u1, by
                  have e1 := HEE.out
                  have := Done.merge HD.out.1 HD.out.2 u2 (by omega) (by omega)
                  exact Seg.join (HK.out.2.1.congr (fun i hi => u2.sam.out i (by omega))) (Blks.one (fun _ => this) (by omega)), HK.out.2.2.2.1.trans (u2.sam.wide (Nat.zero_le _) (Nat.le_refl _)), HK.out.2.2.2.2.trans (u3.mono (fun _ _ h => h))⟩
                clear u1 u2 u3 HC
                go_wp2_with fail
                exact ⟨⟨b2, by omega, by omega, by go_num, h3, HN⟩, by simp [intOf]; omega⟩
              · have HN : Hid (RowF wr g n h2 ∧ Blks (keyL L) h2 b2 n 0 ∧ Sam 0 n (fun i => (i : Int)) h2 ∧ Exc (fun k => k = g) w wr) := hid ⟨HK.out.1, by
                  have e1 := HEE.out
                  have e2 := HMM.out
                  exact Seg.join HK.out.2.1 (Blks.one (HK.out.2.2.1.last1 (by omega)) (by omega)), HK.out.2.2.2.1, HK.out.2.2.2.2⟩
                go_wp2_with fail
                exact ⟨⟨b2, by omega, by omega, by go_num, h2, HN⟩, by simp [intOf]; omega⟩
        · have HF : Hid (Std (keyL L) n h1) := hid ⟨by
            by_cases h0 : 0 < n
            · exact HJ.out.2.1.last1 (by omega) h0
            · exact ⟨fun i j q1 q2 q3 => by omega, fun i q1 q2 => by omega⟩, HJ.out.2.2.1⟩
          go_wp2_with fail
          refine bodyPost_end (results_none rfl _ _ _) rfl ?_
          exact ⟨rfl, h1, HJ.out.1, HF.out, HJ.out.2.2.2⟩
set_option maxHeartbeats 2000000 in
theorem sortStable_any (L : List Car) (A : Option Addr) (c cb g cap : Nat) (w : World) (hE : Env L A c cb g w) (hR : RowF w g L.length (fun i => (i : Int))) (hn : L.length ≤ 1000) :
    Calls Try.prog 53 #[.slice (some ⟨g, 0, none⟩) L.length cap, cloV cb] w (RowP w g L.length (Std (keyL L) L.length)) := by
  have HC := hid (stable_any L A c cb g cap w hE hR hn)
  clear hE hR
  unfold cloV at *
  go_enter Try.func53, Try.ntmps53
  go_wp2_with fail
  refine HC.out.mono ?_
  rintro e w2 ⟨rfl, hr⟩
  have HF := hid hr
  clear hr
  go_wp2_with fail
  refine bodyPost_end (results_none rfl _ _ _) rfl ?_
  exact ⟨rfl, HF.out⟩
end Go.Proofs.Ythfoggbaoafpjaa
