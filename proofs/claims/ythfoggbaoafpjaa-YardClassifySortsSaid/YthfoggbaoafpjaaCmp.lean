/-
  The walks of cmp.Compare at numbers, and of the closure by which the cars' indices are compared. Conditions: the cars lie in memory as they read, the indices are theirs.
-/
import Derived.Test.YthfoggbaoafpjaaRot
namespace Go.Proofs.Ythfoggbaoafpjaa
open Go.RowKit
theorem nan_any (x : Int) (w : World) : Calls Try.prog 62 #[.int .i64 x] w fun e w' => e = .returned (.bool false) ∧ w = w' := by
  have k0 : (x != x) = false := by simp
  go_enter Try.func62, Try.ntmps62
  go_wp2_with fail
  go_ret
  exact ⟨rfl, rfl⟩
def cmpI (x y : Int) : Int := if x < y then -1 else if y < x then 1 else 0
theorem cmpI_neg (x y : Int) : cmpI x y < 0 ↔ x < y := by unfold cmpI; split <;> (try split) <;> omega
theorem cmp_any (x y : Int) (w : World) : Calls Try.prog 42 #[.int .i64 x, .int .i64 y] w fun e w' => e = .returned (.int .i64 (cmpI x y)) ∧ w = w' := by
  unfold cmpI
  rcases (by omega : x < y ∨ (¬ x < y ∧ y < x) ∨ (¬ x < y ∧ ¬ y < x)) with h | ⟨h, h'⟩ | ⟨h, h'⟩
  · rw [if_pos h]
    go_enter Try.func42, Try.ntmps42
    go_wp2_with (go_at_call 62; refine (nan_any _ _).mono ?_; rintro e w' ⟨rfl, rfl⟩)
    go_ret
    exact ⟨rfl, rfl⟩
  · rw [if_neg h, if_pos h']
    go_enter Try.func42, Try.ntmps42
    go_wp2_with (go_at_call 62; refine (nan_any _ _).mono ?_; rintro e w' ⟨rfl, rfl⟩)
    go_ret
    exact ⟨rfl, rfl⟩
  · rw [if_neg h, if_neg h']
    go_enter Try.func42, Try.ntmps42
    go_wp2_with (go_at_call 62; refine (nan_any _ _).mono ?_; rintro e w' ⟨rfl, rfl⟩)
    go_ret
    exact ⟨rfl, rfl⟩
/-- A car's block, by its index. -/
def keyL (L : List Car) (z : Int) : Int := (L.getD z.toNat default).bl
/-- What the closure reads: the cars behind the captured variable. Row g is another. -/
structure Env (L : List Car) (A : Option Addr) (c cb g : Nat) (w : World) : Prop where
  var : w.cell? ⟨cb, 0, none⟩ = some (.slice A L.length c)
  lt : cb < w.heap.size
  ne : cb ≠ g
  cars : 0 < L.length → ∃ b off, A = some ⟨b, off, none⟩ ∧ b < w.heap.size ∧ b ≠ g ∧ ∀ i c, L[i]? = some c → CarAt w b (off + i * 7) c
theorem CarAt.of {w w' : World} {b off : Nat} {c : Car} (h : CarAt w b off c) (he : ∀ o, w'.cell? ⟨b, o, none⟩ = w.cell? ⟨b, o, none⟩) : CarAt w' b off c :=
  ⟨(he _).trans h.c0, (he _).trans h.c1, (he _).trans h.c2, (he _).trans h.c3, (he _).trans h.c4, (he _).trans h.c5, (he _).trans h.c6⟩
theorem Env.exc {L : List Car} {A : Option Addr} {c cb g : Nat} {w w' : World} (h : Env L A c cb g w) (he : Exc (fun k => k = g) w w') : Env L A c cb g w' :=
  ⟨(he.cell (p := ⟨cb, 0, none⟩) h.lt h.ne).trans h.var, Nat.lt_of_lt_of_le h.lt he.size, h.ne, fun hp => by
    obtain ⟨b, off, h1, h2, h3, h4⟩ := h.cars hp
    exact ⟨b, off, h1, Nat.lt_of_lt_of_le h2 he.size, h3, fun i c hi => (h4 i c hi).of (fun o => he.cell (p := ⟨b, o, none⟩) h2 h3)⟩⟩
theorem Env.below {L : List Car} {A : Option Addr} {c cb g : Nat} {w w' : World} (h : Env L A c cb g w) (he : Below w.heap.size w w') : Env L A c cb g w' := h.exc (Exc.of_below he)
/-- The closure as a value. -/
def cloV (cb : Nat) : Value := .func (.func 54) #[] #[.pointer (some ⟨cb, 0, none⟩)]
set_option maxHeartbeats 2000000 in
theorem clo_any (L : List Car) (A : Option Addr) (c cb g x y : Nat) (w : World) (h : Env L A c cb g w) (hx : x < L.length) (hy : y < L.length) :
    Calls Try.prog 54 #[.int .i64 x, .int .i64 y, .pointer (some ⟨cb, 0, none⟩)] w fun e w' => e = .returned (.int .i64 (cmpI (keyL L x) (keyL L y))) ∧ Below w.heap.size w w' := by
  obtain ⟨b, off, rfl, hb, _, hc⟩ := h.cars (by omega)
  have z0 := h.var
  have x1 := (hc x _ (List.getElem?_eq_getElem hx)).c1
  have y1 := (hc y _ (List.getElem?_eq_getElem hy)).c1
  have ex : (L[x]).bl = keyL L x := by unfold keyL; rw [Int.toNat_natCast, List.getD_eq_getElem?_getD, List.getElem?_eq_getElem hx]; rfl
  have ey : (L[y]).bl = keyL L y := by unfold keyL; rw [Int.toNat_natCast, List.getD_eq_getElem?_getD, List.getElem?_eq_getElem hy]; rfl
  rw [ex] at x1
  rw [ey] at y1
  clear ex ey hc h hb
  generalize keyL L x = p at *
  generalize keyL L y = q at *
  have b0 : (x : Int) < L.length := by omega
  have b1 : (y : Int) < L.length := by omega
  have CC : Hid (∀ x y (w : World), Calls Try.prog 42 #[.int .i64 x, .int .i64 y] w fun e w' => e = .returned (.int .i64 (cmpI x y)) ∧ w' = w) := hid (fun x y w => (cmp_any x y w).mono fun _ _ h => ⟨h.1, h.2.symm⟩)
  go_enter Try.func54, Try.ntmps54
  go_wp2_with fail
  go_quiet ((go_at_call 42; exact Calls.quiet_of_same (CC.out _ _ _)))
  go_wp2_with fail
  go_ret
  exact ⟨rfl, below_drewN (Below.refl _ _) _⟩
end Go.Proofs.Ythfoggbaoafpjaa
