/-
  The plain laws of flows: sums, conservation, weak duality, cuts. No program in sight.
-/
namespace Go.Proofs.Ytpgcfeamlkdmpaa

/-- The sum of f over the numbers below n. -/
def sm : Nat → (Nat → Int) → Int
  | 0, _ => 0
  | n + 1, f => sm n f + f n
theorem sm_congr {n : Nat} {f g : Nat → Int} (h : ∀ i, i < n → f i = g i) : sm n f = sm n g := by
  induction n with
  | zero => rfl
  | succ n ih => simp only [sm]; rw [ih (fun i hi => h i (by omega)), h n (by omega)]
theorem sm_add (n : Nat) (f g : Nat → Int) : sm n (fun i => f i + g i) = sm n f + sm n g := by
  induction n with
  | zero => rfl
  | succ n ih => simp only [sm]; rw [ih]; omega
theorem sm_sub (n : Nat) (f g : Nat → Int) : sm n (fun i => f i - g i) = sm n f - sm n g := by
  induction n with
  | zero => rfl
  | succ n ih => simp only [sm]; rw [ih]; omega
theorem sm_mul (n : Nat) (c : Int) (f : Nat → Int) : sm n (fun i => c * f i) = c * sm n f := by
  induction n with
  | zero => simp [sm]
  | succ n ih => simp only [sm]; rw [ih, Int.mul_add]
theorem sm_zero (n : Nat) : sm n (fun _ => 0) = 0 := by
  induction n with
  | zero => rfl
  | succ n ih => simp only [sm]; rw [ih]; rfl
theorem sm_le {n : Nat} {f g : Nat → Int} (h : ∀ i, i < n → f i ≤ g i) : sm n f ≤ sm n g := by
  induction n with
  | zero => simp [sm]
  | succ n ih => simp only [sm]; have := ih (fun i hi => h i (by omega)); have := h n (by omega); omega
theorem sm_nonneg {n : Nat} {f : Nat → Int} (h : ∀ i, i < n → 0 ≤ f i) : 0 ≤ sm n f := by
  have := sm_le (n := n) (f := fun _ => 0) (g := f) h; rwa [sm_zero] at this
/-- One of the numbers stands out. -/
theorem sm_single {n k : Nat} (h : k < n) (c : Int) : sm n (fun i => if i = k then c else 0) = c := by
  induction n with
  | zero => omega
  | succ n ih =>
    simp only [sm]
    by_cases e : k = n
    · subst e
      have : sm k (fun i => if i = k then c else 0) = 0 :=
        (sm_congr (g := fun _ => 0) (fun i hi => by rw [if_neg (by omega)])).trans (sm_zero k)
      rw [this, if_pos rfl]; omega
    · rw [ih (by omega), if_neg (by omega)]; omega
theorem sm_point {n : Nat} (f : Nat → Int) {k : Nat} (h : k < n) (c : Int) : sm n (fun i => if i = k then f i + c else f i) = sm n f + c := by
  have : sm n (fun i => if i = k then f i + c else f i) = sm n (fun i => f i + (if i = k then c else 0)) := sm_congr (fun i _ => by split <;> simp)
  rw [this, sm_add, sm_single h]
theorem sm_ge_one {n : Nat} {f : Nat → Int} (h : ∀ i, i < n → 0 ≤ f i) {k : Nat} (hk : k < n) : f k ≤ sm n f := by
  have h1 := sm_single hk (f k)
  have h2 := sm_le (n := n) (f := fun i => if i = k then f k else 0) (g := f) (fun i hi => by
    show (if i = k then f k else 0) ≤ f i
    split
    · rename_i e; subst e; exact Int.le_refl _
    · exact h i hi)
  omega
theorem sm_comm (n m : Nat) (f : Nat → Nat → Int) : sm n (fun i => sm m (fun j => f i j)) = sm m (fun j => sm n (fun i => f i j)) := by
  induction n with
  | zero => simp only [sm]; exact (sm_zero m).symm
  | succ n ih => simp only [sm]; rw [ih, ← sm_add]

/-- A network: nodes below k, arcs below m; what each arc joins, carries and costs; what each node supplies. -/
structure Net where
  k : Nat
  m : Nat
  f : Nat → Nat
  t : Nat → Nat
  cap : Nat → Int
  cost : Nat → Int
  sup : Nat → Int
structure Net.Ok (N : Net) : Prop where
  f_lt : ∀ i, i < N.m → N.f i < N.k
  t_lt : ∀ i, i < N.m → N.t i < N.k
  ne : ∀ i, i < N.m → N.f i ≠ N.t i
  cap0 : ∀ i, i < N.m → 0 ≤ N.cap i
  cap1 : ∀ i, i < N.m → N.cap i ≤ 1000000000
  cost0 : ∀ i, i < N.m → 0 ≤ N.cost i
  cost1 : ∀ i, i < N.m → N.cost i ≤ 1000000000
  sup0 : ∀ v, v < N.k → -1000000000 ≤ N.sup v
  sup1 : ∀ v, v < N.k → N.sup v ≤ 1000000000
  bal : sm N.k N.sup = 0
def Net.out (N : Net) (x : Nat → Int) (v : Nat) : Int := sm N.m (fun i => if N.f i = v then x i else 0)
def Net.inn (N : Net) (x : Nat → Int) (v : Nat) : Int := sm N.m (fun i => if N.t i = v then x i else 0)
def Net.lef (N : Net) (x : Nat → Int) (v : Nat) : Int := N.sup v - N.out x v + N.inn x v
def Net.Fea (N : Net) (x : Nat → Int) : Prop := (∀ i, i < N.m → 0 ≤ x i ∧ x i ≤ N.cap i) ∧ ∀ v, v < N.k → N.lef x v = 0
def Net.price (N : Net) (x : Nat → Int) : Int := sm N.m (fun i => N.cost i * x i)

theorem Net.weigh (N : Net) (h : N.Ok) (p x : Nat → Int) : sm N.k (fun v => p v * N.out x v) = sm N.m (fun i => p (N.f i) * x i) := by
  have : sm N.k (fun v => p v * N.out x v) = sm N.k (fun v => sm N.m (fun i => p v * (if N.f i = v then x i else 0))) := sm_congr (fun v _ => by rw [sm_mul]; rfl)
  rw [this, sm_comm]
  refine sm_congr (fun i hi => ?_)
  have : sm N.k (fun v => p v * (if N.f i = v then x i else 0)) = sm N.k (fun v => if v = N.f i then p (N.f i) * x i else 0) := sm_congr (fun v _ => by
    by_cases e : v = N.f i
    · subst e; rw [if_pos rfl, if_pos rfl]
    · rw [if_neg (fun h => e h.symm), if_neg e]; simp)
  rw [this, sm_single (h.f_lt i hi)]
theorem Net.weighT (N : Net) (h : N.Ok) (p x : Nat → Int) : sm N.k (fun v => p v * N.inn x v) = sm N.m (fun i => p (N.t i) * x i) := by
  have : sm N.k (fun v => p v * N.inn x v) = sm N.k (fun v => sm N.m (fun i => p v * (if N.t i = v then x i else 0))) := sm_congr (fun v _ => by rw [sm_mul]; rfl)
  rw [this, sm_comm]
  refine sm_congr (fun i hi => ?_)
  have : sm N.k (fun v => p v * (if N.t i = v then x i else 0)) = sm N.k (fun v => if v = N.t i then p (N.t i) * x i else 0) := sm_congr (fun v _ => by
    by_cases e : v = N.t i
    · subst e; rw [if_pos rfl, if_pos rfl]
    · rw [if_neg (fun h => e h.symm), if_neg e]; simp)
  rw [this, sm_single (h.t_lt i hi)]
/-- What a weighting of the nodes says of any assignment. -/
theorem Net.weights (N : Net) (h : N.Ok) (p x : Nat → Int) : sm N.k (fun v => p v * N.lef x v) = sm N.k (fun v => p v * N.sup v) - sm N.m (fun i => (p (N.f i) - p (N.t i)) * x i) := by
  have e1 : sm N.k (fun v => p v * N.lef x v) = sm N.k (fun v => p v * N.sup v - p v * N.out x v + p v * N.inn x v) := sm_congr (fun v _ => by unfold Net.lef; rw [Int.mul_add, Int.mul_sub])
  have e2 : sm N.m (fun i => (p (N.f i) - p (N.t i)) * x i) = sm N.m (fun i => p (N.f i) * x i) - sm N.m (fun i => p (N.t i) * x i) := by rw [← sm_sub]; exact sm_congr (fun i _ => by rw [Int.sub_mul])
  rw [e1, e2, sm_add, sm_sub, N.weigh h, N.weighT h]; omega
theorem Net.left_sum (N : Net) (h : N.Ok) (x : Nat → Int) : sm N.k (fun v => N.lef x v) = 0 := by
  have := N.weights h (fun _ => 1) x
  simp only [Int.one_mul, Int.sub_self, Int.zero_mul] at this
  rw [this, sm_zero, h.bal]; rfl
/-- Prices that prove a flow cheapest. -/
def Net.Proves (N : Net) (x p : Nat → Int) : Prop := ∀ i, i < N.m → (x i < N.cap i → 0 ≤ N.cost i + p (N.f i) - p (N.t i)) ∧ (0 < x i → N.cost i + p (N.f i) - p (N.t i) ≤ 0)
theorem Net.cheapest (N : Net) (h : N.Ok) {x p y : Nat → Int} (hx : N.Fea x) (hy : N.Fea y) (hp : N.Proves x p) : N.price x ≤ N.price y := by
  have ex := N.weights h p x
  have ey := N.weights h p y
  have zx : sm N.k (fun v => p v * N.lef x v) = 0 := by rw [← sm_zero N.k]; exact sm_congr (fun v hv => by rw [hx.2 v hv]; simp)
  have zy : sm N.k (fun v => p v * N.lef y v) = 0 := by rw [← sm_zero N.k]; exact sm_congr (fun v hv => by rw [hy.2 v hv]; simp)
  have hle : 0 ≤ sm N.m (fun i => (N.cost i + p (N.f i) - p (N.t i)) * (y i - x i)) := sm_nonneg (fun i hi => by
    obtain ⟨h1, h2⟩ := hp i hi
    obtain ⟨x0, x1⟩ := hx.1 i hi
    obtain ⟨y0, y1⟩ := hy.1 i hi
    generalize N.cost i + p (N.f i) - p (N.t i) = r at *
    rcases Int.lt_trichotomy (x i) (y i) with hl | hl | hl
    · have := h1 (by omega); exact Int.mul_nonneg this (by omega)
    · rw [hl]; simp
    · have := h2 (by omega)
      have : 0 ≤ (-r) * (x i - y i) := Int.mul_nonneg (by omega) (by omega)
      rw [Int.neg_mul, ← Int.mul_neg] at this; rwa [show -(x i - y i) = y i - x i by omega] at this)
  have ed : sm N.m (fun i => (N.cost i + p (N.f i) - p (N.t i)) * (y i - x i)) = (N.price y - N.price x) + (sm N.m (fun i => (p (N.f i) - p (N.t i)) * y i) - sm N.m (fun i => (p (N.f i) - p (N.t i)) * x i)) := by
    unfold Net.price
    rw [← sm_sub, ← sm_sub, ← sm_add]
    exact sm_congr (fun i _ => by
      rw [show N.cost i + p (N.f i) - p (N.t i) = N.cost i + (p (N.f i) - p (N.t i)) by omega, Int.add_mul, Int.mul_sub, Int.mul_sub])
  omega
/-- A set of nodes that supplies more than the arcs out of it carry: no flow. -/
theorem Net.blocked_none (N : Net) (h : N.Ok) (S : Nat → Bool) (hS : 0 < sm N.k (fun v => if S v then N.sup v else 0) - sm N.m (fun i => if S (N.f i) && !S (N.t i) then N.cap i else 0)) (x : Nat → Int) (hx : N.Fea x) : False := by
  have e := N.weights h (fun v => if S v then 1 else 0) x
  have z : sm N.k (fun v => (if S v then 1 else 0) * N.lef x v) = 0 := by rw [← sm_zero N.k]; exact sm_congr (fun v hv => by rw [hx.2 v hv]; simp)
  have e1 : sm N.k (fun v => (if S v then 1 else 0) * N.sup v) = sm N.k (fun v => if S v then N.sup v else 0) := sm_congr (fun v _ => by split <;> simp)
  have e2 : sm N.m (fun i => ((if S (N.f i) then 1 else 0) - (if S (N.t i) then 1 else 0)) * x i) ≤ sm N.m (fun i => if S (N.f i) && !S (N.t i) then N.cap i else 0) := sm_le (fun i hi => by
    obtain ⟨x0, x1⟩ := hx.1 i hi
    have c0 := h.cap0 i hi
    cases S (N.f i) <;> cases S (N.t i) <;> simp <;> omega)
  rw [z, e1] at e
  omega
end Go.Proofs.Ytpgcfeamlkdmpaa
