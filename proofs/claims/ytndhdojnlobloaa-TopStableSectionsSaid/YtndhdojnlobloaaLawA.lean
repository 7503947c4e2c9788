/- Plain law: polynomials, the sequences they make, and energies. -/
import Derived.Test.YtndhdojnlobloaaMirA
import Derived.Test.YtndhdojnlobloaaPl
namespace Go.Fac

theorem sq0 (a : Rat) : 0 ≤ a * a := by
  rcases @Rat.le_total 0 a with h | h
  · exact Rat.mul_nonneg h h
  · have := Rat.mul_nonneg (a := -a) (b := -a) (by grind) (by grind)
    grind
theorem mul_le {a b c : Rat} (h : a ≤ b) (hc : 0 ≤ c) : c * a ≤ c * b := Rat.mul_le_mul_of_nonneg_left h hc

/-- One place later. -/
def W (x : Nat → Rat) : Nat → Rat
  | 0 => 0
  | k + 1 => x k
/-- What a polynomial makes of a sequence. -/
def ap : List Rat → (Nat → Rat) → Nat → Rat
  | [], _ => fun _ => 0
  | p :: l, x => fun k => p * x k + W (ap l x) k
/-- The energy of the first ones. -/
def E (x : Nat → Rat) : Nat → Rat
  | 0 => 0
  | n + 1 => E x n + x n * x n

theorem W_add (x y : Nat → Rat) : W (fun k => x k + y k) = fun k => W x k + W y k := by
  funext k
  cases k with
  | zero => simp [W]; grind
  | succ k => rfl
theorem W_smul (c : Rat) (x : Nat → Rat) : W (fun k => c * x k) = fun k => c * W x k := by
  funext k
  cases k with
  | zero => simp [W]
  | succ k => rfl
theorem ap_add (l : List Rat) (x y : Nat → Rat) : ap l (fun k => x k + y k) = fun k => ap l x k + ap l y k := by
  induction l with
  | nil => funext k; simp only [ap]; grind
  | cons p l ih =>
    funext k
    simp only [ap, ih, W_add]
    grind
theorem ap_smul (l : List Rat) (c : Rat) (x : Nat → Rat) : ap l (fun k => c * x k) = fun k => c * ap l x k := by
  induction l with
  | nil => funext k; simp only [ap]; grind
  | cons p l ih =>
    funext k
    simp only [ap, ih, W_smul]
    grind
theorem ap_W (l : List Rat) (x : Nat → Rat) : ap l (W x) = W (ap l x) := by
  induction l with
  | nil => funext k; cases k <;> simp [ap, W]
  | cons p l ih =>
    simp only [ap, ih]
    rw [W_add (fun k => p * x k) (W (ap l x)), W_smul]

def addL : List Rat → List Rat → List Rat
  | [], q => q
  | p, [] => p
  | a :: p, b :: q => (a + b) :: addL p q
def mulL : List Rat → List Rat → List Rat
  | [], _ => []
  | a :: p, q => addL (q.map (a * ·)) (0 :: mulL p q)
theorem ap_addL (p q : List Rat) (x : Nat → Rat) : ap (addL p q) x = fun k => ap p x k + ap q x k := by
  induction p, q using addL.induct with
  | case1 q => funext k; simp only [addL, ap]; grind
  | case2 p h =>
    cases p with
    | nil => exact absurd rfl h
    | cons a p => funext k; simp only [addL, ap]; grind
  | case3 a p b q ih =>
    funext k
    simp only [addL, ap, ih, W_add]
    grind
theorem ap_map (q : List Rat) (a : Rat) (x : Nat → Rat) : ap (q.map (a * ·)) x = fun k => a * ap q x k := by
  induction q with
  | nil => funext k; simp only [List.map, ap]; grind
  | cons b q ih =>
    funext k
    simp only [List.map, ap, ih, W_smul]
    grind
theorem ap_mulL (p q : List Rat) (x : Nat → Rat) : ap (mulL p q) x = ap p (ap q x) := by
  induction p with
  | nil => rfl
  | cons a p ih =>
    funext k
    simp only [mulL, ap_addL, ap_map, ap, ih]
    grind
theorem ap_comm (p q : List Rat) (x : Nat → Rat) : ap p (ap q x) = ap q (ap p x) := by
  induction p with
  | nil =>
    have h : ap q (fun _ => (0 : Rat)) = fun k => (0 : Rat) * ap q (fun _ => (0 : Rat)) k := by
      rw [← ap_smul]
      simp
    simp only [ap]
    rw [h]
    funext k
    simp
  | cons a p ih =>
    simp only [ap]
    rw [ap_add q (fun k => a * x k) (W (ap p x)), ap_smul, ap_W, ih]

theorem E_nonneg (x : Nat → Rat) : ∀ n, 0 ≤ E x n
  | 0 => by simp only [E]; grind
  | n + 1 => by
    have h1 := E_nonneg x n
    have h2 := sq0 (x n)
    simp only [E]
    grind
theorem E_step (x : Nat → Rat) (n : Nat) : E x n ≤ E x (n + 1) := by
  have h2 := sq0 (x n)
  simp only [E]
  grind
theorem E_mono (x : Nat → Rat) {n m : Nat} (h : n ≤ m) : E x n ≤ E x m := by
  induction h with
  | refl => grind
  | step h ih => exact Rat.le_trans ih (E_step x _)
theorem E_W (x : Nat → Rat) : ∀ n, E (W x) (n + 1) = E x n
  | 0 => by simp only [E, W]; grind
  | n + 1 => by
    have := E_W x n
    simp only [E, W] at *
    grind
theorem E_W_le (x : Nat → Rat) (n : Nat) : E (W x) n ≤ E x n := by
  cases n with
  | zero => simp only [E]; grind
  | succ n =>
    rw [E_W]
    exact E_step x n
theorem E_smul (c : Rat) (x : Nat → Rat) : ∀ n, E (fun k => c * x k) n = c * c * E x n
  | 0 => by simp only [E]; grind
  | n + 1 => by
    have := E_smul c x n
    simp only [E] at *
    grind
/-- The energy of a sum. -/
theorem E_add {s : Rat} (hs : 0 < s) (x y : Nat → Rat) : ∀ n, E (fun k => x k + y k) n ≤ (1 + s) * E x n + (1 + 1 / s) * E y n
  | 0 => by simp only [E]; grind
  | n + 1 => by
    have h1 := E_add hs x y n
    have h2 : 0 ≤ s * ((x n - 1 / s * y n) * (x n - 1 / s * y n)) := Rat.mul_nonneg (by grind) (sq0 _)
    have h3 : s * (1 / s) = 1 := by grind
    generalize 1 / s = r at *
    simp only [E]
    generalize x n = a at *
    generalize y n = b at *
    have h4 : s * ((a - r * b) * (a - r * b)) = s * (a * a) - 2 * (s * r) * (a * b) + (s * r) * r * (b * b) := by grind
    rw [h3] at h4
    rw [h4] at h2
    generalize E (fun k => x k + y k) n = e at *
    grind
theorem E_congr {x y : Nat → Rat} {n : Nat} (h : ∀ k, k < n → x k = y k) : E x n = E y n := by
  induction n with
  | zero => rfl
  | succ n ih =>
    simp only [E]
    rw [ih (fun k hk => h k (by omega)), h n (by omega)]

/-- No polynomial makes too much. -/
theorem ap_bound (l : List Rat) : ∃ K : Rat, 0 < K ∧ ∀ x N, E (ap l x) N ≤ K * E x N := by
  induction l with
  | nil =>
    refine ⟨1, by grind, fun x N => ?_⟩
    have h0 : E (ap [] x) N = 0 := by
      induction N with
      | zero => rfl
      | succ N ih =>
        simp only [ap] at *
        simp only [E, ih]
        grind
    have := E_nonneg x N
    grind
  | cons p l ih =>
    obtain ⟨K, hK, h⟩ := ih
    refine ⟨2 * (p * p) + 2 * K, by have := sq0 p; grind, fun x N => ?_⟩
    have h1 := E_add (s := 1) (by grind) (fun k => p * x k) (W (ap l x)) N
    rw [E_smul] at h1
    have h2 := E_W_le (ap l x) N
    have h3 := h x N
    have h4 : (1 : Rat) / 1 = 1 := by grind
    rw [h4] at h1
    simp only [ap]
    grind

/-- Stable: what goes in is bounded by what comes out. -/
def S (l : List Rat) : Prop := ∃ C : Rat, 0 < C ∧ ∀ x N, E x N ≤ C * E (ap l x) N

theorem S_mul (p q : List Rat) : S (mulL p q) ↔ S p ∧ S q := by
  constructor
  · rintro ⟨C, hC, h⟩
    constructor
    · obtain ⟨K, hK, hb⟩ := ap_bound q
      refine ⟨C * K, Rat.mul_pos hC hK, fun x N => ?_⟩
      have h1 := h x N
      rw [ap_mulL, ap_comm] at h1
      have h2 := mul_le (hb (ap p x) N) (c := C) (by grind)
      grind
    · obtain ⟨K, hK, hb⟩ := ap_bound p
      refine ⟨C * K, Rat.mul_pos hC hK, fun x N => ?_⟩
      have h1 := h x N
      rw [ap_mulL] at h1
      have h2 := mul_le (hb (ap q x) N) (c := C) (by grind)
      grind
  · rintro ⟨⟨C, hC, h⟩, ⟨D, hD, h'⟩⟩
    refine ⟨D * C, Rat.mul_pos hD hC, fun x N => ?_⟩
    rw [ap_mulL]
    have h1 := h' x N
    have h2 := mul_le (h (ap q x) N) (c := D) (by grind)
    grind
end Go.Fac

namespace Go.Fac

def T (u v : Nat → Rat) : Nat → Rat
  | 0 => 0
  | n + 1 => T u v n + u n * v n
def Wn : Nat → (Nat → Rat) → Nat → Rat
  | 0, x => x
  | m + 1, x => W (Wn m x)
def supp (x : Nat → Rat) (M : Nat) : Prop := ∀ k, M ≤ k → x k = 0

theorem E_T (x : Nat → Rat) : ∀ n, E x n = T x x n
  | 0 => rfl
  | n + 1 => by simp only [E, T, E_T x n]
theorem T_add_l (u v w : Nat → Rat) : ∀ n, T (fun k => u k + v k) w n = T u w n + T v w n
  | 0 => by simp only [T]; grind
  | n + 1 => by simp only [T, T_add_l u v w n]; grind
theorem T_smul_l (c : Rat) (u w : Nat → Rat) : ∀ n, T (fun k => c * u k) w n = c * T u w n
  | 0 => by simp only [T]; grind
  | n + 1 => by simp only [T, T_smul_l c u w n]; grind
theorem T_comm (u v : Nat → Rat) : ∀ n, T u v n = T v u n
  | 0 => rfl
  | n + 1 => by simp only [T, T_comm u v n]; grind
theorem T_add_r (u v w : Nat → Rat) (n : Nat) : T w (fun k => u k + v k) n = T w u n + T w v n := by
  rw [T_comm, T_add_l, T_comm u, T_comm v]
theorem T_smul_r (c : Rat) (u w : Nat → Rat) (n : Nat) : T w (fun k => c * u k) n = c * T w u n := by
  rw [T_comm, T_smul_l, T_comm u]
theorem T_W (u v : Nat → Rat) : ∀ n, T (W u) (W v) (n + 1) = T u v n
  | 0 => by simp only [T, W]; grind
  | n + 1 => by
    have := T_W u v n
    simp only [T, W] at *
    grind
theorem supp_W {x : Nat → Rat} {M : Nat} (h : supp x M) : supp (W x) (M + 1) := by
  intro k hk
  cases k with
  | zero => rfl
  | succ k => exact h k (by omega)
theorem supp_ap {x : Nat → Rat} {M : Nat} (h : supp x M) : ∀ l, supp (ap l x) (M + l.length)
  | [] => fun k _ => rfl
  | p :: l => by
    intro k hk
    simp only [List.length_cons] at hk
    have h1 := supp_W (supp_ap h l) k (by omega)
    have h2 := h k (by omega)
    simp only [ap, h1, h2]
    grind
theorem supp_Wn {x : Nat → Rat} {M : Nat} (h : supp x M) : ∀ m, supp (Wn m x) (M + m)
  | 0 => h
  | m + 1 => supp_W (supp_Wn h m)
theorem T_WW {u v : Nat → Rat} {M L : Nat} (h : supp u M) (hL : M + 1 ≤ L) : T (W u) (W v) L = T u v L := by
  obtain ⟨L, rfl⟩ : ∃ K, L = K + 1 := ⟨L - 1, by omega⟩
  rw [T_W]
  simp only [T, h L (by omega)]
  grind
theorem T_Wn {u v : Nat → Rat} {M L : Nat} (h : supp u M) : ∀ m, M + m ≤ L → T (Wn m u) (Wn m v) L = T u v L
  | 0, _ => rfl
  | m + 1, hL => by
    simp only [Wn]
    rw [T_WW (supp_Wn h m) (by omega), T_Wn h m (by omega)]
theorem Wn_add (u v : Nat → Rat) : ∀ m, Wn m (fun k => u k + v k) = fun k => Wn m u k + Wn m v k
  | 0 => rfl
  | m + 1 => by
    simp only [Wn]
    rw [Wn_add u v m, W_add]
theorem Wn_smul (c : Rat) (u : Nat → Rat) : ∀ m, Wn m (fun k => c * u k) = fun k => c * Wn m u k
  | 0 => rfl
  | m + 1 => by
    simp only [Wn]
    rw [Wn_smul c u m, W_smul]
theorem Wn_W (u : Nat → Rat) : ∀ m, Wn m (W u) = W (Wn m u)
  | 0 => rfl
  | m + 1 => by
    simp only [Wn]
    rw [Wn_W u m]
theorem Wn_plus (u : Nat → Rat) (a : Nat) : ∀ b, Wn a (Wn b u) = Wn (a + b) u
  | 0 => rfl
  | b + 1 => by
    rw [Wn, Wn_W, Wn_plus u a b]
    rfl
theorem ap_append (s t : List Rat) (x : Nat → Rat) : ap (s ++ t) x = fun k => ap s x k + Wn s.length (ap t x) k := by
  induction s with
  | nil => funext k; simp only [List.nil_append, ap, List.length_nil, Wn]; grind
  | cons a s ih =>
    funext k
    simp only [List.cons_append, ap, ih, W_add, List.length_cons, Wn]
    grind
theorem ap_one (a : Rat) (x : Nat → Rat) : ap [a] x = fun k => a * x k := by
  funext k
  simp only [ap]
  have : W (fun _ => (0 : Rat)) k = 0 := by cases k <;> rfl
  rw [this]
  grind
theorem Wn_zero : ∀ m, Wn m (fun _ => (0 : Rat)) = fun _ => 0
  | 0 => rfl
  | m + 1 => by
    simp only [Wn]
    rw [Wn_zero m]
    funext k
    cases k <;> rfl
theorem T_zero_r (u : Nat → Rat) : ∀ n, T u (fun _ => 0) n = 0
  | 0 => rfl
  | n + 1 => by simp only [T, T_zero_r u n]; grind

theorem turn_cross {x : Nat → Rat} {M L : Nat} (h : supp x M) : ∀ (s : List Rat) (i : Nat), M + s.length + i + 1 ≤ L →
    T x (Wn (i + 1) (ap s x)) L = T (ap s.reverse x) (Wn (s.length + i) x) L
  | [], i, _ => by
    simp only [ap, List.reverse_nil]
    rw [Wn_zero, T_zero_r, T_comm, T_zero_r]
  | b :: r, i, hL => by
    simp only [List.length_cons] at hL
    have ih := turn_cross (L := L) h r (i + 1) (by omega)
    rw [List.reverse_cons, ap_append, ap_one, List.length_reverse, T_add_l, Wn_smul, T_smul_l]
    have e1 : (b :: r).length + i = r.length + (i + 1) := by simp only [List.length_cons]; omega
    rw [e1, ← ih, ← Wn_plus x r.length (i + 1), T_Wn (L := L) h r.length (by omega)]
    simp only [ap]
    rw [Wn_add, Wn_smul, T_add_r, T_smul_r, Wn_W]
    simp only [Wn]
    grind

/-- The whole energy stays when a polynomial is turned round. -/
theorem turn_energy {x : Nat → Rat} {M L : Nat} (h : supp x M) : ∀ (l : List Rat), M + l.length + 1 ≤ L → E (ap l x) L = E (ap l.reverse x) L
  | [], _ => rfl
  | a :: t, hL => by
    simp only [List.length_cons] at hL
    have ih := turn_energy (L := L) h t (by omega)
    have hc := turn_cross h t 0 (L := L) (by omega)
    rw [E_T, E_T] at *
    rw [List.reverse_cons, ap_append, ap_one, List.length_reverse, Wn_smul]
    simp only [ap]
    simp only [T_add_l, T_add_r, T_smul_l, T_smul_r]
    rw [T_WW (L := L) (supp_ap h t) (by omega), T_Wn (L := L) h t.length (by omega), T_comm (W (ap t x)) x, T_comm (Wn t.length x) (ap t.reverse x), ih]
    simp only [Wn, Nat.add_zero] at hc
    rw [hc]
    grind
end Go.Fac

namespace Go.Fac

theorem arch (B : Rat) {η : Rat} (hη : 0 < η) : ∃ i : Nat, B < (i : Rat) * η := by
  refine ⟨(B / η).ceil.toNat + 1, ?_⟩
  have h1 := @Rat.le_ceil (B / η)
  have h2 : (((B / η).ceil : Int) : Rat) ≤ (((B / η).ceil.toNat : Nat) : Rat) := by
    have : (B / η).ceil ≤ (((B / η).ceil.toNat : Nat) : Int) := by omega
    have h3 := Rat.intCast_le_intCast.2 this
    exact h3
  have h4 : B = B / η * η := by grind
  have h5 : (((B / η).ceil.toNat + 1 : Nat) : Rat) = (((B / η).ceil.toNat : Nat) : Rat) + 1 := by
    rw [Rat.natCast_add]
    rfl
  rw [h5]
  generalize (((B / η).ceil.toNat : Nat) : Rat) = c at *
  have h6 : B / η ≤ c := Rat.le_trans h1 h2
  have h7 := mul_le h6 (c := η) (by grind)
  grind

theorem ap_low {u v : Nat → Rat} {m : Nat} (h : ∀ k, k < m → u k = v k) : ∀ (l : List Rat) (k : Nat), k < m → ap l u k = ap l v k
  | [], _, _ => rfl
  | p :: l, 0, hk => by simp only [ap, W, h 0 hk]
  | p :: l, k + 1, hk => by simp only [ap, W, h (k + 1) hk, ap_low h l k (by omega)]
theorem ap_head {u v : Nat → Rat} {m : Nat} (h : ∀ k, k < m → u k = v k) (p : Rat) (t : List Rat) : ap (p :: t) u m - p * u m = ap (p :: t) v m - p * v m := by
  cases m with
  | zero => simp only [ap, W]; grind
  | succ m =>
    simp only [ap, W]
    rw [ap_low h t m (by omega)]
    grind
theorem E_tail {u v : Nat → Rat} {M : Nat} (h : ∀ k, M ≤ k → u k = v k) : ∀ {L : Nat}, M ≤ L → E u L - E u M = E v L - E v M := by
  intro L hL
  induction hL with
  | refl => grind
  | step hL ih =>
    simp only [E]
    rw [h _ hL]
    grind
theorem E_supp {u : Nat → Rat} {M L : Nat} (h : supp u M) (hL : M ≤ L) : E u L = E u M := by
  have h0 : ∀ n, E (fun _ => (0 : Rat)) n = 0 := by
    intro n
    rw [E_T, T_zero_r]
  have := E_tail (v := fun _ => 0) (fun k hk => h k hk) hL
  rw [h0, h0] at this
  grind

section
variable (p0 : Rat) (t : List Rat) (x : Nat → Rat) (N : Nat)
/-- From N on it decays freely; after j steps it is cut. -/
def Y : Nat → Nat → Rat
  | 0 => fun k => if k < N then x k else 0
  | j + 1 => fun k => if k = N + j then -(ap (p0 :: t) (Y j) (N + j)) / p0 else Y j k

theorem Y_supp : ∀ j, supp (Y p0 t x N j) (N + j)
  | 0 => fun k hk => by
    simp only [Y]
    rw [if_neg (by omega)]
  | j + 1 => fun k hk => by
    simp only [Y]
    rw [if_neg (by omega)]
    exact Y_supp j k (by omega)
theorem Y_step (j : Nat) {k : Nat} (hk : k < N + j) : Y p0 t x N (j + 1) k = Y p0 t x N j k := by
  simp only [Y]
  rw [if_neg (by omega)]
theorem Y_agree {j : Nat} {k : Nat} (hk : k < N + j) : ∀ i, Y p0 t x N (j + i) k = Y p0 t x N j k
  | 0 => rfl
  | i + 1 => by rw [← Nat.add_assoc, Y_step p0 t x N (j + i) (by omega), Y_agree hk i]
theorem Y_x {j : Nat} {k : Nat} (hk : k < N) : Y p0 t x N j k = x k := by
  have := Y_agree p0 t x N (j := 0) (k := k) (by omega) j
  rw [Nat.zero_add] at this
  rw [this]
  simp only [Y]
  rw [if_pos hk]
theorem Y_free (hp : p0 ≠ 0) (j : Nat) : ap (p0 :: t) (Y p0 t x N (j + 1)) (N + j) = 0 := by
  have h := ap_head (u := Y p0 t x N (j + 1)) (v := Y p0 t x N j) (m := N + j) (fun k hk => Y_step p0 t x N j hk) p0 t
  rw [Y_supp p0 t x N j (N + j) (by omega)] at h
  have e : Y p0 t x N (j + 1) (N + j) = -(ap (p0 :: t) (Y p0 t x N j) (N + j)) / p0 := by
    simp only [Y]
    rw [if_pos trivial]
  rw [e] at h
  grind
theorem Y_energy (hp : p0 ≠ 0) : ∀ j, E (ap (p0 :: t) (Y p0 t x N j)) (N + j) = E (ap (p0 :: t) x) N
  | 0 => E_congr (fun k hk => ap_low (m := N) (fun i hi => Y_x p0 t x N hi) _ k hk)
  | j + 1 => by
    rw [← Nat.add_assoc]
    simp only [E]
    rw [Y_free p0 t x N hp j, E_congr (y := ap (p0 :: t) (Y p0 t x N j)) (fun k hk => ap_low (m := N + j) (fun i hi => Y_step p0 t x N j hi) _ k hk), Y_energy hp j]
    grind
theorem Y_rev (l : List Rat) (j : Nat) : E (ap l x) N ≤ E (ap l (Y p0 t x N j)) (N + j) := by
  rw [E_congr (x := ap l x) (y := ap l (Y p0 t x N j)) (fun k hk => (ap_low (m := N) (fun i hi => Y_x p0 t x N hi) _ k hk).symm)]
  exact E_mono _ (by omega)

/-- Each window keeps some energy, if the one turned round makes more. -/
theorem Y_window (hp : p0 ≠ 0) {δ K : Rat} (hδ : E (ap (p0 :: t) x) N + δ ≤ E (ap (p0 :: t).reverse x) N) (hK : ∀ y n, E (ap (p0 :: t) y) n ≤ K * E y n) (j : Nat) :
    δ ≤ K * (E (Y p0 t x N (j + (p0 :: t).length)) (N + (j + (p0 :: t).length)) - E (Y p0 t x N j) (N + j)) := by
  generalize hl : p0 :: t = l at *
  generalize hw : l.length = w
  have hs := Y_supp p0 t x N (j + w)
  have a1 := turn_energy hs l (L := N + (j + w) + w + 1) (by omega)
  have a2 := Y_rev p0 t x N l.reverse (j + w)
  have a3 := E_mono (ap l.reverse (Y p0 t x N (j + w))) (show N + (j + w) ≤ N + (j + w) + w + 1 by omega)
  have a4 := Y_energy p0 t x N hp (j + w)
  rw [hl] at a4
  -- the window
  let u : Nat → Rat := fun k => if k < N + j then Y p0 t x N (j + w) k else 0
  let z : Nat → Rat := fun k => if k < N + j then 0 else Y p0 t x N (j + w) k
  have huz : Y p0 t x N (j + w) = fun k => u k + z k := by
    funext k
    simp only [u, z]
    split <;> grind
  have hu : supp u (N + j) := fun k hk => by simp only [u]; rw [if_neg (by omega)]
  have hau := supp_ap hu l
  have b1 : E (ap l (Y p0 t x N (j + w))) (N + (j + w) + w + 1) - E (ap l (Y p0 t x N (j + w))) (N + (j + w)) = E (ap l z) (N + (j + w) + w + 1) - E (ap l z) (N + (j + w)) := by
    refine E_tail (fun k hk => ?_) (by omega)
    rw [huz, ap_add]
    show ap l u k + ap l z k = ap l z k
    rw [hau k (by omega)]
    grind
  have b2 := E_nonneg (ap l z) (N + (j + w))
  have b3 := hK z (N + (j + w) + w + 1)
  have b4 : E z (N + (j + w) + w + 1) - E z (N + j) = E (Y p0 t x N (j + w)) (N + (j + w) + w + 1) - E (Y p0 t x N (j + w)) (N + j) :=
    E_tail (fun k hk => by simp only [z]; rw [if_neg (by omega)]) (by omega)
  have b5 : E z (N + j) = 0 := by
    rw [E_congr (y := fun _ => 0) (fun k hk => by simp only [z]; rw [if_pos hk]), E_T, T_zero_r]
  have b6 := E_supp hs (show N + (j + w) ≤ N + (j + w) + w + 1 by omega)
  have b7 : E (Y p0 t x N (j + w)) (N + j) = E (Y p0 t x N j) (N + j) := E_congr (fun k hk => Y_agree p0 t x N hk w)
  rw [b5, b6, b7] at b4
  have b8 : E z (N + (j + w) + w + 1) = E (Y p0 t x N (j + w)) (N + (j + w)) - E (Y p0 t x N j) (N + j) := by grind
  rw [b8] at b3
  grind
end

theorem contract {p0 : Rat} {t : List Rat} (hp : p0 ≠ 0) (hS : S (p0 :: t)) (x : Nat → Rat) (N : Nat) : E (ap (p0 :: t).reverse x) N ≤ E (ap (p0 :: t) x) N := by
  rcases Classical.em (E (ap (p0 :: t).reverse x) N ≤ E (ap (p0 :: t) x) N) with h | h
  · exact h
  · exfalso
    obtain ⟨C, hC, hb⟩ := hS
    obtain ⟨K, hK, hk⟩ := ap_bound (p0 :: t)
    generalize hδ : E (ap (p0 :: t).reverse x) N - E (ap (p0 :: t) x) N = δ
    have hδ0 : 0 < δ := by grind
    have hη : 0 < δ / K := by
      have : δ / K = δ * (1 / K) := by grind
      rw [this]
      refine Rat.mul_pos hδ0 ?_
      have h1 : (1 / K) * K = 1 := by grind
      rcases @Rat.le_total (1 / K) 0 with h2 | h2
      · have := mul_le h2 (c := K) (by grind)
        grind
      · grind
    have hwin : ∀ i : Nat, (i : Rat) * (δ / K) ≤ E (Y p0 t x N (i * (p0 :: t).length)) (N + i * (p0 :: t).length) := by
      intro i
      induction i with
      | zero =>
        have := E_nonneg (Y p0 t x N (0 * (p0 :: t).length)) (N + 0 * (p0 :: t).length)
        have h0 : ((0 : Nat) : Rat) = 0 := rfl
        rw [h0]
        grind
      | succ i ih =>
        have h1 := Y_window p0 t x N hp (δ := δ) (K := K) (by grind) hk (i * (p0 :: t).length)
        have e1 : i * (p0 :: t).length + (p0 :: t).length = (i + 1) * (p0 :: t).length := by rw [Nat.add_mul]; omega
        rw [e1] at h1
        have e2 : ((i + 1 : Nat) : Rat) = (i : Rat) + 1 := by
          rw [Rat.natCast_add]
          rfl
        rw [e2]
        generalize E (Y p0 t x N ((i + 1) * (p0 :: t).length)) (N + (i + 1) * (p0 :: t).length) = e at *
        generalize E (Y p0 t x N (i * (p0 :: t).length)) (N + i * (p0 :: t).length) = f at *
        have h2 : K * (δ / K) = δ := by grind
        have h3 : δ / K ≤ e - f := by
          rcases @Rat.le_total (δ / K) (e - f) with h4 | h4
          · exact h4
          · have h5 := mul_le h4 (c := K) (by grind)
            have h6 : K * (δ / K - (e - f)) = 0 := by grind
            have h7 : δ / K - (e - f) = 0 := by grind
            grind
        grind
    obtain ⟨i, hi⟩ := arch (C * E (ap (p0 :: t) x) N) hη
    have h1 := hwin i
    have h2 := hb (Y p0 t x N (i * (p0 :: t).length)) (N + i * (p0 :: t).length)
    rw [Y_energy p0 t x N hp] at h2
    grind
end Go.Fac

namespace Go.Fac

theorem div_pos {a b : Rat} (ha : 0 < a) (hb : 0 < b) : 0 < a / b := by
  have h : a / b = a * (1 / b) := by grind
  rw [h]
  refine Rat.mul_pos ha ?_
  have h1 : (1 / b) * b = 1 := by grind
  rcases @Rat.le_total (1 / b) 0 with h2 | h2
  · have := mul_le h2 (c := b) (by grind)
    grind
  · grind

theorem S_lin {p0 : Rat} {t : List Rat} (hp : p0 ≠ 0) (hS : S (p0 :: t)) {a b : Rat} (hab : b * b < a * a) {D : List Rat}
    (hD : ∀ x, ap D x = fun k => a * ap (p0 :: t) x k + b * ap (p0 :: t).reverse x k) : S D := by
  have hc := contract hp hS
  obtain ⟨C, hC, hb⟩ := hS
  have hb0 := sq0 b
  generalize hd : a * a - b * b = d
  have hd0 : 0 < d := by grind
  have hs0 : 0 < (2 * (b * b) + 1) / d := div_pos (by grind) hd0
  have hr0 : 0 < d / (2 * (b * b) + 1) := div_pos hd0 (by grind)
  have hrs : 1 / ((2 * (b * b) + 1) / d) = d / (2 * (b * b) + 1) := by grind
  have hrb : d / (2 * (b * b) + 1) * (2 * (b * b) + 1) = d := by grind
  generalize hs : (2 * (b * b) + 1) / d = s at *
  generalize hr : d / (2 * (b * b) + 1) = r at *
  refine ⟨C * (2 * (1 + s) / d), Rat.mul_pos hC (div_pos (by grind) hd0), fun x N => ?_⟩
  have h1 := E_add hs0 (ap D x) (fun k => (-b) * ap (p0 :: t).reverse x k) N
  have e1 : (fun k => ap D x k + (-b) * ap (p0 :: t).reverse x k) = fun k => a * ap (p0 :: t) x k := by
    funext k
    rw [hD]
    grind
  rw [e1, E_smul, E_smul, hrs] at h1
  have h2 := hc x N
  have h3 := hb x N
  have h0 := E_nonneg (ap (p0 :: t) x) N
  generalize E (ap (p0 :: t) x) N = A at *
  generalize E (ap (p0 :: t).reverse x) N = R at *
  generalize E (ap D x) N = G at *
  generalize E x N = X at *
  -- (1 + r) b b R <= (1 + r) b b A
  have h4 : 0 ≤ (1 + r) * (b * b) := Rat.mul_nonneg (by grind) hb0
  have h5 := mul_le h2 h4
  have h6 : (1 + r) * (-b * -b * R) = (1 + r) * (b * b) * R := by grind
  rw [h6] at h1
  have h7 : a * a * A ≤ (1 + s) * G + (1 + r) * (b * b) * A := by grind
  have h8 : (1 + r) * (b * b) = b * b + (d - r) / 2 := by grind
  rw [h8] at h7
  have h9 : 0 ≤ r * A := Rat.mul_nonneg (by grind) h0
  have h10 : d * A ≤ 2 * (1 + s) * G := by
    have e : a * a * A = d * A + b * b * A := by grind
    have e2 : (b * b + (d - r) / 2) * A = b * b * A + d * A / 2 - r * A / 2 := by grind
    rw [e, e2] at h7
    grind
  have h11 : A ≤ 2 * (1 + s) / d * G := by
    have e : 2 * (1 + s) / d * G = (1 / d) * (2 * (1 + s) * G) := by grind
    have e2 : A = (1 / d) * (d * A) := by grind
    rw [e, e2]
    exact mul_le h10 (by have := div_pos (a := 1) (b := d) (by grind) hd0; grind)
  have h12 := mul_le h11 (c := C) (by grind)
  grind

theorem Wn_le (x : Nat → Rat) (N : Nat) : ∀ m, E (Wn m x) N ≤ E x N
  | 0 => by simp only [Wn]; grind
  | m + 1 => Rat.le_trans (E_W_le _ _) (Wn_le x N m)

theorem no_S {p0 q : Rat} {m : List Rat} (hp : 0 < p0) (hq : p0 * p0 ≤ q * q) : ¬ S (p0 :: (m ++ [q])) := by
  rintro ⟨C, hC, hb⟩
  have hpp := Rat.mul_pos hp hp
  have hq0 : 0 < q * q := by grind
  have hCq := Rat.mul_pos hC hq0
  generalize hη : 1 / (4 * (C * (q * q)) + 1) = η
  have hη0 : 0 < η := by rw [← hη]; exact div_pos (by grind) (by grind)
  have hη1 : η * (4 * (C * (q * q)) + 1) = 1 := by grind
  have hS' : S (p0 :: (m ++ [q + q * η])) := by
    refine ⟨4 * C, by grind, fun x N => ?_⟩
    have e1 : ap (p0 :: (m ++ [q])) x = fun k => ap (p0 :: (m ++ [q + q * η])) x k + (-(q * η)) * Wn (m.length + 1) x k := by
      funext k
      rw [← List.cons_append, ← List.cons_append, ap_append, ap_append, ap_one, ap_one, Wn_smul, Wn_smul]
      simp only [List.length_cons]
      grind
    have h1 := E_add (s := 1) (by grind) (ap (p0 :: (m ++ [q + q * η])) x) (fun k => (-(q * η)) * Wn (m.length + 1) x k) N
    rw [← e1, E_smul] at h1
    have h2 := Wn_le x N (m.length + 1)
    have h3 := hb x N
    have h0 := E_nonneg x N
    have hG := E_nonneg (ap (p0 :: (m ++ [q + q * η])) x) N
    generalize E (ap (p0 :: (m ++ [q + q * η])) x) N = G at *
    generalize E (ap (p0 :: (m ++ [q])) x) N = A at *
    generalize E (Wn (m.length + 1) x) N = V at *
    generalize E x N = X at *
    have h4 : (1 : Rat) / 1 = 1 := by grind
    rw [h4] at h1
    have h5 : (1 + 1) * (-(q * η) * -(q * η) * V) = 2 * (q * q) * (η * η) * V := by grind
    rw [h5] at h1
    have hη2 : η * η ≤ η := by
      have := mul_le (show η ≤ 1 by
        rcases @Rat.le_total η 1 with h | h
        · exact h
        · have := mul_le h (c := 4 * (C * (q * q)) + 1) (by grind)
          grind) (c := η) (by grind)
      grind
    have h6 : C * (2 * (q * q) * (η * η) * V) ≤ X / 2 := by
      have a1 : 0 ≤ 2 * (C * (q * q)) := by grind
      have a2 := mul_le hη2 a1
      have a3 : 2 * (C * (q * q)) * η ≤ 1 / 2 := by grind
      have a4 : 2 * (C * (q * q)) * (η * η) ≤ 1 / 2 := by grind
      have a5 : 0 ≤ 2 * (C * (q * q)) * (η * η) := Rat.mul_nonneg a1 (by have := sq0 η; grind)
      have a6 := mul_le h2 a5
      have a7 := mul_le a4 h0
      have e : C * (2 * (q * q) * (η * η) * V) = 2 * (C * (q * q)) * (η * η) * V := by grind
      rw [e]
      grind
    have h7 := mul_le h1 (c := C) (by grind)
    grind
  have hc := contract (by grind) hS' (fun k => if k = 0 then 1 else 0) 1
  rw [← List.cons_append, List.reverse_append] at hc
  simp only [List.reverse_cons, List.reverse_nil, List.nil_append, List.cons_append, E, ap, W, if_true] at hc
  have := Rat.mul_pos hq0 hη0
  have := Rat.mul_pos this hη0
  grind

/-- A number alone. -/
theorem S_const {d : Rat} (hd : d ≠ 0) : S [d] := by
  have hdd : 0 < d * d := by
    have h1 := sq0 d
    rcases Classical.em (d * d = 0) with h | h
    · exfalso
      grind
    · grind
  refine ⟨1 / (d * d), div_pos (by grind) hdd, fun x N => ?_⟩
  rw [ap_one, E_smul]
  have h1 : 1 / (d * d) * (d * d) = 1 := by grind
  have e : 1 / (d * d) * (d * d * E x N) = 1 / (d * d) * (d * d) * E x N := by
    generalize 1 / (d * d) = r
    grind
  rw [e, h1]
  grind
/-- A polynomial times a number. -/
theorem S_scale {d : Rat} (hd : d ≠ 0) {l D : List Rat} (h : ∀ x, ap D x = fun k => d * ap l x k) : S D ↔ S l := by
  have hdd : 0 < d * d := by
    have h1 := sq0 d
    rcases Classical.em (d * d = 0) with h | h
    · exfalso
      grind
    · grind
  constructor
  · rintro ⟨C, hC, hb⟩
    refine ⟨C * (d * d), Rat.mul_pos hC hdd, fun x N => ?_⟩
    have := hb x N
    rw [h, E_smul] at this
    grind
  · rintro ⟨C, hC, hb⟩
    refine ⟨C * (1 / (d * d)), Rat.mul_pos hC (div_pos (by grind) hdd), fun x N => ?_⟩
    have := hb x N
    rw [h, E_smul]
    have h1 : 1 / (d * d) * (d * d) = 1 := by grind
    have e : C * (1 / (d * d)) * (d * d * E (ap l x) N) = C * (1 / (d * d) * (d * d)) * E (ap l x) N := by
      generalize 1 / (d * d) = r
      grind
    rw [e, h1]
    grind
end Go.Fac

namespace Go.Sh
open Go Go.Proofs Go.RowKit Go.Sx Go.Sx06

end Go.Sh

namespace Go.Fac
open Go.Sx Go.Sx06

def cst (l : List Int) : List Rat := l.map (fun (n : Int) => (n : Rat))
theorem cst_getD (l : List Int) (k : Nat) : (cst l).getD k 0 = ((l.getD k 0 : Int) : Rat) := by
  unfold cst
  by_cases h : k < l.length
  · simp [List.getD, h]
  · simp [List.getD, h]
theorem cst_len (l : List Int) : (cst l).length = l.length := by simp [cst]

theorem ap_comb {α β : Rat} (x : Nat → Rat) : ∀ (r p q : List Rat), p.length = r.length → q.length = r.length → (∀ k, k < r.length → r.getD k 0 = α * p.getD k 0 + β * q.getD k 0) →
    ap r x = fun k => α * ap p x k + β * ap q x k
  | [], p, q, hp, hq, _ => by
    rw [List.length_nil] at hp hq
    rw [List.length_eq_zero_iff.1 hp, List.length_eq_zero_iff.1 hq]
    funext k
    simp only [ap]
    grind
  | c :: r, [], q, hp, _, _ => by simp at hp
  | c :: r, a :: p, [], _, hq, _ => by simp at hq
  | c :: r, a :: p, b :: q, hp, hq, h => by
    have ih := ap_comb (α := α) (β := β) x r p q (by simpa using hp) (by simpa using hq) (fun k hk => by simpa [List.getD] using h (k + 1) (by simp; omega))
    have h0 := h 0 (by simp)
    simp only [List.getD, List.getElem?_cons_zero, Option.getD_some] at h0
    funext k
    simp only [ap]
    rw [ih, W_add (fun k => α * ap p x k) (fun k => β * ap q x k), W_smul, W_smul, h0]
    grind
theorem ap_zero_end (l : List Rat) (x : Nat → Rat) : ap (l ++ [0]) x = ap l x := by
  rw [ap_append, ap_one]
  funext k
  have : (fun k => (0 : Rat) * x k) = fun _ => 0 := by funext k; grind
  rw [this, Wn_zero]
  grind
theorem S_congr {l l' : List Rat} (h : ∀ x, ap l x = ap l' x) : S l ↔ S l' := by
  unfold S
  simp only [h]
theorem rev_getD (l : List Rat) {k : Nat} (hk : k < l.length) : l.reverse.getD k 0 = l.getD (l.length - 1 - k) 0 := by
  have h2 : l.length - 1 - k < l.length := by omega
  simp [List.getD, hk, h2]
theorem down_getD (l : List Int) {k : Nat} (hk : k < l.length) (h0 : 1 ≤ l.length) : ((cst (downS l)) ++ [0]).getD k 0 = ((l.getD 0 0 : Int) : Rat) * (cst l).getD k 0 + (-((l.getD (l.length - 1) 0 : Int) : Rat)) * (cst l).reverse.getD k 0 := by
  rw [rev_getD _ (by rw [cst_len]; exact hk), cst_getD, cst_getD, cst_len]
  by_cases h : k < l.length - 1
  · have h1 : ((cst (downS l)) ++ [0]).getD k 0 = (cst (downS l)).getD k 0 := by
      have : k < (cst (downS l)).length := by rw [cst_len, downS_len]; exact h
      simp [List.getD, List.getElem?_append_left this]
    have h2 : (downS l).getD k 0 = downD l k := by
      unfold downS
      simp [List.getD, h]
    rw [h1, cst_getD, h2]
    unfold downD
    rw [Rat.intCast_sub, Rat.intCast_mul, Rat.intCast_mul]
    grind
  · have hk1 : k = l.length - 1 := by omega
    have h1 : ((cst (downS l)) ++ [0]).getD k 0 = 0 := by
      have : (cst (downS l)).length = k := by rw [cst_len, downS_len]; omega
      simp [List.getD, ← this]
    rw [h1, hk1, show l.length - 1 - (l.length - 1) = 0 by omega]
    grind

theorem down_len' (l : List Int) (h : 1 ≤ l.length) : ((cst (downS l)) ++ [0]).length = l.length := by
  rw [List.length_append, cst_len, downS_len]
  simp
  omega

/-- The step down keeps stability, both ways. -/
theorem S_down {l : List Int} (h2 : 2 ≤ l.length) (ha : 0 < l.getD 0 0) (hb : l.getD (l.length - 1) 0 * l.getD (l.length - 1) 0 < l.getD 0 0 * l.getD 0 0) : S (cst l) ↔ S (cst (downS l)) := by
  generalize ea : ((l.getD 0 0 : Int) : Rat) = a
  generalize eb : ((l.getD (l.length - 1) 0 : Int) : Rat) = b
  have hab : b * b < a * a := by
    rw [← ea, ← eb, ← Rat.intCast_mul, ← Rat.intCast_mul]
    exact Rat.intCast_lt_intCast.2 hb
  have ha0 : 0 < a := by
    rw [← ea]
    exact Rat.intCast_lt_intCast.2 ha
  have hg : ∀ k, k < l.length → ((cst (downS l)) ++ [0]).getD k 0 = a * (cst l).getD k 0 + (-b) * (cst l).reverse.getD k 0 := fun k hk => by
    rw [← ea, ← eb]
    exact down_getD l hk (by omega)
  have hlen := down_len' l (by omega)
  have hz : S (cst (downS l)) ↔ S ((cst (downS l)) ++ [0]) := S_congr fun x => (ap_zero_end _ x).symm
  rw [hz]
  have hl : ∃ t, cst l = a :: t := by
    cases l with
    | nil => simp at h2
    | cons c t => exact ⟨cst t, by rw [← ea]; rfl⟩
  obtain ⟨t, et⟩ := hl
  have hD : ∃ u, (cst (downS l)) ++ [0] = (a * a - b * b) :: u := by
    have h0 := hg 0 (by omega)
    rw [rev_getD _ (by rw [cst_len]; omega), cst_getD, cst_getD, cst_len, ea, Nat.sub_zero, eb] at h0
    cases hc : (cst (downS l)) ++ [0] with
    | nil => rw [hc] at hlen; simp at hlen; omega
    | cons c u =>
      rw [hc] at h0
      simp only [List.getD, List.getElem?_cons_zero, Option.getD_some] at h0
      refine ⟨u, ?_⟩
      rw [h0]
      congr 1
      grind
  obtain ⟨u, eu⟩ := hD
  constructor
  · intro h
    rw [et] at h
    refine S_lin (a := a) (b := -b) (by grind) h (by grind) (fun x => ?_)
    rw [← et]
    exact ap_comb x _ _ _ (by rw [hlen, cst_len]) (by rw [hlen, List.length_reverse, cst_len]) (fun k hk => hg k (by rw [hlen] at hk; exact hk))
  · intro h
    rw [eu] at h
    have h3 : S ((cst l).map ((a * a - b * b) * ·)) := by
      refine S_lin (a := a) (b := b) (by grind) h hab (fun x => ?_)
      rw [← eu]
      refine ap_comb x _ _ _ (by rw [hlen, List.length_map, cst_len]) (by rw [List.length_reverse, hlen, List.length_map, cst_len]) (fun k hk => ?_)
      rw [List.length_map, cst_len] at hk
      rw [rev_getD _ (by rw [hlen]; exact hk), hlen, hg k hk, hg (l.length - 1 - k) (by omega), rev_getD _ (by rw [cst_len]; exact hk), rev_getD _ (by rw [cst_len]; omega), cst_len, show l.length - 1 - (l.length - 1 - k) = k by omega]
      have e : ((cst l).map ((a * a - b * b) * ·)).getD k 0 = (a * a - b * b) * (cst l).getD k 0 := by
        have : k < (cst l).length := by rw [cst_len]; exact hk
        simp [List.getD, this]
      rw [e]
      grind
    exact (S_scale (d := a * a - b * b) (by grind) (fun x => ap_map _ _ x)).1 h3

theorem absI_mul (x : Int) : absI x * absI x = x * x := by
  unfold absI
  rcases Int.le_total 0 x with h | h
  · rw [Int.max_eq_left (by omega)]
  · rw [Int.max_eq_right (by omega)]
    grind
theorem absI_sq (x y : Int) : absI x < absI y ↔ x * x < y * y := by
  rw [← absI_mul x, ← absI_mul y]
  have hx : 0 ≤ absI x := by unfold absI; omega
  have hy : 0 ≤ absI y := by unfold absI; omega
  generalize absI x = a at *
  generalize absI y = b at *
  constructor
  · intro h
    have h1 := Int.mul_le_mul_of_nonneg_left (show a ≤ b by omega) hx
    have h2 := Int.mul_lt_mul_of_pos_right h (show 0 < b by omega)
    omega
  · intro h
    rcases Int.lt_or_le a b with h1 | h1
    · exact h1
    · have := Int.mul_le_mul h1 h1 hy hx
      omega

theorem S_refuse {l : List Int} (h2 : 2 ≤ l.length) (ha : 0 < l.getD 0 0) (hb : l.getD 0 0 * l.getD 0 0 ≤ l.getD (l.length - 1) 0 * l.getD (l.length - 1) 0) : ¬ S (cst l) := by
  match l, h2, ha, hb with
  | c :: t, h2, ha, hb =>
    have ht : t ≠ [] := by
      intro h
      subst h
      simp at h2
    have e1 : t = t.dropLast ++ [t.getLast ht] := (List.dropLast_concat_getLast ht).symm
    have e2 : (c :: t).getD ((c :: t).length - 1) 0 = t.getLast ht := by
      have hl : 0 < t.length := List.length_pos_iff.2 ht
      rw [List.length_cons, Nat.add_sub_cancel, List.getLast_eq_getElem]
      obtain ⟨n, hn⟩ : ∃ n, t.length = n + 1 := ⟨t.length - 1, by omega⟩
      simp [List.getD, hn]
    rw [e2] at hb
    have e3 : cst (c :: t) = (c : Rat) :: (cst t.dropLast ++ [((t.getLast ht : Int) : Rat)]) := by
      have : cst (c :: t) = (c : Rat) :: cst t := rfl
      rw [this]
      congr 1
      conv => lhs; rw [e1]
      simp [cst]
    rw [e3]
    refine no_S (Rat.intCast_lt_intCast.2 ha) ?_
    rw [← Rat.intCast_mul, ← Rat.intCast_mul]
    exact Rat.intCast_le_intCast.2 hb

theorem schur_S : ∀ (f : Nat) (l : List Int) (s : Nat), l.length ≤ f → 2 ≤ l.length → 0 < l.getD 0 0 → ((schurS f l s).1 = true ↔ S (cst l)) := by
  intro f
  induction f with
  | zero =>
    intro l s h1 h2
    omega
  | succ f ih =>
    intro l s h1 h2 h0
    unfold schurS leadB
    by_cases hb : absI (l.getD (l.length - 1) 0) < absI (l.getD 0 0)
    · have hsq := (absI_sq _ _).1 hb
      rw [if_neg (by simpa using hb)]
      have hd := S_down h2 h0 hsq
      have d0 : (downS l).getD 0 0 = l.getD 0 0 * l.getD 0 0 - l.getD (l.length - 1) 0 * l.getD (l.length - 1) 0 := by
        have h3 : 0 < l.length - 1 := by omega
        unfold downS
        simp [List.getD, h3, downD]
      by_cases h3 : l.length = 2
      · rw [if_pos h3]
        refine ⟨fun _ => hd.2 ?_, fun _ => rfl⟩
        have h4 : (downS l).length = 1 := by rw [downS_len]; omega
        obtain ⟨d, ed⟩ := List.length_eq_one_iff.1 h4
        rw [ed] at d0 ⊢
        refine S_const ?_
        simp only [List.getD, List.getElem?_cons_zero, Option.getD_some] at d0
        have h5 : 0 < d := by
          rw [d0]
          simp only [List.getD] at hsq
          omega
        have := Rat.intCast_lt_intCast.2 h5
        intro h
        have h6 : ((d : Int) : Rat) = 0 := h
        rw [h6] at this
        exact absurd this (by decide)
      · rw [if_neg h3, hd]
        exact ih (downS l) (s + 1) (by rw [downS_len]; omega) (by rw [downS_len]; omega) (by rw [d0]; omega)
    · rw [if_pos (by simpa using hb)]
      have hsq : ¬ (l.getD (l.length - 1) 0 * l.getD (l.length - 1) 0 < l.getD 0 0 * l.getD 0 0) := fun h => hb ((absI_sq _ _).2 h)
      exact ⟨fun h => (by cases h), fun h => absurd h (S_refuse h2 h0 (by omega))⟩

theorem polyE_ok {l : List Int} (h : polyE l = 0) : (2 ≤ l.length ∧ l.length ≤ 5) ∧ (∀ x ∈ l, -100 ≤ x ∧ x ≤ 100) ∧ 0 < l.getD 0 0 := by
  unfold polyE at h
  split at h
  · cases h
  · rename_i h1
    split at h
    · cases h
    · rename_i h2
      split at h
      · cases h
      · rename_i h3
        refine ⟨Classical.byContradiction h1, fun x hx => ?_, by omega⟩
        simp only [List.any_eq_true, not_exists, not_and, Bool.not_eq_true', Bool.not_eq_false] at h2
        have := h2 x hx
        simpa [smallB] using this
theorem schurOk_S {l : List Int} (h : polyE l = 0) : schurOk l = true ↔ S (cst l) := by
  obtain ⟨h1, h2, h3⟩ := polyE_ok h
  unfold schurOk
  rw [if_pos h]
  exact schur_S _ l 0 (Nat.le_refl _) h1.1 h3
end Go.Fac

namespace Go.Sh
open Go Go.Proofs Go.RowKit Go.Sx Go.Sx06 Go.Fac

/-- One row of a product. -/
def rowM (p q : List Int) (i : Nat) (acc : List Int) : Nat → List Int
  | 0 => acc
  | j + 1 => (rowM p q i acc j).set (i + j) ((rowM p q i acc j).getD (i + j) 0 + p.getD i 0 * q.getD j 0)
def prodM (p q : List Int) : Nat → List Int
  | 0 => List.replicate (p.length + q.length - 1) 0
  | i + 1 => rowM p q i (prodM p q i) q.length

theorem rowM_len (p q : List Int) (i : Nat) (acc : List Int) : ∀ j, (rowM p q i acc j).length = acc.length
  | 0 => rfl
  | j + 1 => by simp only [rowM, List.length_set, rowM_len p q i acc j]
theorem prodM_len (p q : List Int) : ∀ i, (prodM p q i).length = p.length + q.length - 1
  | 0 => by simp [prodM]
  | i + 1 => by rw [prodM, rowM_len, prodM_len p q i]

theorem getD_set (l : List Int) (m k : Nat) (c : Int) (h : m < l.length) : (l.set m c).getD k 0 = if k = m then c else l.getD k 0 := by
  by_cases hk : k = m
  · subst hk
    simp [List.getD, h]
  · have : m ≠ k := fun h => hk h.symm
    simp [List.getD, this, hk, List.getElem?_set]
theorem getD_in {l : List Int} (h : ∀ x ∈ l, -100 ≤ x ∧ x ≤ 100) (k : Nat) : -100 ≤ l.getD k 0 ∧ l.getD k 0 ≤ 100 := by
  by_cases hk : k < l.length
  · have := h l[k] (List.getElem_mem _)
    simpa [List.getD, hk] using this
  · simp [List.getD, hk]

theorem rowM_in {p q : List Int} (hp : ∀ x ∈ p, -100 ≤ x ∧ x ≤ 100) (hq : ∀ x ∈ q, -100 ≤ x ∧ x ≤ 100) (i : Nat) {acc : List Int} {B : Int} (hB : 0 ≤ B) (ha : ∀ k, -B ≤ acc.getD k 0 ∧ acc.getD k 0 ≤ B) :
    ∀ (j : Nat) (k : Nat), i + j ≤ acc.length → -(B + 10000 * j) ≤ (rowM p q i acc j).getD k 0 ∧ (rowM p q i acc j).getD k 0 ≤ B + 10000 * j
  | 0, k, _ => by
    have := ha k
    simp only [rowM]
    omega
  | j + 1, k, hj => by
    have h1 := rowM_in hp hq i hB ha j k (by omega)
    have h2 := rowM_in hp hq i hB ha j (i + j) (by omega)
    have h3 := mulB (a := 100) (b := 100) (by decide) (by decide) (getD_in hp i) (getD_in hq j)
    simp only [rowM]
    rw [getD_set _ _ _ _ (by rw [rowM_len]; omega)]
    split <;> omega

theorem times_inner {p q : List Int} (hp : ∀ x ∈ p, -100 ≤ x ∧ x ≤ 100) (hq : ∀ x ∈ q, -100 ≤ x ∧ x ≤ 100) (i : Nat) {acc y : List Int} {B : Int} (hB : 0 ≤ B) (hB' : B ≤ 1000000) (ha : ∀ k, -B ≤ acc.getD k 0 ∧ acc.getD k 0 ≤ B)
    (hi : i < p.length) (hl : acc.length = p.length + q.length - 1) (h6 : p.length + q.length ≤ 6) :
    iter (L06_times_b1 p q ((i : Int), y)) big (0, acc) = some (rowM p q i acc q.length) := by
  refine iter_upto (fun j => ((j : Int), rowM p q i acc j)) (k := q.length) (fun j hj => ?_) ?_ (by omega)
  · have h1 := rowM_in hp hq i hB ha j (i + j) (by omega)
    have h3 := mulB (a := 100) (b := 100) (by decide) (by decide) (getD_in hp i) (getD_in hq j)
    have hln := rowM_len p q i acc j
    unfold L06_times_b1
    dsimp only
    have ew : IntKind.i64.wrap ((i : Int) + (j : Int)) = ((i + j : Nat) : Int) := by
      rw [wr64 (by omega)]
      omega
    rw [ew, Int.toNat_natCast, Int.toNat_natCast, Int.toNat_natCast, if_pos (by omega), if_pos (by omega), if_pos (by omega), if_pos (by omega), if_pos (by omega), if_pos (by omega), if_pos (by omega), if_pos (by omega), if_pos (by omega)]
    rw [wr64 (x := (j : Int) + 1) (by omega), wr64 (x := p.getD i 0 * q.getD j 0) (by omega), wr64 (by omega)]
    rfl
  · unfold L06_times_b1
    dsimp only
    rw [if_neg (by omega)]

theorem prodM_in {p q : List Int} (hp : ∀ x ∈ p, -100 ≤ x ∧ x ≤ 100) (hq : ∀ x ∈ q, -100 ≤ x ∧ x ≤ 100) : ∀ (i : Nat) (k : Nat), i ≤ p.length → -(10000 * (i * q.length : Nat)) ≤ (prodM p q i).getD k 0 ∧ (prodM p q i).getD k 0 ≤ 10000 * (i * q.length : Nat)
  | 0, k, _ => by
    have : (prodM p q 0).getD k 0 = 0 := by
      simp only [prodM, List.getD]
      rw [List.getElem?_replicate]
      split <;> rfl
    rw [this]
    omega
  | i + 1, k, hi => by
    have h1 := rowM_in hp hq i (acc := prodM p q i) (B := 10000 * (i * q.length : Nat)) (by omega) (fun k => prodM_in hp hq i k (by omega)) q.length k (by rw [prodM_len]; omega)
    simp only [prodM]
    rw [Nat.add_mul]
    omega

theorem times_run {p q : List Int} (hp : ∀ x ∈ p, -100 ≤ x ∧ x ≤ 100) (hq : ∀ x ∈ q, -100 ≤ x ∧ x ≤ 100) (h1 : 2 ≤ p.length) (h2 : 2 ≤ q.length) (h6 : p.length + q.length ≤ 6) :
    iter (L06_times_b0 p q) big (0, List.replicate (p.length + q.length - 1) 0) = some (prodM p q p.length) := by
  have hm : p.length * q.length ≤ 4 * 4 := Nat.mul_le_mul (by omega) (by omega)
  refine iter_upto (body := L06_times_b0 p q) (fun i => ((i : Int), prodM p q i)) (k := p.length) (y := prodM p q p.length) (fun i hi => ?_) ?_ (by omega)
  · have hmi : i * q.length ≤ p.length * q.length := Nat.mul_le_mul_right _ (by omega)
    unfold L06_times_b0
    dsimp only
    rw [if_pos (by omega), times_inner hp hq i (B := 10000 * (i * q.length : Nat)) (by omega) (by omega) (fun k => prodM_in hp hq i k (by omega)) hi (prodM_len p q i) h6, bind_some']
    unfold L06_times_r1
    dsimp only
    rw [wr64 (by omega)]
    rfl
  · unfold L06_times_b0
    dsimp only
    rw [if_neg (by omega)]
theorem ap_set (x : Nat → Rat) (c : Int) : ∀ (l : List Int) (m : Nat), m < l.length → ap (cst (l.set m (l.getD m 0 + c))) x = fun k => ap (cst l) x k + (c : Rat) * Wn m x k
  | [], m, h => by simp at h
  | a :: l, 0, _ => by
    funext k
    simp only [List.set, List.getD, List.getElem?_cons_zero, Option.getD_some, cst, List.map, ap, Wn]
    rw [Rat.intCast_add]
    grind
  | a :: l, m + 1, h => by
    have ih := ap_set x c l m (by simpa using h)
    funext k
    simp only [List.set, List.getD, List.getElem?_cons_succ, cst, List.map, ap, Wn] at *
    rw [ih, W_add (fun k => ap (List.map (fun n : Int => (n : Rat)) l) x k) (fun k => (c : Rat) * Wn m x k), W_smul]
    grind
theorem take_get {q : List Int} {j : Nat} (h : j < q.length) : q.take (j + 1) = q.take j ++ [q.getD j 0] := by
  rw [List.take_succ_eq_append_getElem h]
  simp [List.getD, h]
theorem ap_take (x : Nat → Rat) {q : List Int} {j : Nat} (h : j < q.length) : ap (cst (q.take (j + 1))) x = fun k => ap (cst (q.take j)) x k + ((q.getD j 0 : Int) : Rat) * Wn j x k := by
  rw [take_get h]
  have e : cst (q.take j ++ [q.getD j 0]) = cst (q.take j) ++ [((q.getD j 0 : Int) : Rat)] := by simp [cst]
  rw [e, ap_append, ap_one, cst_len, List.length_take, Nat.min_eq_left (by omega), Wn_smul]
theorem row_ap (p q : List Int) (i : Nat) (acc : List Int) (x : Nat → Rat) : ∀ j, j ≤ q.length → i + j ≤ acc.length → 
    ap (cst (rowM p q i acc j)) x = fun k => ap (cst acc) x k + ((p.getD i 0 : Int) : Rat) * Wn i (ap (cst (q.take j)) x) k
  | 0, _, _ => by
    funext k
    simp only [rowM, List.take_zero, cst, List.map, ap]
    rw [Wn_zero]
    grind
  | j + 1, h, h' => by
    have ih := row_ap p q i acc x j (by omega) (by omega)
    simp only [rowM]
    rw [ap_set x _ _ _ (by rw [rowM_len]; omega), ih, ap_take x (by omega), Wn_add, Wn_smul, Wn_plus, Rat.intCast_mul]
    funext k
    grind
theorem prod_ap {p q : List Int} (x : Nat → Rat) (h2 : 1 ≤ q.length) : ∀ i, i ≤ p.length → ap (cst (prodM p q i)) x = ap (cst (p.take i)) (ap (cst q) x)
  | 0, _ => by
    have : ∀ n, ap (cst (List.replicate n 0)) x = fun _ => 0 := by
      intro n
      induction n with
      | zero => rfl
      | succ n ih =>
        funext k
        simp only [List.replicate_succ, cst, List.map, ap] at *
        rw [ih]
        cases k <;> simp only [Fac.W] <;> grind
    simp only [prodM]
    rw [this]
    rfl
  | i + 1, h => by
    have ih := prod_ap (p := p) (q := q) x h2 i (by omega)
    simp only [prodM]
    rw [row_ap p q i _ x q.length (Nat.le_refl _) (by rw [prodM_len]; omega), ih, ap_take (ap (cst q) x) (by omega), List.take_length]

theorem S_prod {p q : List Int} (h2 : 1 ≤ q.length) : S (cst (prodM p q p.length)) ↔ S (cst p) ∧ S (cst q) := by
  rw [← S_mul]
  refine S_congr fun x => ?_
  rw [prod_ap x h2 p.length (Nat.le_refl _), List.take_length, ap_mulL]

theorem schur_prod {p q : List Int} (hp : polyE p = 0) (hq : polyE q = 0) (hr : polyE (prodM p q p.length) = 0) : schurOk (prodM p q p.length) = (schurOk p && schurOk q) := by
  have h1 := schurOk_S hp
  have h2 := schurOk_S hq
  have h3 := schurOk_S hr
  have h4 := S_prod (p := p) (q := q) (by have := (Fac.polyE_ok hq).1.1; omega)
  rw [Bool.eq_iff_iff, Bool.and_eq_true, h1, h2, h3, h4]

end Go.Sh

namespace Go.Sh
open Go Go.Proofs Go.RowKit Go.Sx Go.Sx06

theorem copy_eq {c : List (List Int)} (h : c.length ≤ 1000000000000) : R06_Copy c = some c := by
  unfold R06_Copy
  rw [if_pos (by omega), List.nil_append]

theorem bounds_chk {c : List (List Int)} (h : chkE c = 0) : c.length ≤ 6 ∧ ∀ r ∈ c, chkRow r = 0 := by
  unfold chkE at h
  split at h
  · omega
  · rename_i h6
    refine ⟨by omega, fun r hr => ?_⟩
    cases hf : c.findIdx? (fun r => chkRow r != 0) with
    | none =>
      rw [List.findIdx?_eq_none_iff] at hf
      simpa using hf r hr
    | some k =>
      rw [hf] at h
      rw [List.findIdx?_eq_some_iff_getElem] at hf
      obtain ⟨hk, hp, _⟩ := hf
      simp [List.getD, hk] at h
      simp [h] at hp

end Go.Sh

namespace Go.Sh
open Go Go.Proofs Go.RowKit Go.Sx Go.Sx06

end Go.Sh

namespace Go.Sh
open Go Go.Proofs Go.RowKit Go.Sx Go.Sx06

/-- Is a section stable? -/
def stB (a0 a1 : Int) : Bool := decide (max a1 (-a1) < 16384) && decide (max a0 (-a0) < 16384 + a1)
def stR (r : List Int) : Bool := stB (r.getD 3 0) (r.getD 4 0)

theorem secB_chk {b0 b1 b2 a0 a1 : Int} (h : chkS b0 b1 b2 a0 a1 = 0) : secB b0 b1 b2 a0 a1 = true := by
  unfold chkS at h
  split at h
  · assumption
  · omega

theorem unstable1_eq {r : List Int} (h : chkRow r = 0) : F_FirstUnstable_1 (r.getD 0 0) (r.getD 1 0) (r.getD 2 0) (r.getD 3 0) (r.getD 4 0) = some (!stR r) := by
  unfold F_FirstUnstable_1
  rw [if_pos (secB_chk h)]
  rfl

theorem isStableF_eq (b0 b1 b2 a0 a1 : Int) : F_IsStable b0 b1 b2 a0 a1 = some (if chkS b0 b1 b2 a0 a1 = 0 then (stB a0 a1, 0) else (false, chkS b0 b1 b2 a0 a1)) := by
  unfold F_IsStable
  by_cases h : chkS b0 b1 b2 a0 a1 = 0
  · rw [if_neg (by simpa using h), if_pos (secB_chk h), if_pos h]
    rfl
  · rw [if_pos (by simpa using h), if_neg h]

/-- The number of the first unstable section. -/
def fuS (c : List (List Int)) : Int × Int := match c.findIdx? (fun r => !stR r) with
  | some i => ((i : Int), 0)
  | none => (0, 12)

theorem indexFunc_eq {c : List (List Int)} (h : chkE c = 0) : slices_IndexFunc_FilterSection c = some (match c.findIdx? (fun r => !stR r) with | some i => (i : Int) | none => -1) := by
  obtain ⟨hl, hrow⟩ := bounds_chk h
  have hrun := iter_first c [] (fun r => !stR r) (body := slices_IndexFunc_FilterSection_b0 c) (fun i => .inl (i : Int)) (.inr ()) (by omega)
    (fun i hi hp => by
      unfold slices_IndexFunc_FilterSection_b0
      rw [if_pos (by omega), if_pos (by omega), if_pos (by omega), Int.toNat_natCast, unstable1_eq (hrow _ (by simp [List.getD, hi])), bind_some', if_pos hp])
    (fun i hi hp => by
      unfold slices_IndexFunc_FilterSection_b0
      rw [if_pos (by omega), if_pos (by omega), if_pos (by omega), Int.toNat_natCast, unstable1_eq (hrow _ (by simp [List.getD, hi])), bind_some', if_neg (by rw [hp]; simp), wr64 (by omega)])
    (by unfold slices_IndexFunc_FilterSection_b0; rw [if_neg (by omega)])
  unfold slices_IndexFunc_FilterSection
  rw [hrun]
  cases c.findIdx? (fun r => !stR r) <;> rfl

theorem firstUnstableF_eq {c : List (List Int)} (hl : c.length ≤ 1000000000) : F_FirstUnstable c = some (if chkE c = 0 then fuS c else (0, chkE c)) := by
  unfold F_FirstUnstable
  rw [if_pos hl]
  by_cases h : chkE c = 0
  · rw [if_neg (by simpa using h), if_pos h, indexFunc_eq h, bind_some']
    unfold fuS
    cases c.findIdx? (fun r => !stR r) with
    | none => rfl
    | some i =>
      simp only
      rw [if_neg (by omega)]
  · rw [if_pos (by simpa using h), if_neg h]

end Go.Sh

namespace Go.Sh
open Go Go.Proofs Go.RowKit Go.Sx Go.Sx06 Go.Fac

def in6 (n : Int) : Prop := -6 ≤ n ∧ n ≤ 6
theorem schur_two_fin : ∀ i j : Fin 13, polyE [4, (i.val : Int) - 6, (j.val : Int) - 6] = 0 ∧ schurOk [4, (i.val : Int) - 6, (j.val : Int) - 6] = stB (((i.val : Int) - 6) * 4096) (((j.val : Int) - 6) * 4096) := by decide +kernel
theorem schur_two {p0 p1 : Int} (h0 : in6 p0) (h1 : in6 p1) : polyE [4, p0, p1] = 0 ∧ schurOk [4, p0, p1] = stB (p0 * 4096) (p1 * 4096) := by
  unfold in6 at *
  have := schur_two_fin ⟨(p0 + 6).toNat, by omega⟩ ⟨(p1 + 6).toNat, by omega⟩
  dsimp only at this
  rw [show ((p0 + 6).toNat : Int) - 6 = p0 by omega, show ((p1 + 6).toNat : Int) - 6 = p1 by omega] at this
  exact this

theorem top_b0 (p0 p1 q0 q1 : Int) : T_TopStableSections_b0 p0 p1 q0 q1 = L06_times_b0 [4, p0, p1] [4, q0, q1] := rfl

theorem prod_two (p0 p1 q0 q1 : Int) : prodM [4, p0, p1] [4, q0, q1] 3 = [16, 4 * q0 + p0 * 4, 4 * q1 + p0 * q0 + p1 * 4, p0 * q1 + p1 * q0, p1 * q1] := by
  simp [prodM, rowM, List.replicate]

theorem poly_prod {p0 p1 q0 q1 : Int} (h0 : in6 p0) (h1 : in6 p1) (g0 : in6 q0) (g1 : in6 q1) : polyE (prodM [4, p0, p1] [4, q0, q1] 3) = 0 := by
  unfold in6 at *
  have k1 := mulB (a := 6) (b := 6) (by decide) (by decide) h0 g0
  have k2 := mulB (a := 6) (b := 6) (by decide) (by decide) h0 g1
  have k3 := mulB (a := 6) (b := 6) (by decide) (by decide) h1 g0
  have k4 := mulB (a := 6) (b := 6) (by decide) (by decide) h1 g1
  rw [prod_two]
  unfold polyE
  rw [if_neg (by simp), if_neg ?_, if_neg (by simp)]
  simp only [List.any_cons, List.any_nil, smallB, Bool.or_false, Bool.or_eq_true, Bool.not_eq_true', Bool.and_eq_false_iff, decide_eq_false_iff_not]
  omega

theorem sec_chk {p0 p1 : Int} (h0 : in6 p0) (h1 : in6 p1) : chkS 16384 0 0 (p0 * 4096) (p1 * 4096) = 0 := by
  unfold in6 at *
  unfold chkS
  rw [if_pos]
  simp [partB]
  omega

theorem chk_two {r s : List Int} (h1 : chkRow r = 0) (h2 : chkRow s = 0) : chkE [r, s] = 0 := by
  unfold chkE
  rw [if_neg (by simp)]
  simp [List.findIdx?, List.findIdx?.go, h1, h2]
theorem fu_two (r s : List Int) : (fuS [r, s]).2 = (if stR r = true ∧ stR s = true then 12 else 0) := by
  unfold fuS
  cases h1 : stR r <;> cases h2 : stR s <;> simp [List.findIdx?, List.findIdx?.go, h1, h2]

theorem topStable_true (p0 p1 q0 q1 : Int) : T_TopStableSections p0 p1 q0 q1 = some true := by
  unfold T_TopStableSections
  by_cases h0 : in6 p0
  · rw [if_neg (by unfold in6 at h0; simp; omega)]
    by_cases h1 : in6 p1
    · rw [if_neg (by unfold in6 at h1; simp; omega)]
      have e0 : IntKind.i64.wrap (p0 * 4096) = p0 * 4096 := by unfold in6 at h0; exact wr64 (by omega)
      have e1 : IntKind.i64.wrap (p1 * 4096) = p1 * 4096 := by unfold in6 at h1; exact wr64 (by omega)
      rw [e0, e1, if_pos (by simp), if_pos (by simp), if_pos (by simp)]
      have es : ([] ++ [[16384, 0, 0, p0 * 4096, p1 * 4096]] : List (List Int)).getD 0 [] = [16384, 0, 0, p0 * 4096, p1 * 4096] := rfl
      rw [es]
      simp only [List.getD, List.getElem?_cons_zero, List.getElem?_cons_succ, Option.getD_some]
      obtain ⟨s1, s2⟩ := schur_two h0 h1
      rw [isStableF_eq, if_pos (sec_chk h0 h1), bind_some', if_pos (by simp), if_pos (by simp), if_neg (by simp), if_neg (by simp [s1]), if_neg (by rw [s2]; simp)]
      by_cases h2 : in6 q0
      · rw [if_neg (by unfold in6 at h2; simp; omega)]
        by_cases h3 : in6 q1
        · rw [if_neg (by unfold in6 at h3; simp; omega)]
          have f0 : IntKind.i64.wrap (q0 * 4096) = q0 * 4096 := by unfold in6 at h2; exact wr64 (by omega)
          have f1 : IntKind.i64.wrap (q1 * 4096) = q1 * 4096 := by unfold in6 at h3; exact wr64 (by omega)
          have ew : IntKind.i64.wrap ((0 : Int) + 1) = 1 := by decide
          rw [f0, f1, ew, if_pos (by simp), if_pos (by simp), if_pos (by simp)]
          simp only [List.nil_append, List.cons_append, List.getElem?_cons_zero, List.getElem?_cons_succ, Option.getD_some]
          obtain ⟨t1, t2⟩ := schur_two h2 h3
          rw [isStableF_eq, if_pos (sec_chk h2 h3), bind_some', if_pos (by simp), if_pos (by simp), if_neg (by simp), if_neg (by simp [t1]), if_neg (by rw [t2]; simp)]
          have hit := times_run (p := [4, p0, p1]) (q := [4, q0, q1]) (by unfold in6 at *; simp; omega) (by unfold in6 at *; simp; omega) (by simp) (by simp) (by simp)
          have hrun : iter (T_TopStableSections_b0 p0 p1 q0 q1) big (0, List.replicate 5 0) = some (prodM [4, p0, p1] [4, q0, q1] 3) := by
            rw [top_b0]
            exact hit
          rw [hrun, bind_some']
          have hp := poly_prod h0 h1 h2 h3
          have hs := schur_prod s1 t1 hp
          unfold T_TopStableSections_r0
          rw [e0, e1, f0, f1, if_pos (by rw [prod_two]; simp), copy_eq (by simp), bind_some', firstUnstableF_eq (by simp), bind_some', if_pos (by simpa using hp)]
          have hchk : chkE ([] ++ [[16384, 0, 0, p0 * 4096, p1 * 4096]] ++ [[16384, 0, 0, q0 * 4096, q1 * 4096]]) = 0 := chk_two (sec_chk h0 h1) (sec_chk h2 h3)
          have hfu : (fuS ([] ++ [[16384, 0, 0, p0 * 4096, p1 * 4096]] ++ [[16384, 0, 0, q0 * 4096, q1 * 4096]])).2 = (if stB (p0 * 4096) (p1 * 4096) = true ∧ stB (q0 * 4096) (q1 * 4096) = true then 12 else 0) := fu_two _ _
          rw [if_pos hchk, hfu, show schurOk (prodM [4, p0, p1] [4, q0, q1] 3) = _ from hs, s2, t2]
          cases stB (p0 * 4096) (p1 * 4096) <;> cases stB (q0 * 4096) (q1 * 4096) <;> rfl
        · rw [if_pos (by unfold in6 at h3; simp; omega)]
      · rw [if_pos (by unfold in6 at h2; simp; omega)]
    · rw [if_pos (by unfold in6 at h1; simp; omega)]
  · rw [if_pos (by unfold in6 at h0; simp; omega)]
end Go.Sh
