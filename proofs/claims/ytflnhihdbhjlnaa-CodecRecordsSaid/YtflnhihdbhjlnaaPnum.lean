/-! Bytes and numbers, plain. -/
set_option linter.unusedVariables false
set_option linter.unusedSimpArgs false
namespace Go.Dn
/-- A number's lowest bytes. -/
def low (n : Nat) : Nat → List Nat
  | 0 => []
  | w + 1 => n % 256 :: low (n / 256) w
/-- The number of bytes. -/
def numOf : List Nat → Nat
  | [] => 0
  | b :: l => b + 256 * numOf l
theorem low_length (n w : Nat) : (low n w).length = w := by
  induction w generalizing n with
  | zero => rfl
  | succ w ih => simp [low, ih]
theorem low_lt (n w : Nat) : ∀ b ∈ low n w, b < 256 := by
  induction w generalizing n with
  | zero => intro b hb; simp [low] at hb
  | succ w ih =>
    intro b hb
    rcases List.mem_cons.1 hb with rfl | hb
    · omega
    · exact ih _ b hb
theorem numOf_lt (l : List Nat) (h : ∀ b ∈ l, b < 256) : numOf l < 256 ^ l.length := by
  induction l with
  | nil => simp [numOf]
  | cons b l ih =>
    have h1 := h b (List.mem_cons_self ..)
    have h2 := ih fun x hx => h x (List.mem_cons_of_mem _ hx)
    simp only [numOf, List.length_cons, Nat.pow_succ]
    omega
theorem numOf_low (n w : Nat) : numOf (low n w) = n % 256 ^ w := by
  induction w generalizing n with
  | zero => simp [low, numOf, Nat.mod_one]
  | succ w ih =>
    simp only [low, numOf, ih]
    rw [Nat.pow_succ, Nat.mul_comm (256 ^ w) 256, Nat.mod_mul]
theorem low_numOf (l : List Nat) (h : ∀ b ∈ l, b < 256) : low (numOf l) l.length = l := by
  induction l with
  | nil => rfl
  | cons b l ih =>
    have h1 := h b (List.mem_cons_self ..)
    simp only [List.length_cons, low, numOf]
    rw [show (b + 256 * numOf l) % 256 = b by omega, show (b + 256 * numOf l) / 256 = numOf l by omega, ih fun x hx => h x (List.mem_cons_of_mem _ hx)]
theorem low_get (n w i : Nat) (h : i < w) : (low n w)[i]? = some (n / 256 ^ i % 256) := by
  induction w generalizing n i with
  | zero => omega
  | succ w ih =>
    cases i with
    | zero => simp [low]
    | succ i =>
      simp only [low, List.getElem?_cons_succ]
      rw [ih _ _ (by omega), Nat.pow_succ, Nat.div_div_eq_div_mul, Nat.mul_comm]
theorem low_append (n a b : Nat) : low n (a + b) = low n a ++ low (n / 256 ^ a) b := by
  induction a generalizing n with
  | zero => simp [low]
  | succ a ih =>
    rw [show a + 1 + b = (a + b) + 1 by omega]
    simp only [low, ih, List.cons_append]
    rw [Nat.div_div_eq_div_mul, Nat.pow_succ, Nat.mul_comm 256]
theorem low_snoc (n a : Nat) : low n (a + 1) = low n a ++ [n / 256 ^ a % 256] := by
  rw [low_append]; rfl
theorem numOf_snoc (l : List Nat) (b : Nat) : numOf (l ++ [b]) = numOf l + 256 ^ l.length * b := by
  induction l with
  | nil => simp [numOf]
  | cons x l ih =>
    simp only [List.cons_append, numOf, ih, List.length_cons, Nat.pow_succ]
    rw [Nat.mul_add, Nat.add_assoc]
    congr 2
    rw [← Nat.mul_assoc, Nat.mul_comm 256]
end Go.Dn
