import Ieee.Arith
import GoSem.Core.Float
/-! Plain facts on floats. -/
set_option linter.unusedVariables false
set_option linter.unusedSimpArgs false
namespace Go.Dn
open Ieee
theorem d_binade : double.binade = 4503599627370496 := rfl
theorem d_inf : double.infRung = 9218868437227405312 := rfl
theorem d_sign : double.signWeight = 9223372036854775808 := rfl
theorem d_least : double.leastPlace = -1074 := rfl
theorem read_word (neg : Bool) {r : Nat} (h : r < 9223372036854775808) : double.read (double.word neg r) =
    if r < double.binade then .number neg r double.leastPlace
    else if r < double.infRung then .number neg (double.binade + r % double.binade) (double.leastPlace + (r / double.binade - 1 : Nat))
    else if r = double.infRung then .infinity neg
    else .nan neg (r - double.infRung) := by
  unfold Format.read Format.word
  have e1 : ((if neg = true then double.signWeight + r else r) / double.signWeight % 2 == 1) = neg := by
    rw [d_sign]
    cases neg
    · simp; omega
    · simp; omega
  have e2 : (if neg = true then double.signWeight + r else r) % double.signWeight = r := by
    rw [d_sign]
    cases neg
    · simp; omega
    · simp; omega
  simp only [e1, e2]
theorem nearest_word (neg : Bool) (m : Nat) (p : Int) : ∃ r, r ≤ double.infRung ∧ double.nearest neg m p = double.word neg r := by
  unfold Format.nearest
  split
  · exact ⟨0, Nat.zero_le _, rfl⟩
  · exact ⟨_, Nat.min_le_right _ _, rfl⟩
def isNum : Datum → Bool
  | .nan .. => false
  | _ => true
theorem order_self {d : Datum} (h : isNum d = true) : d.order d = some .eq := by
  cases d with
  | number s m e => simp [Datum.order]
  | infinity s => simp [Datum.order]
  | nan s f => cases h
theorem read_write {d : Datum} (h : isNum d = true) : isNum (double.read (double.write d)) = true := by
  have key : ∀ neg r, r ≤ double.infRung → isNum (double.read (double.word neg r)) = true := by
    intro neg r hr
    rw [d_inf] at hr
    rw [read_word neg (by omega), d_binade, d_inf]
    repeat' split
    all_goals first | rfl | omega
  cases d with
  | number s m e =>
    obtain ⟨r, hr, he⟩ := nearest_word s m e
    show isNum (double.read (double.nearest s m e)) = true
    rw [he]; exact key s r hr
  | infinity s => exact key s _ (Nat.le_refl _)
  | nan s f => cases h
theorem write_self {d : Datum} (h : isNum d = true) : double.order (double.write d) (double.write d) = some .eq := order_self (read_write h)
theorem cut0 (neg : Bool) (x : Nat) : Toward.even.cut neg x 0 = x := by
  simp [Toward.cut, Nat.mod_one]
theorem nearest_int {m : Nat} (neg : Bool) (h0 : m ≠ 0) (h1 : m < 2 ^ 51) : ∃ r, 4503599627370496 ≤ r ∧ r < 9218868437227405312 ∧ double.nearest neg m 0 = double.word neg r := by
  have hL : m.log2 < 51 := (Nat.log2_lt h0).2 h1
  have hlo : 2 ^ m.log2 ≤ m := Nat.log2_self_le h0
  have hhi : m < 2 ^ (m.log2 + 1) := Nat.lt_log2_self
  unfold Format.nearest
  rw [if_neg h0]
  have hf : (double.fractionBits : Int) = 52 := rfl
  have e1 : max (0 + (m.log2 : Int) - (double.fractionBits : Int)) (-1074 : Int) = (m.log2 : Int) - 52 := by rw [hf]; omega
  simp only [d_least, d_binade, d_inf]
  rw [e1]
  have e2 : ((m.log2 : Int) - 52 - 0).toNat = 0 := by omega
  have e3 : (0 - ((m.log2 : Int) - 52)).toNat = 52 - m.log2 := by omega
  have e4 : ((m.log2 : Int) - 52 - -1074).toNat = m.log2 + 1022 := by omega
  rw [e2, e3, e4, cut0, Nat.shiftLeft_eq]
  have p1 : 2 ^ m.log2 * 2 ^ (52 - m.log2) = 4503599627370496 := by
    rw [← Nat.pow_add, show m.log2 + (52 - m.log2) = 52 by omega]
  have p2 : 2 ^ (m.log2 + 1) * 2 ^ (52 - m.log2) = 9007199254740992 := by
    rw [← Nat.pow_add, show m.log2 + 1 + (52 - m.log2) = 53 by omega]
  have q1 := Nat.mul_le_mul_right (2 ^ (52 - m.log2)) hlo
  have q2 : m * 2 ^ (52 - m.log2) < 2 ^ (m.log2 + 1) * 2 ^ (52 - m.log2) := Nat.mul_lt_mul_of_pos_right hhi (Nat.pow_pos (by decide))
  rw [p1] at q1
  rw [p2] at q2
  generalize hX : m * 2 ^ (52 - m.log2) = X at *
  generalize hLL : m.log2 = L at *
  clear p1 p2 e1 e2 e3 e4 hX hlo hhi
  have a1 : (L + 1022) * 4503599627370496 ≤ 1072 * 4503599627370496 := Nat.mul_le_mul_right _ (by omega)
  have a2 : (L + 1022) * 4503599627370496 + X < 9218868437227405312 := by omega
  rw [Nat.min_eq_left (Nat.le_of_lt a2)]
  exact ⟨(L + 1022) * 4503599627370496 + X, Nat.le_trans q1 (Nat.le_add_left _ _), a2, rfl⟩
theorem near_z (neg : Bool) (p : Int) : double.nearest neg 0 p = double.word neg 0 := by
  unfold Format.nearest
  exact if_pos rfl
theorem near_0 : double.nearest (decide ((0 : Int) < 0)) (0 : Int).natAbs 0 = double.word (decide ((0 : Int) < 0)) 0 := near_z _ _
/-- The float of a small integer. -/
theorem read_int {n : Int} (h : -1125899906842624 ≤ n ∧ n ≤ 1125899906842624) : ∃ m e, double.read (FloatKind.f64.nearest n) = .number (decide (n < 0)) m e ∧ (m = 0 ↔ n = 0) := by
  show ∃ m e, double.read (double.nearest (decide (n < 0)) n.natAbs 0) = .number (decide (n < 0)) m e ∧ (m = 0 ↔ n = 0)
  by_cases h0 : n = 0
  · subst h0
    rw [near_0, read_word _ (by omega), if_pos (by rw [d_binade]; omega)]
    exact ⟨0, _, rfl, by simp⟩
  · obtain ⟨r, hr1, hr2, hr⟩ := nearest_int (m := n.natAbs) (decide (n < 0)) (by omega) (by
      have : (2 : Nat) ^ 51 = 2251799813685248 := rfl
      omega)
    rw [hr, read_word _ (by omega), d_binade, d_inf, if_neg (by omega), if_pos hr2]
    exact ⟨_, _, rfl, by omega⟩
/-- Division of small integers. -/
theorem div_ne {a b : Int} (ha : -1125899906842624 ≤ a ∧ a ≤ 1125899906842624) (hb : -1125899906842624 ≤ b ∧ b ≤ 1125899906842624) (h0 : b ≠ 0) :
    ∃ r, double.div (FloatKind.f64.nearest a) (FloatKind.f64.nearest b) = some r ∧ double.order r r = some .eq := by
  obtain ⟨m, e, h1, _⟩ := read_int ha
  obtain ⟨n, f, h2, h3⟩ := read_int hb
  have hn : n ≠ 0 := fun h => h0 (h3.1 h)
  unfold Format.div
  rw [h1, h2]
  simp only [Datum.quotient, if_neg hn, Option.map_some]
  exact ⟨_, rfl, write_self rfl⟩
theorem read_0 : double.read (FloatKind.f64.nearest 0) = .number false 0 (-1074) := by
  show double.read (double.nearest (decide ((0 : Int) < 0)) (0 : Int).natAbs 0) = _
  rw [near_0, read_word _ (by omega), if_pos (by rw [d_binade]; omega), d_least]
  rfl
theorem div_z0 : double.div (FloatKind.f64.nearest 0) (FloatKind.f64.nearest 0) = none := by
  unfold Format.div
  rw [read_0]
  rfl
theorem div_z {a : Int} (ha : -1125899906842624 ≤ a ∧ a ≤ 1125899906842624) (h0 : a ≠ 0) : double.div (FloatKind.f64.nearest a) (FloatKind.f64.nearest 0) = some (double.word (decide (a < 0)) double.infRung) := by
  obtain ⟨m, e, h1, h3⟩ := read_int ha
  have hm : m ≠ 0 := fun h => h0 (h3.1 h)
  unfold Format.div
  rw [h1, read_0]
  simp [Datum.quotient, hm, Format.write]
theorem inf_gt : double.order (double.word false double.infRung) 9094988921128908188 = some .gt := by decide
theorem inf_lt : double.order (double.word true double.infRung) 18318360957983683996 = some .lt := by decide
theorem nan_ne (x : Nat) (hx : ∃ t : Nat, x = (t % 2) * 2 ^ 63 + 0x7ff0000000000000 + 1 + (t / 2) % (2 ^ 52 - 1)) : double.order x x = none := by
  obtain ⟨t, rfl⟩ := hx
  have e : (t % 2) * 2 ^ 63 + 0x7ff0000000000000 + 1 + (t / 2) % (2 ^ 52 - 1) = double.word (t % 2 == 1) (0x7ff0000000000000 + 1 + (t / 2) % (2 ^ 52 - 1)) := by
    unfold Format.word
    rw [d_sign]
    rcases Nat.mod_two_eq_zero_or_one t with h | h <;> simp [h] <;> omega
  have hlt : (t / 2) % (2 ^ 52 - 1) < 2 ^ 52 - 1 := Nat.mod_lt _ (by decide)
  rw [e]
  unfold Format.order
  rw [read_word _ (by omega), d_binade, d_inf, if_neg (by omega), if_neg (by omega), if_neg (by omega)]
  rfl
end Go.Dn
