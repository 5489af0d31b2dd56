import Derived.Test.YtflnhihdbhjlnaaMem4
import Derived.ChangeKeysEq
import Derived.Laws.StructEq
/-! '==' of arrays and structs. -/
set_option linter.unusedVariables false
set_option linter.unusedSimpArgs false
namespace Go.Dn
open Go Go.RowKit
section m5
variable {P : Program} {t : TypeId} {w : World} {K : Value → World → Prop}
theorem eqItems_int {e : TypeId} {k : IntKind} (d : Nat) (ho : oneT P e = true) (he : P.underlying e = some (.int k)) (xs ys : List Int) (hl : xs.length = ys.length) (w : World) : ∀ (m i : Nat), i + m = xs.length →
    (Op.eqItems (d + 1) e 1 ⟨xs.map (Value.int k)⟩ ⟨ys.map (Value.int k)⟩ (List.range' i m)).run P w = .ok (decide (xs.drop i = ys.drop i)) w := by
  intro m
  induction m with
  | zero =>
    intro i hi
    rw [List.drop_of_length_le (by omega), List.drop_of_length_le (by omega)]
    simp [List.range'_zero, Op.eqItems, Sem.run_pure]
  | succ m ih =>
    intro i hi
    have hx : i < xs.length := by omega
    have hy : i < ys.length := by omega
    have h1 := part_one (P := P) (cs := ⟨xs.map (Value.int k)⟩) (o := i * 1) (v := .int k xs[i]) ho (by simp [hx]) w
    have h2 := part_one (P := P) (cs := ⟨ys.map (Value.int k)⟩) (o := i * 1) (v := .int k ys[i]) ho (by simp [hy]) w
    rw [List.range'_succ, Op.eqItems]
    simp only [Sem.run_bind, h1, h2, Result.andThen_ok, eqIn_int d _ _ he]
    have key : (xs.drop i = ys.drop i) ↔ (xs[i] = ys[i] ∧ xs.drop (i + 1) = ys.drop (i + 1)) := by
      conv => lhs; rw [List.drop_eq_getElem_cons hx, List.drop_eq_getElem_cons hy]
      rw [List.cons.injEq]
    by_cases hxy : xs[i] = ys[i]
    · have : (xs[i] == ys[i]) = true := by simpa using hxy
      rw [this]
      simp only [Bool.not_true, Bool.false_eq_true, if_false]
      rw [ih (i + 1) (by omega)]
      congr 1
      rw [decide_eq_decide, key]
      exact ⟨fun h => ⟨hxy, h⟩, fun h => h.2⟩
    · have : (xs[i] == ys[i]) = false := by simpa using hxy
      rw [this]
      simp only [Bool.not_false, if_true, Sem.run_pure]
      congr 1
      rw [eq_comm, decide_eq_false_iff_not, key]
      exact fun h => hxy h.1
theorem eqA_int {e : TypeId} {n : Nat} {k : IntKind} (hu : P.underlying t = some (.array n e)) (ho : oneT P e = true) (he : P.underlying e = some (.int k)) (d : Nat) (xs ys : List Int) (hx : xs.length = n) (hy : ys.length = n) (w : World) :
    (Op.equalIn (d + 2) t (.agg ⟨xs.map (Value.int k)⟩) (.agg ⟨ys.map (Value.int k)⟩)).run P w = .ok (decide (xs = ys)) w := by
  obtain ⟨i, hi⟩ : ∃ i, P.info? e = some i := by
    unfold oneT at ho
    rw [he] at ho
    simp only at ho
    split at ho
    · rename_i i hi; exact ⟨i, hi⟩
    · cases ho
  have hc : P.cellsOf e = 1 := by
    have h1 := sizeOf_one ho w
    rw [sizeOf_run hi] at h1
    injection h1 with h1
    unfold Program.cellsOf
    rw [hi]
    exact h1
  rw [run_equalIn_array w (d + 1) _ _ hu hi, hc, List.range_eq_range', eqItems_int d ho he xs ys (by omega) w n 0 (by omega)]
  rfl
theorem guard_agg {op : BinOp} (hg : P.eqGuardType P.depth t = false) (xs ys : Array Value) (c : Bool) (w' : World) :
    (eqGuard op t (if c = true then .const (.agg xs) else .tmp 0) (.tmp 0) (.agg xs) (.agg ys)).run P w' = .ok () w' := by
  unfold eqGuard program
  cases op <;> first | rfl | simp [Sem.run_bind, Sem.run, hg]
theorem bin_eqA {xs ys : Array Value} {b : Bool} (hg : P.eqGuardType P.depth t = false) (h : ∀ w', (Op.equalIn 10000 t (.agg xs) (.agg ys)).run P w' = .ok b w') : wBin P .eql t (.agg xs) (.agg ys) w K = K (.bool b) w :=
  bin_eq_of (by simp) (by simp) (by simp) (by simp) (fun c w' => guard_agg hg xs ys c w') h
theorem bin_neA {xs ys : Array Value} {b : Bool} (hg : P.eqGuardType P.depth t = false) (h : ∀ w', (Op.equalIn 10000 t (.agg xs) (.agg ys)).run P w' = .ok b w') : wBin P .neq t (.agg xs) (.agg ys) w K = K (.bool (!b)) w :=
  bin_ne_of (by simp) (by simp) (by simp) (by simp) (fun c w' => guard_agg hg xs ys c w') h
theorem bin_eqA2 {xs ys : Array Value} {b : Bool} (hg : P.eqGuardType P.depth t = false) (h : ∀ d w', (Op.equalIn (d + 2) t (.agg xs) (.agg ys)).run P w' = .ok b w') : wBin P .eql t (.agg xs) (.agg ys) w K = K (.bool b) w :=
  bin_eqA hg (fun w' => h 9998 w')
theorem bin_neA2 {xs ys : Array Value} {b : Bool} (hg : P.eqGuardType P.depth t = false) (h : ∀ d w', (Op.equalIn (d + 2) t (.agg xs) (.agg ys)).run P w' = .ok b w') : wBin P .neq t (.agg xs) (.agg ys) w K = K (.bool (!b)) w :=
  bin_neA hg (fun w' => h 9998 w')
theorem Own.of_blk {w : World} {base g n size : Nat} {e : TypeId} {cs : List Value} (B : Blk w g e cs) (hl : cs.length = n * size) (hb : base ≤ g) (hn : n ≤ 9223372036854775807) : Own w base e size (.slice (some ⟨g, 0, none⟩) n n) cs :=
  ⟨n, hl, .inr ⟨g, n, ⟨cs⟩, rfl, hb, B, Nat.le_refl _, by simp only [maxLen]; omega, hl, by rw [← hl]; simp⟩⟩
end m5
end Go.Dn
