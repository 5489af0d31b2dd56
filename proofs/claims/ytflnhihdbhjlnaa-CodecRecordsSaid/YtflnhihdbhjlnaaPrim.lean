import Derived.Test.YtflnhihdbhjlnaaDen
import Derived.Below
import Derived.IntWalk
import Derived.Maps.AppendAt
import Derived.Deep.AppendLies
/-! The texts' heads at values of known form. -/
set_option linter.unusedVariables false
set_option linter.unusedSimpArgs false
namespace Go.Dn
open Go
attribute [local semireducible] wCall wCallV wInvoke callW wNext wLoad wStore wBox wAlloc wBuild wBuildS wBin wBinF wUn wConv wIface wFunc wMakeMap wMake wSlice wFieldA wField wIndexA wIndex wLookup wMapSet wExtract wLen wBuiltin wRange wNextI wEntry wNil wOther wKeep

/-! Control. -/
theorem wIf_i {A B : Prop} (b : Bool) (hA : b = true → A) (hB : b = false → B) : wIf (.bool b) A B := by
  cases b
  · exact hB rfl
  · exact hA rfl
theorem wIf_d {A B : Prop} {c : Prop} [Decidable c] (hA : c → A) (hB : ¬ c → B) : wIf (.bool (decide c)) A B := by
  by_cases h : c
  · rw [decide_eq_true h]; exact hA h
  · rw [decide_eq_false h]; exact hB h
theorem wIf_t {A B : Prop} : wIf (.bool true) A B = A := rfl
theorem wIf_f {A B : Prop} : wIf (.bool false) A B = B := rfl
theorem wIf_dt {A B : Prop} {c : Prop} [Decidable c] (h : c) : wIf (.bool (decide c)) A B = A := by rw [decide_eq_true h]; rfl
theorem wIf_df {A B : Prop} {c : Prop} [Decidable c] (h : ¬ c) : wIf (.bool (decide c)) A B = B := by rw [decide_eq_false h]; rfl
theorem wPick_b (b : Bool) (x y : Value) (w : World) (k : Value → World → Prop) : wPick (.bool b) x y w k = k (if b = true then x else y) w := rfl
/-- A guarded part that comes to a truth. -/
theorem wGrp_and {b r : Bool} {body : (Value → World → Prop) → Prop} {w : World} {k : Env → Value → World → Prop} (h : b = true → ∀ k', k' (.bool r) w → body k')
    (hk : ∀ J v, (b = true → v = .bool r) → k J v w) : wGrp (.bool b) true body w k := by
  unfold wGrp
  cases b
  · simp only [Bool.false_eq_true, if_false]
    exact fun J => hk J undef (fun h => by cases h)
  · simp only [if_true]
    exact h rfl _ fun J => hk J (.bool r) fun _ => rfl
theorem wGrp_or {b r : Bool} {body : (Value → World → Prop) → Prop} {w : World} {k : Env → Value → World → Prop} (h : b = false → ∀ k', k' (.bool r) w → body k')
    (hk : ∀ J v, (b = false → v = .bool r) → k J v w) : wGrp (.bool b) false body w k := by
  unfold wGrp
  cases b
  · simp only [if_true]
    exact h rfl _ fun J => hk J (.bool r) fun _ => rfl
  · simp only [Bool.true_eq_false, if_false]
    exact fun J => hk J undef (fun h => by cases h)
/-- 'a && b', where b only looks. -/
theorem and_i {b r : Bool} {body : (Value → World → Prop) → Prop} {w : World} {k : Value → World → Prop} (h : b = true → ∀ k', k' (.bool r) w → body k')
    (hk : k (.bool (b && r)) w) : wGrp (.bool b) true body w fun _ v w => wPick (.bool b) v (.bool false) w k := by
  refine wGrp_and h fun J v hv => ?_
  cases b
  · exact hk
  · rw [hv rfl]; exact hk
theorem or_i {b r : Bool} {body : (Value → World → Prop) → Prop} {w : World} {k : Value → World → Prop} (h : b = false → ∀ k', k' (.bool r) w → body k')
    (hk : k (.bool (b || r)) w) : wGrp (.bool b) false body w fun _ v w => wPick (.bool b) (.bool true) v w k := by
  refine wGrp_or h fun J v hv => ?_
  cases b
  · rw [hv rfl]; exact hk
  · exact hk
theorem and_p (b r : Bool) (w : World) (K : Value → World → Prop) : (wGrp (.bool b) true (fun k' => k' (.bool r) w) w fun _ v w' => wPick (.bool b) v (.bool false) w' K) = K (.bool (b && r)) w := by
  apply propext
  cases b
  · exact ⟨fun h => h (fun _ => undef), fun h _ => h⟩
  · exact ⟨fun h => h (fun _ => undef), fun h _ => h⟩
theorem or_p (b r : Bool) (w : World) (K : Value → World → Prop) : (wGrp (.bool b) false (fun k' => k' (.bool r) w) w fun _ v w' => wPick (.bool b) (.bool true) v w' K) = K (.bool (b || r)) w := by
  apply propext
  cases b
  · exact ⟨fun h => h (fun _ => undef), fun h _ => h⟩
  · exact ⟨fun h => h (fun _ => undef), fun h _ => h⟩
theorem loop_up {w0 : World} {x0 : Value} {step : Env → Value → World → (Value → World → Prop) → Prop} (N : Nat) (I : Nat → Value → World → Prop) (h0 : I 0 x0 w0)
    (hs : ∀ i J x w k, i ≤ N → I i x w → (∀ x' w', i < N → I (i + 1) x' w' → k x' w') → step J x w k) : wL1 x0 w0 step := by
  refine ⟨fun n x w => ∃ i, i ≤ N ∧ n = N - i ∧ I i x w, ⟨N, 0, Nat.zero_le _, rfl, h0⟩, ?_⟩
  rintro n J x w ⟨i, hi, rfl, hI⟩
  exact hs i J x w _ hi hI fun x' w' hlt hI' => ⟨N - (i + 1), by omega, i + 1, by omega, rfl, hI'⟩
theorem loop_up2 {w0 : World} {x0 y0 : Value} {step : Env → Value → Value → World → (Value → Value → World → Prop) → Prop} (N : Nat) (I : Nat → Value → Value → World → Prop) (h0 : I 0 x0 y0 w0)
    (hs : ∀ i J x y w k, i ≤ N → I i x y w → (∀ x' y' w', i < N → I (i + 1) x' y' w' → k x' y' w') → step J x y w k) : wL2 x0 y0 w0 step := by
  refine ⟨fun n x y w => ∃ i, i ≤ N ∧ n = N - i ∧ I i x y w, ⟨N, 0, Nat.zero_le _, rfl, h0⟩, ?_⟩
  rintro n J x y w ⟨i, hi, rfl, hI⟩
  exact hs i J x y w _ hi hI fun x' y' w' hlt hI' => ⟨N - (i + 1), by omega, i + 1, by omega, rfl, hI'⟩
theorem loop_up3 {w0 : World} {x0 y0 z0 : Value} {step : Env → Value → Value → Value → World → (Value → Value → Value → World → Prop) → Prop} (N : Nat) (I : Nat → Value → Value → Value → World → Prop) (h0 : I 0 x0 y0 z0 w0)
    (hs : ∀ i J x y z w k, i ≤ N → I i x y z w → (∀ x' y' z' w', i < N → I (i + 1) x' y' z' w' → k x' y' z' w') → step J x y z w k) : wL3 x0 y0 z0 w0 step := by
  refine ⟨fun n x y z w => ∃ i, i ≤ N ∧ n = N - i ∧ I i x y z w, ⟨N, 0, Nat.zero_le _, rfl, h0⟩, ?_⟩
  rintro n J x y z w ⟨i, hi, rfl, hI⟩
  exact hs i J x y z w _ hi hI fun x' y' z' w' hlt hI' => ⟨N - (i + 1), by omega, i + 1, by omega, rfl, hI'⟩

/-! Numbers. -/
section nums
variable {P : Program} {t : TypeId} {w : World} {K : Value → World → Prop}
theorem bin_of {op : BinOp} {x y v : Value} (h : ∀ (c : Bool) (w' : World), (binS c op t x y).run P w' = .ok v w') : wBin P op t x y w K = K v w := by
  apply propext
  constructor
  · rintro ⟨v', hv', hk⟩
    have := (hv' true w).symm.trans (h true w)
    injection this with h1
    subst h1
    exact hk
  · exact fun hk => ⟨v, h, hk⟩
theorem bin_int {op : BinOp} {k : IntKind} {a b : Int} {v : Value} (h : binOp op t (.int k a) (.int k b) = pure v) : wBin P op t (.int k a) (.int k b) w K = K v w := by
  refine bin_of fun c w' => ?_
  have : (eqGuard op t (if c = true then .const (.int k a) else .tmp 0) (.tmp 0) (.int k a) (.int k b)) = pure () := by
    unfold eqGuard
    split <;> rfl
  unfold binS
  rw [this, h]
  rfl
theorem bin_addw (k : IntKind) (a b : Int) : wBin P .add t (.int k a) (.int k b) w K = K (.int k (k.wrap (a + b))) w := bin_int (by simp [binOp, Op.intArith])
theorem bin_subw (k : IntKind) (a b : Int) : wBin P .sub t (.int k a) (.int k b) w K = K (.int k (k.wrap (a - b))) w := bin_int (by simp [binOp, Op.intArith])
theorem bin_mulw (k : IntKind) (a b : Int) : wBin P .mul t (.int k a) (.int k b) w K = K (.int k (k.wrap (a * b))) w := bin_int (by simp [binOp, Op.intArith])
theorem bin_lss (k : IntKind) (a b : Int) : wBin P .lss t (.int k a) (.int k b) w K = K (.bool (decide (a < b))) w := bin_int (by simp [binOp, Op.intCmp])
theorem bin_leq (k : IntKind) (a b : Int) : wBin P .leq t (.int k a) (.int k b) w K = K (.bool (decide (a ≤ b))) w := bin_int (by simp [binOp, Op.intCmp])
theorem bin_gtr (k : IntKind) (a b : Int) : wBin P .gtr t (.int k a) (.int k b) w K = K (.bool (decide (b < a))) w := bin_int (by simp [binOp, Op.intCmp])
theorem bin_geq (k : IntKind) (a b : Int) : wBin P .geq t (.int k a) (.int k b) w K = K (.bool (decide (b ≤ a))) w := bin_int (by simp [binOp, Op.intCmp])
theorem bin_eql (k : IntKind) (a b : Int) : wBin P .eql t (.int k a) (.int k b) w K = K (.bool (decide (a = b))) w := bin_int (by simp [binOp, Op.intCmp]; rfl)
theorem bin_neq (k : IntKind) (a b : Int) : wBin P .neq t (.int k a) (.int k b) w K = K (.bool (decide (a ≠ b))) w := bin_int (by
  simp only [binOp, ne_eq, not_true_eq_false, if_false, Op.intCmp]
  congr 2
  by_cases h : a = b <;> simp [h])
theorem bin_add {a b : Int} (h : -9223372036854775808 ≤ a + b ∧ a + b ≤ 9223372036854775807) : wBin P .add t (.int .i64 a) (.int .i64 b) w K = K (.int .i64 (a + b)) w := by
  rw [bin_addw, IntWalk.i64_in _ h]
theorem bin_sub {a b : Int} (h : -9223372036854775808 ≤ a - b ∧ a - b ≤ 9223372036854775807) : wBin P .sub t (.int .i64 a) (.int .i64 b) w K = K (.int .i64 (a - b)) w := by
  rw [bin_subw, IntWalk.i64_in _ h]
theorem bin_mul {a b : Int} (h : -9223372036854775808 ≤ a * b ∧ a * b ≤ 9223372036854775807) : wBin P .mul t (.int .i64 a) (.int .i64 b) w K = K (.int .i64 (a * b)) w := by
  rw [bin_mulw, IntWalk.i64_in _ h]
theorem bin_shr {k yk : IntKind} {a b : Int} (h : 0 ≤ b) : wBin P .shr t (.int k a) (.int yk b) w K = K (.int k (a.fdiv (2 ^ (min b.toNat k.bits)))) w := by
  refine bin_of fun c w' => ?_
  have : (eqGuard .shr t (if c = true then .const (.int k a) else .tmp 0) (.tmp 0) (.int k a) (.int yk b)) = pure () := rfl
  unfold binS
  rw [this]
  simp only [binOp, Op.shift, if_neg (Int.not_lt.2 h)]
  rfl
theorem bin_shl {k yk : IntKind} {a b : Int} (h : 0 ≤ b) : wBin P .shl t (.int k a) (.int yk b) w K = K (.int k (k.wrap (a * 2 ^ (min b.toNat k.bits)))) w := by
  refine bin_of fun c w' => ?_
  have : (eqGuard .shl t (if c = true then .const (.int k a) else .tmp 0) (.tmp 0) (.int k a) (.int yk b)) = pure () := rfl
  unfold binS
  rw [this]
  simp only [binOp, Op.shift, if_neg (Int.not_lt.2 h)]
  rfl
theorem eqIn_bool (d : Nat) (a b : Bool) (ht : P.underlying t = some .bool) (w' : World) : (Op.equalIn (d + 1) t (.bool a) (.bool b)).run P w' = .ok (a == b) w' := by
  rw [Op.equalIn]
  unfold underlying program
  simp [Sem.run_bind, Sem.run, ht]
/-- '==' by what 'equal' comes to. -/
theorem bin_eq_of {x y : Value} {b : Bool} (hx : ∀ k n, x ≠ .int k n) (hf : ∀ k n, x ≠ .float k n) (hc : ∀ k n m, x ≠ .complex k n m) (hs : ∀ n, x ≠ .string n)
    (hg : ∀ (c : Bool) (w' : World), (eqGuard .eql t (if c = true then .const x else .tmp 0) (.tmp 0) x y).run P w' = .ok () w')
    (h : ∀ w', (Op.equal t x y).run P w' = .ok b w') : wBin P .eql t x y w K = K (.bool b) w := by
  refine bin_of fun c w' => ?_
  unfold binS
  rw [Sem.run_bind, hg c w']
  simp only [Result.andThen_ok]
  have : binOp .eql t x y = (do pure (.bool (← Op.equal t x y))) := by
    cases x <;> first | exact absurd rfl (hx _ _) | exact absurd rfl (hf _ _) | exact absurd rfl (hc _ _ _) | exact absurd rfl (hs _) | (cases y <;> rfl)
  rw [this, Sem.run_bind, h w']
  rfl
theorem bin_ne_of {x y : Value} {b : Bool} (hx : ∀ k n, x ≠ .int k n) (hf : ∀ k n, x ≠ .float k n) (hc : ∀ k n m, x ≠ .complex k n m) (hs : ∀ n, x ≠ .string n)
    (hg : ∀ (c : Bool) (w' : World), (eqGuard .neq t (if c = true then .const x else .tmp 0) (.tmp 0) x y).run P w' = .ok () w')
    (h : ∀ w', (Op.equal t x y).run P w' = .ok b w') : wBin P .neq t x y w K = K (.bool (!b)) w := by
  refine bin_of fun c w' => ?_
  unfold binS
  rw [Sem.run_bind, hg c w']
  simp only [Result.andThen_ok]
  have : binOp .neq t x y = (do pure (.bool (!(← Op.equal t x y)))) := by
    cases x <;> first | exact absurd rfl (hx _ _) | exact absurd rfl (hf _ _) | exact absurd rfl (hc _ _ _) | exact absurd rfl (hs _) | (cases y <;> rfl)
  rw [this, Sem.run_bind, h w']
  rfl
theorem bin_beql (a b : Bool) (ht : P.underlying t = some .bool) : wBin P .eql t (.bool a) (.bool b) w K = K (.bool (a == b)) w :=
  bin_eq_of (by simp) (by simp) (by simp) (by simp) (fun _ _ => rfl) (fun w' => eqIn_bool 9999 a b ht w')
theorem bin_bneq (a b : Bool) (ht : P.underlying t = some .bool) : wBin P .neq t (.bool a) (.bool b) w K = K (.bool (!(a == b))) w :=
  bin_ne_of (by simp) (by simp) (by simp) (by simp) (fun _ _ => rfl) (fun w' => eqIn_bool 9999 a b ht w')
theorem un_not (b : Bool) : wUn P .not (.bool b) w K = K (.bool (!b)) w := pureW_eq (fun _ => rfl) w K
theorem un_neg {a : Int} (h : -9223372036854775808 ≤ -a ∧ -a ≤ 9223372036854775807) : wUn P .neg (.int .i64 a) w K = K (.int .i64 (-a)) w := by
  refine (pureW_eq (v := .int .i64 (IntKind.i64.wrap (0 - a))) (fun _ => rfl) w K).trans ?_
  rw [IntWalk.i64_in _ (by omega), Int.zero_sub]
theorem nil_ptr (a : Addr) : wNil P (.pointer (some a)) w K = K (.pointer (some a)) w := pureW_eq (fun _ => rfl) w K
theorem nil_func (f : FuncId) (x y : Array Value) : wNil P (.func (.func f) x y) w K = K (.func (.func f) x y) w := pureW_eq (fun _ => rfl) w K
theorem ext_0 (a : Value) (l : List Value) : wExtract P (.tuple ⟨a :: l⟩) 0 w K = K a w := pureW_eq (fun _ => rfl) w K
theorem ext_1 (a b : Value) (l : List Value) : wExtract P (.tuple ⟨a :: b :: l⟩) 1 w K = K b w := pureW_eq (fun _ => rfl) w K
theorem ext_2 (a b c : Value) (l : List Value) : wExtract P (.tuple ⟨a :: b :: c :: l⟩) 2 w K = K c w := pureW_eq (fun _ => rfl) w K
theorem ext_3 (a b c d : Value) (l : List Value) : wExtract P (.tuple ⟨a :: b :: c :: d :: l⟩) 3 w K = K d w := pureW_eq (fun _ => rfl) w K
theorem max_i (k : IntKind) (a b : Int) (ts : Array TypeId) : wLen P .max ts [.int k a, .int k b] w K = K (.int k (max a b)) w := by
  refine (pureW_eq (v := .int k (if b > a then b else a)) (fun _ => rfl) w K).trans ?_
  congr 2
  split <;> omega
theorem min_i (k : IntKind) (a b : Int) (ts : Array TypeId) : wLen P .min ts [.int k a, .int k b] w K = K (.int k (min a b)) w := by
  refine (pureW_eq (v := .int k (if b < a then b else a)) (fun _ => rfl) w K).trans ?_
  congr 2
  split <;> omega
theorem len_s {e : TypeId} (ht : P.underlying t = some (.slice e)) (A : Option Addr) (n c : Nat) : wLen P .len #[t] [.slice A n c] w K = K (.int .i64 n) w := by
  refine pureW_eq (fun w' => ?_) w K
  simp [lenS, Builtin.len_, underlying, program, Sem.run_bind, Sem.run, ht, goInt]
theorem cap_s {e : TypeId} (ht : P.underlying t = some (.slice e)) (A : Option Addr) (n c : Nat) : wLen P .cap #[t] [.slice A n c] w K = K (.int .i64 c) w := by
  refine pureW_eq (fun w' => ?_) w K
  simp [lenS, Builtin.cap_, underlying, program, Sem.run_bind, Sem.run, ht, goInt]
end nums
end Go.Dn
