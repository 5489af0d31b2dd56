import Derived.Test.YtflnhihdbhjlnaaMem3
/-! Results in memory, draws, equality of arrays, bits. -/
set_option linter.unusedVariables false
set_option linter.unusedSimpArgs false
namespace Go.Dn
open Go Go.RowKit
attribute [local semireducible] wCall wCallV wInvoke callW wNext wLoad wStore wBox wAlloc wBuild wBuildS wBin wBinF wUn wConv wIface wFunc wMakeMap wMake wSlice wFieldA wField wIndexA wIndex wLookup wMapSet wExtract wLen wBuiltin wRange wNextI wEntry wNil wOther wKeep

section m4
variable {P : Program} {t : TypeId} {w : World} {K : Value → World → Prop}
theorem res_agg {n b o : Nat} {xs : List Value} {k : Value → Prop} (hT : aggT P t n = true) (h : Cs w b o xs) (hl : xs.length = n) (hk : k (.agg ⟨xs⟩)) : wRes P t (.pointer (some ⟨b, o, none⟩)) w k := by
  refine ⟨_, ?_, hk⟩
  have := loadAt_agg (P := P) hT h hl
  unfold Instr.loadAt at this
  simp only [Instr.sureAddr, Sem.run_bind, Sem.run_pure, Result.andThen_ok] at this
  simp only [asAddr, Sem.run_bind, Sem.run_pure, Result.andThen_ok]
  exact this
theorem res_one {a : Addr} {v : Value} {k : Value → Prop} (hT : oneT P t = true) (h : w.cell? a = some v) (hk : k v) : wRes P t (.pointer (some a)) w k := by
  refine ⟨_, ?_, hk⟩
  have := loadAt_one (P := P) hT h
  unfold Instr.loadAt at this
  simp only [Instr.sureAddr, Sem.run_bind, Sem.run_pure, Result.andThen_ok] at this
  simp only [asAddr, Sem.run_bind, Sem.run_pure, Result.andThen_ok]
  exact this
theorem Blk.all {w : World} {g : Nat} {t : TypeId} {cs : List Value} (h : Blk w g t cs) : Cs w g 0 cs := by
  intro i v hv
  rw [Nat.zero_add, h.cell]
  exact hv
theorem draw_i {k : World → Prop} (hk : ∀ w', Ex [] w w' → w'.heap = w.heap → k w') : wDraw w k := hk _ (Ex.refl _ _).drew rfl
theorem Blk.heap {w w' : World} {g : Nat} {t : TypeId} {cs : List Value} (h : Blk w g t cs) (hh : w'.heap = w.heap) : Blk w' g t cs := by
  unfold Blk at *; rw [hh]; exact h
theorem Ex.le {S : List Nat} {w w' : World} (h : Ex S w w') : w.heap.size ≤ w'.heap.size := h.size
theorem Ex.nil {S : List Nat} {w w' : World} (h : Ex [] w w') : Ex S w w' := h.mono (by simp)
/-- What was written is new since w. -/
theorem Ex.new {w a b : World} {g : Nat} (h : Ex [] w a) (k : Ex [g] a b) (hg : w.heap.size ≤ g) : Ex [] w b := h.step k (by simp; omega)

/-! Bits. -/
theorem ofInt_nat {n x : Nat} (hx : x < 2 ^ n) : (BitVec.ofInt n (x : Int)).toNat = x := by
  rw [BitVec.toNat_ofInt]
  have : ((x : Int) % ((2 ^ n : Nat) : Int)).toNat = x % 2 ^ n := by
    rw [← Int.natCast_emod]; rfl
  rw [this, Nat.mod_eq_of_lt hx]
theorem bin_orN {k : IntKind} {x y : Nat} (hx : x < 2 ^ k.bits) (hy : y < 2 ^ k.bits) (hk : k.signed = false) : wBin P .or t (.int k x) (.int k y) w K = K (.int k ((x ||| y : Nat) : Int)) w := by
  refine bin_int ?_
  have h1 := Nat.or_lt_two_pow hx hy
  simp only [binOp, ne_eq, not_true_eq_false, if_false, Op.intBits, BitVec.toNat_or, ofInt_nat hx, ofInt_nat hy]
  congr 2
  unfold IntKind.wrap
  rw [hk]
  simp only [Bool.false_and, Bool.false_eq_true, if_false]
  have : ((x ||| y : Nat) : Int) % (2 ^ k.bits : Int) = (((x ||| y) % 2 ^ k.bits : Nat) : Int) := by
    rw [Int.natCast_emod]; norm_cast
  rw [this, Nat.mod_eq_of_lt h1]
theorem bin_xorN {k : IntKind} {x y : Nat} (hx : x < 2 ^ k.bits) (hy : y < 2 ^ k.bits) (hk : k.signed = false) : wBin P .xor t (.int k x) (.int k y) w K = K (.int k ((x ^^^ y : Nat) : Int)) w := by
  refine bin_int ?_
  have h1 := Nat.xor_lt_two_pow hx hy
  simp only [binOp, ne_eq, not_true_eq_false, if_false, Op.intBits, BitVec.toNat_xor, ofInt_nat hx, ofInt_nat hy]
  congr 2
  unfold IntKind.wrap
  rw [hk]
  simp only [Bool.false_and, Bool.false_eq_true, if_false]
  have : ((x ^^^ y : Nat) : Int) % (2 ^ k.bits : Int) = (((x ^^^ y) % 2 ^ k.bits : Nat) : Int) := by
    rw [Int.natCast_emod]; norm_cast
  rw [this, Nat.mod_eq_of_lt h1]
theorem bin_andN {k : IntKind} {x y : Nat} (hx : x < 2 ^ k.bits) (hy : y < 2 ^ k.bits) (hk : k.signed = false) : wBin P .and t (.int k x) (.int k y) w K = K (.int k ((x &&& y : Nat) : Int)) w := by
  refine bin_int ?_
  have h1 := Nat.and_lt_two_pow x hy
  simp only [binOp, ne_eq, not_true_eq_false, if_false, Op.intBits, BitVec.toNat_and, ofInt_nat hx, ofInt_nat hy]
  congr 2
  unfold IntKind.wrap
  rw [hk]
  simp only [Bool.false_and, Bool.false_eq_true, if_false]
  have : ((x &&& y : Nat) : Int) % (2 ^ k.bits : Int) = (((x &&& y) % 2 ^ k.bits : Nat) : Int) := by
    rw [Int.natCast_emod]; norm_cast
  rw [this, Nat.mod_eq_of_lt h1]
theorem wrapN {k : IntKind} {x : Nat} (hk : k.signed = false) (hx : x < 2 ^ k.bits) : k.wrap (x : Int) = x := by
  unfold IntKind.wrap
  rw [hk]
  simp only [Bool.false_and, Bool.false_eq_true, if_false]
  have : (x : Int) % (2 ^ k.bits : Int) = ((x % 2 ^ k.bits : Nat) : Int) := by
    rw [Int.natCast_emod]; norm_cast
  rw [this, Nat.mod_eq_of_lt hx]
theorem bin_quoN {k : IntKind} {x y : Nat} (hk : k.signed = false) (hx : x < 2 ^ k.bits) (hy : 0 < y) : wBin P .quo t (.int k x) (.int k y) w K = K (.int k ((x / y : Nat) : Int)) w := by
  refine bin_int ?_
  simp only [binOp, ne_eq, not_true_eq_false, if_false, Op.intDiv]
  rw [if_neg (by omega)]
  congr 2
  have : (x : Int).tdiv (y : Int) = ((x / y : Nat) : Int) := by
    rw [Int.tdiv_eq_ediv_of_nonneg (by omega)]; norm_cast
  rw [this, wrapN hk (Nat.lt_of_le_of_lt (Nat.div_le_self _ _) hx)]
theorem bin_remN {k : IntKind} {x y : Nat} (hy : 0 < y) : wBin P .rem t (.int k x) (.int k y) w K = K (.int k ((x % y : Nat) : Int)) w := by
  refine bin_int ?_
  simp only [binOp, ne_eq, not_true_eq_false, if_false, Op.intDiv]
  rw [if_neg (by omega)]
  congr 2
theorem bin_quoI {x y : Nat} (hx : x ≤ 9223372036854775807) (hy : 0 < y) : wBin P .quo t (.int .i64 x) (.int .i64 y) w K = K (.int .i64 ((x / y : Nat) : Int)) w := by
  refine bin_int ?_
  simp only [binOp, ne_eq, not_true_eq_false, if_false, Op.intDiv]
  rw [if_neg (by omega)]
  congr 2
  have : (x : Int).tdiv (y : Int) = ((x / y : Nat) : Int) := by
    rw [Int.tdiv_eq_ediv_of_nonneg (by omega)]; norm_cast
  have h2 := Nat.div_le_self x y
  rw [this]
  generalize x / y = q at *
  rw [IntWalk.i64_in _ (by omega)]

/-! Equality of arrays of numbers. -/
theorem part_one {e : TypeId} {cs : Array Value} {o : Nat} {v : Value} (hT : oneT P e = true) (hv : cs[o]? = some v) (w : World) : (part e cs o).run P w = .ok v w := by
  unfold part
  simp only [Sem.run_bind, isAgg_one hT, Result.andThen_ok, Bool.false_eq_true, if_false, hv, Sem.run_pure]
theorem eqIn_int {e : TypeId} {k : IntKind} (d : Nat) (a b : Int) (he : P.underlying e = some (.int k)) (w : World) : (Op.equalIn (d + 1) e (.int k a) (.int k b)).run P w = .ok (a == b) w := by
  rw [Op.equalIn]
  simp only [Sem.run_bind, und_run he, Result.andThen_ok, if_true]
  rfl
end m4
end Go.Dn
