import Derived.Test.YtflnhihdbhjlnaaMem6
import Derived.Laws.OwnMore
import Derived.Laws.MakeOwn
import Derived.Laws.FloatBits
/-! Functions as values, 'make', floats. -/
set_option linter.unusedVariables false
set_option linter.unusedSimpArgs false
namespace Go.Dn
open Go Go.RowKit
attribute [local semireducible] wCallV wCall wNext wFunc wMake wBinF wConv wBin
section m7
variable {P : Program} {t : TypeId} {w : World} {K : Value → World → Prop}
theorem callv_eq (f : FuncId) (first cap args : List Value) : wCallV P (.func (.func f) ⟨first⟩ ⟨cap⟩) args w K = wCall P f (first ++ args ++ cap) w K := by
  unfold wCallV wCall wNext
  simp only [Deferred.ofValue, Sem.run_bind, Sem.run_pure, Result.andThen_ok, invoke]
  simp
theorem callv_0 (f : FuncId) (args : List Value) : wCallV P (.func (.func f) #[] #[]) args w K = wCall P f args w K := by
  have := callv_eq (P := P) (w := w) (K := K) f [] [] args
  simpa using this
theorem func_eq (f : FuncId) (first cap : List Value) : wFunc P (.func f) first cap w K = K (.func (.func f) ⟨first⟩ ⟨cap⟩) w := rfl
theorem made_flat (zs : List Value) (hs : zs ≠ []) : ∀ n, (List.range (n * zs.length)).map (fun i => zs[i % zs.length]!) = (List.replicate n zs).flatten
  | 0 => by simp
  | n + 1 => by
    have hp : 0 < zs.length := List.length_pos_iff.2 hs
    rw [Nat.succ_mul, List.range_add, List.map_append, made_flat zs hs n, List.replicate_succ', List.flatten_append]
    congr 1
    simp only [List.map_map, List.flatten_cons, List.flatten_nil, List.append_nil]
    apply List.ext_getElem
    · simp
    · intro i h1 h2
      simp only [List.length_map, List.length_range] at h1
      simp [Nat.mul_add_mod_of_lt, Nat.mod_eq_of_lt h1, h1, Nat.add_mod, Nat.mul_mod_left]
theorem make_i {e : TypeId} {i : TypeInfo} {z : Value} {zs : List Value} {n bytes : Nat} {k k' : IntKind} (ht : P.underlying t = some (.slice e)) (hi : P.info? e = some i) (hz : i.zero = some z) (hzc : z.cells = ⟨zs⟩) (hzn : zs ≠ []) (hsz : i.size = zs.length) (hby : i.bytes = bytes)
    (hn : n * zs.length ≤ 16777216) (hb : bytes * n ≤ 16777216)
    (hk : ∀ w' g, g = w.heap.size → Ex [] w w' → Blk w' g e (List.replicate n zs).flatten → K (.slice (some ⟨g, 0, none⟩) n n) w') : wMake P t (.int k n) (.int k' n) w K := by
  have hp : 1 ≤ zs.length := List.length_pos_iff.2 hzn
  have hm : n * 1 ≤ n * zs.length := Nat.mul_le_mul_left n hp
  have hb' : (i.bytes : Int) * (n : Int) ≤ 281474976710656 := by
    rw [hby, ← Int.natCast_mul]
    omega
  have h := run_makeSlice (P := P) w t e i z ht hi hz k k' (n : Int) (n : Int) (by omega) (by omega) (by rw [hsz, Int.toNat_natCast]; exact hn) hb' (by omega)
  have hmk : madeCells z.cells ((n : Int).toNat * i.size) = ⟨(List.replicate n zs).flatten⟩ := by
    rw [← made_flat zs hzn n]
    unfold madeCells
    apply Array.toList_inj.1
    rw [hzc, hsz]
    simp
  rw [hmk] at h
  unfold wMake runW
  rw [h]
  exact hk _ _ rfl (Ex.alloc _ _) (blk_new _ _ _)

/-! Floats. -/
theorem conv_f {s : TypeId} {d : TypeDesc} {k : IntKind} {n : Int} (hs : P.underlying s = some d) (hd : P.underlying t = some (.float .f64)) : wConv P s t (.int k n) w K = K (.float .f64 (FloatKind.f64.nearest n)) w := by
  refine pureW_eq (fun w' => ?_) w K
  unfold Go.convert
  simp only [Sem.run_bind, und_run hs, und_run hd, Result.andThen_ok]
  rfl
theorem bin_flt {op : BinOp} {a b : Nat} {v : Value} (h : binOp op t (.float .f64 a) (.float .f64 b) = pure v) : wBin P op t (.float .f64 a) (.float .f64 b) w K = K v w := by
  refine bin_of fun c w' => ?_
  have : (eqGuard op t (if c = true then .const (.float .f64 a) else .tmp 0) (.tmp 0) (.float .f64 a) (.float .f64 b)) = pure () := by
    unfold eqGuard
    split <;> rfl
  unfold binS
  rw [this, h]
  rfl
theorem bin_feql (a b : Nat) : wBin P .eql t (.float .f64 a) (.float .f64 b) w K = K (.bool (Ieee.double.order a b == some .eq)) w := bin_flt (by simp [binOp, Op.floatCmp, FloatKind.format])
theorem bin_fneq (a b : Nat) : wBin P .neq t (.float .f64 a) (.float .f64 b) w K = K (.bool (Ieee.double.order a b != some .eq)) w := bin_flt (by simp [binOp, Op.floatCmp, FloatKind.format])
theorem bin_flss (a b : Nat) : wBin P .lss t (.float .f64 a) (.float .f64 b) w K = K (.bool (Ieee.double.order a b == some .lt)) w := bin_flt (by simp [binOp, Op.floatCmp, FloatKind.format])
theorem bin_fgtr (a b : Nat) : wBin P .gtr t (.float .f64 a) (.float .f64 b) w K = K (.bool (Ieee.double.order a b == some .gt)) w := bin_flt (by simp [binOp, Op.floatCmp, FloatKind.format])
theorem quo_some {a b r : Nat} (h : Ieee.double.div a b = some r) (hk : K (.float .f64 r) w) : wBinF P .quo t (.float .f64 a) (.float .f64 b) w K := by
  intro c
  unfold runW binS
  have : (eqGuard .quo t (if c = true then .const (.float .f64 a) else .tmp 0) (.tmp 0) (.float .f64 a) (.float .f64 b)) = pure () := rfl
  rw [this]
  simp only [binOp, Op.floatArith, Sem.run_bind, Sem.run_pure, Result.andThen_ok, FloatKind.format, h, ne_eq, not_true_eq_false, if_false]
  exact hk
def nanB (t : Nat) : Nat := (t % 2) * 2 ^ 63 + 0x7ff0000000000000 + 1 + (t / 2) % (2 ^ 52 - 1)
theorem quo_none {a b : Nat} (h : Ieee.double.div a b = none) (hk : ∀ w' x, Ex [] w w' → w'.heap = w.heap → K (.float .f64 (nanB x)) w') : wBinF P .quo t (.float .f64 a) (.float .f64 b) w K := by
  intro c
  unfold runW binS
  have : (eqGuard .quo t (if c = true then .const (.float .f64 a) else .tmp 0) (.tmp 0) (.float .f64 a) (.float .f64 b)) = pure () := rfl
  rw [this]
  simp only [binOp, Op.floatArith, Sem.run_bind, Sem.run_pure, Result.andThen_ok, FloatKind.format, h, ne_eq, not_true_eq_false, if_false, Go.choose, Sem.run]
  exact hk _ _ (Ex.refl _ _).drew rfl
end m7
end Go.Dn
