import Derived.Test.YtflnhihdbhjlnaaGn
/-! Texts of functions, printed by mkg.py. -/
set_option maxRecDepth 100000
set_option linter.unusedVariables false
namespace Go.Dn
open Go Go.Proofs
def F_ref01_Full (a0 : Value) (w : World) (k : Value → World → Prop) : Prop :=
  wAlloc P T_A128uint8 w fun t2 w =>
  wAlloc P T_A128uint8 w fun t3 w =>
  wJ0 (fun k1 =>
    wL1 (.int .i64 0) w (fun _ v4 w k2 =>
      wLen P .len #[T_Luint8] [a0] w fun t7 w =>
      wBin P .lss T_int v4 t7 w fun t8 w =>
      wGrp t8 true (fun k11 =>
        wBin P .lss T_int v4 (.int .i64 128) w fun t11 w =>
        k11 t11 w) w fun _ t11 w =>
      wPick t8 t11 (.bool false) w fun t12 w =>
      wIf t12 (
        wIndexA P T_Luint8 a0 v4 w fun t18 w =>
        wLoad P T_uint8 t18 w fun t19 w =>
        wIndexA P T_A128uint8 t3 v4 w fun t20 w =>
        wStore P T_uint8 t20 t19 w fun w =>
        wBin P .add T_int v4 (.int .i64 1) w fun t14 w =>
        k2 t14 w) (
        k1 w))) fun _ w =>
  wLoad P T_A128uint8 t3 w fun t21 w =>
  wStore P T_A128uint8 t2 t21 w fun w =>
  wRes P T_A128uint8 t2 w fun r2 =>
  k r2 w

theorem call_ref01_Full (a0 : Value) {w : World} {k : Value → World → Prop} (h : F_ref01_Full a0 w k) : wCall P n_ref01_Full [a0] w k :=
  call_of_den mixedP Try.func68 (by kernel_rfl) (.s .z (.s .z (.j [] [2, 3] (.s .z (.b (.l [4] [0, 2, 3] (.s (.s (.r (.ops [0, 1, 2, 3, 4] (.grp 4 true 11 [10] (.ops [5, 6] .nil) (.ops [7] .nil)))) .z) .z)))) .z))) (by kernel_rfl) (Eq.mp (by kernel_rfl) h)

def F_ref01_Equal (a0 a1 : Value) (w : World) (k : Value → World → Prop) : Prop :=
  wLen P .len #[T_Luint8] [a0] w fun t7 w =>
  wLen P .len #[T_Luint8] [a1] w fun t9 w =>
  wBin P .neq T_int t7 t9 w fun t10 w =>
  wIf t10 (
    k (.bool false) w) (
    wL1 (.int .i64 0) w (fun _ v5 w k2 =>
      wLen P .len #[T_Luint8] [a0] w fun t13 w =>
      wBin P .lss T_int v5 t13 w fun t14 w =>
      wIf t14 (
        wDraw w fun w =>
        wIndexA P T_Luint8 a0 v5 w fun t19 w =>
        wLoad P T_uint8 t19 w fun t20 w =>
        wIndexA P T_Luint8 a1 v5 w fun t23 w =>
        wLoad P T_uint8 t23 w fun t24 w =>
        wBin P .neq T_uint8 t20 t24 w fun t25 w =>
        wIf t25 (
          k (.bool false) w) (
          wBin P .add T_int v5 (.int .i64 1) w fun t16 w =>
          k2 t16 w)) (
        k (.bool true) w)))

theorem call_ref01_Equal (a0 a1 : Value) {w : World} {k : Value → World → Prop} (h : F_ref01_Equal a0 a1 w k) : wCall P n_ref01_Equal [a0, a1] w k :=
  call_of_den mixedP Try.func116 (by kernel_rfl) (.s .z (.s .z (.s (.s .z (.b (.l [5] [0, 1] (.s .z (.s (.b (.s (.r (.ops [0, 1, 2, 3, 4, 5, 6, 7, 8] .nil)) .z)) .z))))) .z))) (by kernel_rfl) (Eq.mp (by kernel_rfl) h)

def F_ref01_Low (a0 a1 : Value) (w : World) (k : Value → World → Prop) : Prop :=
  wL3 a0 (.slice none 0 0) (.int .i64 0) w (fun _ v0 v5 v6 w k1 =>
    wBin P .lss T_int v6 a1 w fun t9 w =>
    wIf t9 (
      wBin P .rem T_uint64 v0 (.int .u64 256) w fun t14 w =>
      wConv P T_uint64 T_uint8 t14 w fun t15 w =>
      wBuildS P T_Luint8 1 [(0, t15)] w fun t16 w =>
      wBuiltin P .append #[T_Luint8, T_Luint8] [v5, t16] w fun t17 w =>
      wBin P .quo T_uint64 v0 (.int .u64 256) w fun t19 w =>
      wBin P .add T_int v6 (.int .i64 1) w fun t11 w =>
      k1 t19 t17 t11 w) (
      k v5 w))

theorem call_ref01_Low (a0 a1 : Value) {w : World} {k : Value → World → Prop} (h : F_ref01_Low a0 a1 w k) : wCall P n_ref01_Low [a0, a1] w k :=
  call_of_den mixedP Try.func173 (by kernel_rfl) (.s .z (.s .z (.s (.s .z (.b (.l [0, 5, 6] [1] .z))) .z))) (by kernel_rfl) (Eq.mp (by kernel_rfl) h)

def F_ref01_Num (a0 : Value) (w : World) (k : Value → World → Prop) : Prop :=
  wLen P .len #[T_Luint8] [a0] w fun t6 w =>
  wBin P .sub T_int t6 (.int .i64 1) w fun t7 w =>
  wL2 (.int .u64 0) t7 w (fun _ v3 v4 w k1 =>
    wBin P .geq T_int v4 (.int .i64 0) w fun t9 w =>
    wIf t9 (
      wBin P .mul T_uint64 (.int .u64 256) v3 w fun t13 w =>
      wIndexA P T_Luint8 a0 v4 w fun t16 w =>
      wLoad P T_uint8 t16 w fun t17 w =>
      wConv P T_uint8 T_uint64 t17 w fun t18 w =>
      wBin P .add T_uint64 t13 t18 w fun t19 w =>
      wBin P .sub T_int v4 (.int .i64 1) w fun t11 w =>
      k1 t19 t11 w) (
      k v3 w))

theorem call_ref01_Num (a0 : Value) {w : World} {k : Value → World → Prop} (h : F_ref01_Num a0 w k) : wCall P n_ref01_Num [a0] w k :=
  call_of_den mixedP Try.func177 (by kernel_rfl) (.s .z (.s .z (.s (.s .z (.b (.l [3, 4] [0] .z))) .z))) (by kernel_rfl) (Eq.mp (by kernel_rfl) h)

def F_ref01_Has (a0 a1 : Value) (w : World) (k : Value → World → Prop) : Prop :=
  wBin P .lss T_int a0 (.int .i64 1) w fun t7 w =>
  wGrp t7 false (fun k10 =>
    wBin P .gtr T_int a0 (.int .i64 8) w fun t10 w =>
    k10 t10 w) w fun _ t10 w =>
  wPick t7 (.bool true) t10 w fun t11 w =>
  wIf t11 (
    k (.bool false) w) (
    wJ1 (fun k2 =>
      wL2 a1 (.int .i64 0) w (fun _ v1 v5 w k3 =>
        wBin P .lss T_int v5 a0 w fun t14 w =>
        wIf t14 (
          wBin P .quo T_uint64 v1 (.int .u64 256) w fun t18 w =>
          wBin P .add T_int v5 (.int .i64 1) w fun t16 w =>
          k3 t18 t16 w) (
          k2 v1 w))) fun _ v1 w =>
    wBin P .eql T_uint64 v1 (.int .u64 0) w fun t20 w =>
    k t20 w)

theorem call_ref01_Has (a0 a1 : Value) {w : World} {k : Value → World → Prop} (h : F_ref01_Has a0 a1 w k) : wCall P n_ref01_Has [a0, a1] w k :=
  call_of_den mixedP Try.func243 (by kernel_rfl) (.s .z (.s (.s (.r (.ops [0, 1, 2] (.grp 2 false 10 [9] (.ops [3, 4] .nil) (.ops [5] .nil)))) .z) (.j [1] [] (.s .z (.b (.l [1, 5] [0] .z))) .z))) (by kernel_rfl) (Eq.mp (by kernel_rfl) h)

end Go.Dn
