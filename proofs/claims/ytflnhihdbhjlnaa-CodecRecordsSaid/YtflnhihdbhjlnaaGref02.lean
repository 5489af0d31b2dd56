import Derived.Test.YtflnhihdbhjlnaaGn
/-! Texts of functions, printed by mkg.py. -/
set_option maxRecDepth 100000
set_option linter.unusedVariables false
namespace Go.Dn
open Go Go.Proofs
def F_ref02_Crc (a0 : Value) (w : World) (k : Value → World → Prop) : Prop :=
  wJ1 (fun k1 =>
    wL2 (.int .u32 4294967295) (.int .i64 0) w (fun _ v3 v4 w k2 =>
      wLen P .len #[T_Luint8] [a0] w fun t8 w =>
      wBin P .lss T_int v4 t8 w fun t9 w =>
      wIf t9 (
        wJ1 (fun k4 =>
          wIndexA P T_Luint8 a0 v4 w fun t15 w =>
          wLoad P T_uint8 t15 w fun t16 w =>
          wConv P T_uint8 T_uint32 t16 w fun t17 w =>
          wBin P .xor T_uint32 v3 t17 w fun t18 w =>
          wL2 t18 (.int .i64 0) w (fun _ v3 v5 w k5 =>
            wBin P .lss T_int v5 (.int .i64 8) w fun t20 w =>
            wIf t20 (
              wBin P .rem T_uint32 v3 (.int .u32 2) w fun t24 w =>
              wBin P .eql T_uint32 t24 (.int .u32 1) w fun t25 w =>
              wIf t25 (
                wBin P .quo T_uint32 v3 (.int .u32 2) w fun t27 w =>
                wBin P .xor T_uint32 t27 (.int .u32 3988292384) w fun t28 w =>
                wBin P .add T_int v5 (.int .i64 1) w fun t22 w =>
                k5 t28 t22 w) (
                wBin P .quo T_uint32 v3 (.int .u32 2) w fun t30 w =>
                wBin P .add T_int v5 (.int .i64 1) w fun t22 w =>
                k5 t30 t22 w)) (
              k4 v3 w))) fun _ v3 w =>
        wBin P .add T_int v4 (.int .i64 1) w fun t11 w =>
        k2 v3 t11 w) (
        k1 v3 w))) fun _ v3 w =>
  wBin P .sub T_uint32 (.int .u32 4294967295) v3 w fun t32 w =>
  k t32 w

theorem call_ref02_Crc (a0 : Value) {w : World} {k : Value → World → Prop} (h : F_ref02_Crc a0 w k) : wCall P n_ref02_Crc [a0] w k :=
  call_of_den mixedP Try.func168 (by kernel_rfl) (.s .z (.s .z (.j [3] [] (.s .z (.b (.l [3, 4] [0] (.s .z (.j [3] [0, 4] (.b (.s .z (.s .z (.b (.l [3, 5] [0, 4] .z))))) .z))))) .z))) (by kernel_rfl) (Eq.mp (by kernel_rfl) h)

def F_ref02_Make (a0 a1 : Value) (w : World) (k : Value → World → Prop) : Prop :=
  wAlloc P T_A128uint8 w fun t4 w =>
  wBin P .eql T_uint8 a0 (.int .u8 0) w fun t8 w =>
  wGrp t8 false (fun k12 =>
    wLen P .len #[T_Luint8] [a1] w fun t11 w =>
    wBin P .gtr T_int t11 (.int .i64 120) w fun t12 w =>
    k12 t12 w) w fun _ t12 w =>
  wPick t8 (.bool true) t12 w fun t13 w =>
  wIf t13 (
    wBuild P T_A128uint8 [] w fun t14 w =>
    wStore P T_A128uint8 t4 t14 w fun w =>
    wRes P T_A128uint8 t4 w fun r4 =>
    k (.tuple #[r4, (.bool false)]) w) (
    wLen P .len #[T_Luint8] [a1] w fun t17 w =>
    wConv P T_int T_uint8 t17 w fun t18 w =>
    wBuildS P T_Luint8 4 [(0, (.int .u8 215)), (1, (.int .u8 76)), (2, a0), (3, t18)] w fun t19 w =>
    wBuiltin P .append #[T_Luint8, T_Luint8] [t19, a1] w fun t21 w =>
    wJ1 (fun k2 =>
      wL1 t21 w (fun _ v6 w k3 =>
        wLen P .len #[T_Luint8] [v6] w fun t23 w =>
        wBin P .lss T_int t23 (.int .i64 124) w fun t24 w =>
        wIf t24 (
          wBuildS P T_Luint8 1 [(0, (.int .u8 0))] w fun t26 w =>
          wBuiltin P .append #[T_Luint8, T_Luint8] [v6, t26] w fun t27 w =>
          k3 t27 w) (
          k2 v6 w))) fun _ v6 w =>
    wCall P n_ref02_Crc [v6] w fun t30 w =>
    wConv P T_uint32 T_uint64 t30 w fun t31 w =>
    wCall P n_ref01_Low [t31, (.int .i64 4)] w fun t32 w =>
    wBuiltin P .append #[T_Luint8, T_Luint8] [v6, t32] w fun t33 w =>
    wCall P n_ref01_Full [t33] w fun t34 w =>
    wStore P T_A128uint8 t4 t34 w fun w =>
    wRes P T_A128uint8 t4 w fun r4 =>
    k (.tuple #[r4, (.bool true)]) w)

theorem call_ref02_Make (a0 a1 : Value) {w : World} {k : Value → World → Prop} (h : F_ref02_Make a0 a1 w k) : wCall P n_ref02_Make [a0, a1] w k :=
  call_of_den mixedP Try.func174 (by kernel_rfl) (.s .z (.s (.s (.r (.ops [0, 1, 2] (.grp 2 false 12 [10, 11] (.ops [3, 4, 5] .nil) (.ops [6] .nil)))) .z) (.s .z (.j [6] [4] (.b (.l [6] [4] .z)) .z)))) (by kernel_rfl) (Eq.mp (by kernel_rfl) h)

def F_ref02_Open (a0 : Value) (w : World) (k : Value → World → Prop) : Prop :=
  wBox P T_A128uint8 a0 w fun t1 w =>
  wIndexA P T_A128uint8 t1 (.int .i64 3) w fun t9 w =>
  wLoad P T_uint8 t9 w fun t10 w =>
  wBin P .gtr T_uint8 t10 (.int .u8 120) w fun t11 w =>
  wIf t11 (
    k (.tuple #[(.int .u8 0), (.slice none 0 0), (.bool false)]) w) (
    wJ1 (fun k2 =>
      wL2 (.slice none 0 0) (.int .i64 0) w (fun _ v5 v6 w k3 =>
        wIndexA P T_A128uint8 t1 (.int .i64 3) w fun t13 w =>
        wLoad P T_uint8 t13 w fun t14 w =>
        wConv P T_uint8 T_int t14 w fun t15 w =>
        wBin P .lss T_int v6 t15 w fun t16 w =>
        wIf t16 (
          wBin P .add T_int (.int .i64 4) v6 w fun t21 w =>
          wIndexA P T_A128uint8 t1 t21 w fun t22 w =>
          wLoad P T_uint8 t22 w fun t23 w =>
          wBuildS P T_Luint8 1 [(0, t23)] w fun t24 w =>
          wBuiltin P .append #[T_Luint8, T_Luint8] [v5, t24] w fun t25 w =>
          wBin P .add T_int v6 (.int .i64 1) w fun t18 w =>
          k3 t25 t18 w) (
          k2 v5 w))) fun _ v5 w =>
    wIndexA P T_A128uint8 t1 (.int .i64 2) w fun t27 w =>
    wLoad P T_uint8 t27 w fun t28 w =>
    wCall P n_ref02_Make [t28, v5] w fun t30 w =>
    wExtract P t30 0 w fun t31 w =>
    wExtract P t30 1 w fun t32 w =>
    wAlloc P T_A128uint8 w fun t7 w =>
    wStore P T_A128uint8 t7 t31 w fun w =>
    wUn P .not t32 w fun t34 w =>
    wGrp t34 false (fun k38 =>
      wLoad P T_A128uint8 t7 w fun t36 w =>
      wLoad P T_A128uint8 t1 w fun t37 w =>
      wBin P .neq T_A128uint8 t36 t37 w fun t38 w =>
      k38 t38 w) w fun _ t38 w =>
    wPick t34 (.bool true) t38 w fun t39 w =>
    wIf t39 (
      k (.tuple #[(.int .u8 0), (.slice none 0 0), (.bool false)]) w) (
      wIndexA P T_A128uint8 t1 (.int .i64 2) w fun t40 w =>
      wLoad P T_uint8 t40 w fun t41 w =>
      k (.tuple #[t41, v5, (.bool true)]) w))

theorem call_ref02_Open (a0 : Value) {w : World} {k : Value → World → Prop} (h : F_ref02_Open a0 w k) : wCall P n_ref02_Open [a0] w k :=
  call_of_den mixedP Try.func176 (by kernel_rfl) (.s .z (.s .z (.s .z (.j [5] [1] (.s .z (.b (.l [5, 6] [1] .z))) (.s .z (.s (.s (.r (.ops [0, 1, 2] (.grp 2 false 38 [36, 37] (.ops [3, 4, 5] .nil) (.ops [6] .nil)))) .z) .z)))))) (by kernel_rfl) (Eq.mp (by kernel_rfl) h)

end Go.Dn
