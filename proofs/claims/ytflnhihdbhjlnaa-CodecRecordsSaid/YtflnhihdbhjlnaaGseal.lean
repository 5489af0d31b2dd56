import Derived.Test.YtflnhihdbhjlnaaGn
/-! Texts of functions, printed by mkg.py. -/
set_option maxRecDepth 100000
set_option linter.unusedVariables false
namespace Go.Dn
open Go Go.Proofs
def F_seal_Make (a0 a1 : Value) (w : World) (k : Value → World → Prop) : Prop :=
  wAlloc P T_api_Sector w fun t4 w =>
  wBin P .eql T_uint8 a0 (.int .u8 0) w fun t10 w =>
  wGrp t10 false (fun k14 =>
    wLen P .len #[T_Luint8] [a1] w fun t13 w =>
    wBin P .gtr T_int t13 (.int .i64 120) w fun t14 w =>
    k14 t14 w) w fun _ t14 w =>
  wPick t10 (.bool true) t14 w fun t15 w =>
  wIf t15 (
    wBuild P T_api_Sector [] w fun t16 w =>
    wStore P T_api_Sector t4 t16 w fun w =>
    wRes P T_api_Sector t4 w fun r4 =>
    k (.tuple #[r4, (.int .i64 1)]) w) (
    wAlloc P T_num_Writer w fun t6 w =>
    wCall P n_num_Writer_Num [t6, (.int .i64 2), (.int .u64 19671)] w fun _ w =>
    wConv P T_uint8 T_uint64 a0 w fun t19 w =>
    wCall P n_num_Writer_Num [t6, (.int .i64 1), t19] w fun _ w =>
    wLen P .len #[T_Luint8] [a1] w fun t22 w =>
    wConv P T_int T_uint64 t22 w fun t23 w =>
    wCall P n_num_Writer_Num [t6, (.int .i64 1), t23] w fun _ w =>
    wCall P n_num_Writer_Bytes [t6, (.int .i64 120), a1] w fun _ w =>
    wCall P n_num_Writer_Sector [t6] w fun t28 w =>
    wExtract P t28 0 w fun t29 w =>
    wExtract P t28 1 w fun _ w =>
    wAlloc P T_api_Sector w fun t7 w =>
    wStore P T_api_Sector t7 t29 w fun w =>
    wDraw w fun w =>
    wSlice P T_api_Sector t7 none none none w fun t31 w =>
    wSlice P T_api_Sector t7 none (some (.int .i64 124)) none w fun t32 w =>
    wCall P n_seal_Crc [t32] w fun t33 w =>
    wConv P T_uint32 T_uint64 t33 w fun t34 w =>
    wCall P n_num_Put [t31, (.int .i64 124), (.int .i64 4), t34] w fun _ w =>
    wLoad P T_api_Sector t7 w fun t36 w =>
    wStore P T_api_Sector t4 t36 w fun w =>
    wRes P T_api_Sector t4 w fun r4 =>
    k (.tuple #[r4, (.int .i64 0)]) w)

theorem call_seal_Make (a0 a1 : Value) {w : World} {k : Value → World → Prop} (h : F_seal_Make a0 a1 w k) : wCall P n_seal_Make [a0, a1] w k :=
  call_of_den mixedP Try.func235 (by kernel_rfl) (.s .z (.s (.s (.r (.ops [0, 1, 2] (.grp 2 false 14 [12, 13] (.ops [3, 4, 5] .nil) (.ops [6] .nil)))) .z) (.s .z (.s .z (.s .z (.s .z (.s .z (.s .z (.s (.r (.ops [0, 1] (.eff 2 [] (.ops [3] (.eff 4 [] .nil))))) .z))))))))) (by kernel_rfl) (Eq.mp (by kernel_rfl) h)

def F_seal_Open (a0 : Value) (w : World) (k : Value → World → Prop) : Prop :=
  wBox P T_api_Sector a0 w fun t1 w =>
  wLoad P T_api_Sector t1 w fun t11 w =>
  wCall P n_num_Read [t11] w fun t12 w =>
  wCall P n_num_Reader_Num [t12, (.int .i64 2)] w fun _ w =>
  wCall P n_num_Reader_Num [t12, (.int .i64 1)] w fun t16 w =>
  wConv P T_uint64 T_uint8 t16 w fun t17 w =>
  wCall P n_num_Reader_Num [t12, (.int .i64 1)] w fun t19 w =>
  wConv P T_uint64 T_int t19 w fun t20 w =>
  wBin P .gtr T_int t20 (.int .i64 120) w fun t22 w =>
  wIf t22 (
    k (.tuple #[(.int .u8 0), (.slice none 0 0), (.int .i64 21)]) w) (
    wCall P n_num_Reader_Bytes [t12, t20] w fun t25 w =>
    wCall P n_seal_Make [t17, t25] w fun t29 w =>
    wExtract P t29 0 w fun t30 w =>
    wExtract P t29 1 w fun t31 w =>
    wAlloc P T_api_Sector w fun t9 w =>
    wStore P T_api_Sector t9 t30 w fun w =>
    wBin P .neq T_api_Errno t31 (.int .i64 0) w fun t33 w =>
    wGrp t33 false (fun k37 =>
      wLoad P T_api_Sector t9 w fun t35 w =>
      wLoad P T_api_Sector t1 w fun t36 w =>
      wBin P .neq T_api_Sector t35 t36 w fun t37 w =>
      k37 t37 w) w fun _ t37 w =>
    wPick t33 (.bool true) t37 w fun t38 w =>
    wIf t38 (
      k (.tuple #[(.int .u8 0), (.slice none 0 0), (.int .i64 21)]) w) (
      k (.tuple #[t17, t25, (.int .i64 0)]) w))

theorem call_seal_Open (a0 : Value) {w : World} {k : Value → World → Prop} (h : F_seal_Open a0 w k) : wCall P n_seal_Open [a0] w k :=
  call_of_den mixedP Try.func240 (by kernel_rfl) (.s .z (.s .z (.s .z (.s .z (.s .z (.s .z (.s (.s .z (.s (.r (.ops [0, 1, 2] (.grp 2 false 37 [35, 36] (.ops [3, 4, 5] .nil) (.ops [6] .nil)))) .z)) .z))))))) (by kernel_rfl) (Eq.mp (by kernel_rfl) h)

def F_seal_Crc (a0 : Value) (w : World) (k : Value → World → Prop) : Prop :=
  wJ1 (fun k1 =>
    wLen P .len #[T_Luint8] [a0] w fun t8 w =>
    wL2 (.int .u32 4294967295) (.int .i64 0) w (fun _ v3 v9 w k2 =>
      wBin P .lss T_int v9 t8 w fun t10 w =>
      wIf t10 (
        wJ1 (fun k4 =>
          wIndexA P T_Luint8 a0 v9 w fun t11 w =>
          wLoad P T_uint8 t11 w fun t12 w =>
          wConv P T_uint8 T_uint32 t12 w fun t15 w =>
          wBin P .xor T_uint32 v3 t15 w fun t16 w =>
          wL2 t16 (.int .i64 0) w (fun _ v3 v17 w k5 =>
            wBin P .lss T_int v17 (.int .i64 8) w fun t18 w =>
            wIf t18 (
              wBin P .and T_uint32 v3 (.int .u32 1) w fun t20 w =>
              wBin P .shr T_uint32 v3 (.int .u64 1) w fun t22 w =>
              wBin P .eql T_uint32 t20 (.int .u32 1) w fun t24 w =>
              wIf t24 (
                wBin P .xor T_uint32 t22 (.int .u32 3988292384) w fun t26 w =>
                wBin P .add T_int v17 (.int .i64 1) w fun t27 w =>
                k5 t26 t27 w) (
                wBin P .add T_int v17 (.int .i64 1) w fun t27 w =>
                k5 t22 t27 w)) (
              k4 v3 w))) fun _ v3 w =>
        wBin P .add T_int v9 (.int .i64 1) w fun t28 w =>
        k2 v3 t28 w) (
        k1 v3 w))) fun _ v3 w =>
  wUn P .xor v3 w fun t30 w =>
  k t30 w

theorem call_seal_Crc (a0 : Value) {w : World} {k : Value → World → Prop} (h : F_seal_Crc a0 w k) : wCall P n_seal_Crc [a0] w k :=
  call_of_den mixedP Try.func279 (by kernel_rfl) (.s .z (.s .z (.j [3] [] (.s .z (.b (.l [3, 9] [7, 8] (.s .z (.s .z (.j [3] [7, 8, 9] (.b (.s .z (.s .z (.s .z (.b (.l [3, 17] [7, 8, 9] .z)))))) .z)))))) .z))) (by kernel_rfl) (Eq.mp (by kernel_rfl) h)

end Go.Dn
