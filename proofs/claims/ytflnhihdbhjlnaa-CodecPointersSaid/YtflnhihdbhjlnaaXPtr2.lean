import Derived.Test.YtflnhihdbhjlnaaXPtr1
import Derived.Below
import Derived.IntWalk
import Derived.Maps.AppendAt
import Derived.Deep.AppendLies
import Derived.Laws.MakeOwn
import Derived.ChangeKeysEq
import Derived.Laws.StructEq
import Derived.Laws.OwnMore
import Derived.Laws.FloatBits
section
/-! Texts of functions, printed by mkg.py. -/
set_option maxRecDepth 100000
set_option linter.unusedVariables false
namespace Go.Dn
open Go Go.Proofs
def F_ref05_WriteInode (a0 : Value) (w : World) (k : Value → World → Prop) : Prop :=
  wBox P T_ref05_Inode a0 w fun t1 w =>
  wAlloc P T_A128uint8 w fun t2 w =>
  wFieldA P T_ref05_Inode t1 2 w fun t4 w =>
  wLoad P T_int t4 w fun t5 w =>
  wBin P .lss T_int t5 (.int .i64 1) w fun t6 w =>
  wGrp t6 false (fun k10 =>
    wFieldA P T_ref05_Inode t1 2 w fun t8 w =>
    wLoad P T_int t8 w fun t9 w =>
    wBin P .gtr T_int t9 (.int .i64 2) w fun t10 w =>
    k10 t10 w) w fun _ t10 w =>
  wPick t6 (.bool true) t10 w fun t11 w =>
  wIf t11 (
    wBuild P T_A128uint8 [] w fun t12 w =>
    wStore P T_A128uint8 t2 t12 w fun w =>
    wRes P T_A128uint8 t2 w fun r2 =>
    k (.tuple #[r2, (.bool false)]) w) (
    wLoad P T_ref05_Inode t1 w fun t13 w =>
    wCall P n_ref05_InodeFields [t13] w fun t14 w =>
    wCall P n_ref05_Sealed [(.int .u8 2), t14] w fun t15 w =>
    wExtract P t15 0 w fun t16 w =>
    wExtract P t15 1 w fun t17 w =>
    wStore P T_A128uint8 t2 t16 w fun w =>
    wRes P T_A128uint8 t2 w fun r2 =>
    k (.tuple #[r2, t17]) w)

theorem call_ref05_WriteInode (a0 : Value) {w : World} {k : Value → World → Prop} (h : F_ref05_WriteInode a0 w k) : wCall P n_ref05_WriteInode [a0] w k :=
  call_of_den mixedP Try.func57 (by kernel_rfl) (.s .z (.s (.s (.r (.ops [0, 1, 2, 3] (.grp 3 false 10 [8, 9] (.ops [4, 5, 6] .nil) (.ops [7] .nil)))) .z) .z)) (by kernel_rfl) (Eq.mp (by kernel_rfl) h)

def F_ref05_ReadInode (a0 : Value) (w : World) (k : Value → World → Prop) : Prop :=
  wBox P T_A128uint8 a0 w fun t1 w =>
  wAlloc P T_ref05_Inode w fun t2 w =>
  wLoad P T_A128uint8 t1 w fun t9 w =>
  wBuildS P T_Lint 15 [(0, (.int .i64 2)), (1, (.int .i64 4)), (2, (.int .i64 1)), (3, (.int .i64 4)), (4, (.int .i64 4)), (5, (.int .i64 4)), (6, (.int .i64 4)), (7, (.int .i64 4)), (8, (.int .i64 4)), (9, (.int .i64 4)), (10, (.int .i64 4)), (11, (.int .i64 4)), (12, (.int .i64 4)), (13, (.int .i64 4)), (14, (.int .i64 4))] w fun t10 w =>
  wCall P n_ref05_Opened [(.int .u8 2), t9, t10] w fun t11 w =>
  wExtract P t11 0 w fun t12 w =>
  wExtract P t11 1 w fun t13 w =>
  wUn P .not t13 w fun t15 w =>
  wGrp t15 false (fun k19 =>
    wLen P .len #[T_Lint64] [t12] w fun t18 w =>
    wBin P .neq T_int t18 (.int .i64 15) w fun t19 w =>
    k19 t19 w) w fun _ t19 w =>
  wPick t15 (.bool true) t19 w fun t20 w =>
  wGrp t20 false (fun k25 =>
    wIndexA P T_Lint64 t12 (.int .i64 2) w fun t23 w =>
    wLoad P T_int64 t23 w fun t24 w =>
    wBin P .lss T_int64 t24 (.int .i64 1) w fun t25 w =>
    k25 t25 w) w fun _ t25 w =>
  wPick t20 (.bool true) t25 w fun t26 w =>
  wGrp t26 false (fun k31 =>
    wIndexA P T_Lint64 t12 (.int .i64 2) w fun t29 w =>
    wLoad P T_int64 t29 w fun t30 w =>
    wBin P .gtr T_int64 t30 (.int .i64 2) w fun t31 w =>
    k31 t31 w) w fun _ t31 w =>
  wPick t26 (.bool true) t31 w fun t32 w =>
  wIf t32 (
    wBuild P T_ref05_Inode [] w fun t33 w =>
    wStore P T_ref05_Inode t2 t33 w fun w =>
    wRes P T_ref05_Inode t2 w fun r2 =>
    k (.tuple #[r2, (.bool false)]) w) (
    wDraw w fun w =>
    wIndexA P T_Lint64 t12 (.int .i64 0) w fun t35 w =>
    wLoad P T_int64 t35 w fun t36 w =>
    wConv P T_int64 T_uint32 t36 w fun t37 w =>
    wIndexA P T_Lint64 t12 (.int .i64 1) w fun t39 w =>
    wLoad P T_int64 t39 w fun t40 w =>
    wConv P T_int64 T_uint32 t40 w fun t41 w =>
    wIndexA P T_Lint64 t12 (.int .i64 2) w fun t43 w =>
    wLoad P T_int64 t43 w fun t44 w =>
    wIndexA P T_Lint64 t12 (.int .i64 3) w fun t46 w =>
    wLoad P T_int64 t46 w fun t47 w =>
    wIndexA P T_Lint64 t12 (.int .i64 4) w fun t49 w =>
    wLoad P T_int64 t49 w fun t50 w =>
    wConv P T_int64 T_uint32 t50 w fun t51 w =>
    wIndexA P T_Lint64 t12 (.int .i64 13) w fun t53 w =>
    wLoad P T_int64 t53 w fun t54 w =>
    wIndexA P T_Lint64 t12 (.int .i64 14) w fun t56 w =>
    wLoad P T_int64 t56 w fun t57 w =>
    wBuild P T_ref05_Inode [(0, t37), (1, t41), (2, t44), (3, t47), (4, t51), (6, t54), (7, t57)] w fun t58 w =>
    wAlloc P T_ref05_Inode w fun t6 w =>
    wKeep P [(T_int64, t35, t36), (T_int64, t39, t40), (T_int64, t43, t44), (T_int64, t46, t47), (T_int64, t49, t50), (T_int64, t53, t54), (T_int64, t56, t57)] w ∧ wStore P T_ref05_Inode t6 t58 w fun w =>
    wJ0 (fun k2 =>
      wL1 (.int .i64 0) w (fun _ v7 w k3 =>
        wBin P .lss T_int v7 (.int .i64 8) w fun t60 w =>
        wIf t60 (
          wBin P .add T_int (.int .i64 5) v7 w fun t66 w =>
          wIndexA P T_Lint64 t12 t66 w fun t67 w =>
          wLoad P T_int64 t67 w fun t68 w =>
          wFieldA P T_ref05_Inode t6 5 w fun t69 w =>
          wIndexA P T_A8int t69 v7 w fun t70 w =>
          wStore P T_int t70 t68 w fun w =>
          wBin P .add T_int v7 (.int .i64 1) w fun t62 w =>
          k3 t62 w) (
          k2 w))) fun _ w =>
    wLoad P T_ref05_Inode t6 w fun t71 w =>
    wStore P T_ref05_Inode t2 t71 w fun w =>
    wRes P T_ref05_Inode t2 w fun r2 =>
    k (.tuple #[r2, (.bool true)]) w)

theorem call_ref05_ReadInode (a0 : Value) {w : World} {k : Value → World → Prop} (h : F_ref05_ReadInode a0 w k) : wCall P n_ref05_ReadInode [a0] w k :=
  call_of_den mixedP Try.func60 (by kernel_rfl) (.s .z (.s .z (.s (.s (.r (.ops [0, 1, 2] (.grp 2 false 19 [17, 18] (.ops [3, 4, 5] .nil) (.ops [6, 7] (.grp 7 false 25 [22, 23, 24] (.ops [8, 9, 10, 11] .nil) (.ops [12, 13] (.grp 13 false 31 [28, 29, 30] (.ops [14, 15, 16, 17] .nil) (.ops [18] .nil)))))))) .z) (.s (.r (.ops [0, 1, 2, 3, 4, 5, 6, 7, 8, 9, 10, 11, 12, 13, 14, 15, 16, 17, 18, 19, 20, 21, 22, 23, 24] (.eff 25 [2, 6, 10, 13, 16, 20, 23] (.eff 26 [] .nil)))) (.j [] [2, 6] (.s .z (.b (.l [7] [2, 4, 6] .z))) .z))))) (by kernel_rfl) (Eq.mp (by kernel_rfl) h)

def F_ref05_WriteHeader (a0 : Value) (w : World) (k : Value → World → Prop) : Prop :=
  wBox P T_ref05_Header a0 w fun t1 w =>
  wAlloc P T_A128uint8 w fun t2 w =>
  wFieldA P T_ref05_Header t1 2 w fun t5 w =>
  wLoad P T_int t5 w fun t6 w =>
  wBin P .lss T_int t6 (.int .i64 0) w fun t7 w =>
  wGrp t7 false (fun k11 =>
    wFieldA P T_ref05_Header t1 2 w fun t9 w =>
    wLoad P T_int t9 w fun t10 w =>
    wBin P .gtr T_int t10 (.int .i64 65535) w fun t11 w =>
    k11 t11 w) w fun _ t11 w =>
  wPick t7 (.bool true) t11 w fun t12 w =>
  wGrp t12 false (fun k16 =>
    wFieldA P T_ref05_Header t1 3 w fun t14 w =>
    wLoad P T_int t14 w fun t15 w =>
    wBin P .lss T_int t15 (.int .i64 0) w fun t16 w =>
    k16 t16 w) w fun _ t16 w =>
  wPick t12 (.bool true) t16 w fun t17 w =>
  wGrp t17 false (fun k21 =>
    wFieldA P T_ref05_Header t1 3 w fun t19 w =>
    wLoad P T_int t19 w fun t20 w =>
    wBin P .gtr T_int t20 (.int .i64 65535) w fun t21 w =>
    k21 t21 w) w fun _ t21 w =>
  wPick t17 (.bool true) t21 w fun t22 w =>
  wGrp t22 false (fun k26 =>
    wFieldA P T_ref05_Header t1 4 w fun t24 w =>
    wLoad P T_int t24 w fun t25 w =>
    wBin P .lss T_int t25 (.int .i64 0) w fun t26 w =>
    k26 t26 w) w fun _ t26 w =>
  wPick t22 (.bool true) t26 w fun t27 w =>
  wGrp t27 false (fun k31 =>
    wFieldA P T_ref05_Header t1 4 w fun t29 w =>
    wLoad P T_int t29 w fun t30 w =>
    wBin P .gtr T_int t30 (.int .i64 65535) w fun t31 w =>
    k31 t31 w) w fun _ t31 w =>
  wPick t27 (.bool true) t31 w fun t32 w =>
  wIf t32 (
    wBuild P T_A128uint8 [] w fun t33 w =>
    wStore P T_A128uint8 t2 t33 w fun w =>
    wRes P T_A128uint8 t2 w fun r2 =>
    k (.tuple #[r2, (.bool false)]) w) (
    wDraw w fun w =>
    wFieldA P T_ref05_Header t1 0 w fun t34 w =>
    wLoad P T_uint64 t34 w fun t35 w =>
    wFieldA P T_ref05_Header t1 1 w fun t37 w =>
    wLoad P T_uint64 t37 w fun t38 w =>
    wCall P n_ref01_Low [t35, (.int .i64 8)] w fun t36 w =>
    wKeep P [(T_uint64, t37, t38)] w ∧ wCall P n_ref01_Low [t38, (.int .i64 8)] w fun t39 w =>
    wBuiltin P .append #[T_Luint8, T_Luint8] [t36, t39] w fun t40 w =>
    wFieldA P T_ref05_Header t1 2 w fun t42 w =>
    wLoad P T_int t42 w fun t43 w =>
    wConv P T_int T_uint64 t43 w fun t44 w =>
    wCall P n_ref01_Low [t44, (.int .i64 2)] w fun t45 w =>
    wBuiltin P .append #[T_Luint8, T_Luint8] [t40, t45] w fun t46 w =>
    wFieldA P T_ref05_Header t1 3 w fun t48 w =>
    wLoad P T_int t48 w fun t49 w =>
    wConv P T_int T_uint64 t49 w fun t50 w =>
    wCall P n_ref01_Low [t50, (.int .i64 2)] w fun t51 w =>
    wBuiltin P .append #[T_Luint8, T_Luint8] [t46, t51] w fun t52 w =>
    wFieldA P T_ref05_Header t1 4 w fun t54 w =>
    wLoad P T_int t54 w fun t55 w =>
    wConv P T_int T_uint64 t55 w fun t56 w =>
    wCall P n_ref01_Low [t56, (.int .i64 2)] w fun t57 w =>
    wBuiltin P .append #[T_Luint8, T_Luint8] [t52, t57] w fun t58 w =>
    wFieldA P T_ref05_Header t1 5 w fun t60 w =>
    wLoad P T_uint32 t60 w fun t61 w =>
    wConv P T_uint32 T_uint64 t61 w fun t62 w =>
    wCall P n_ref01_Low [t62, (.int .i64 4)] w fun t63 w =>
    wBuiltin P .append #[T_Luint8, T_Luint8] [t58, t63] w fun t64 w =>
    wCall P n_ref02_Make [(.int .u8 6), t64] w fun t65 w =>
    wExtract P t65 0 w fun t66 w =>
    wExtract P t65 1 w fun t67 w =>
    wStore P T_A128uint8 t2 t66 w fun w =>
    wRes P T_A128uint8 t2 w fun r2 =>
    k (.tuple #[r2, t67]) w)

theorem call_ref05_WriteHeader (a0 : Value) {w : World} {k : Value → World → Prop} (h : F_ref05_WriteHeader a0 w k) : wCall P n_ref05_WriteHeader [a0] w k :=
  call_of_den mixedP Try.func62 (by kernel_rfl) (.s .z (.s (.s (.r (.ops [0, 1, 2, 3] (.grp 3 false 11 [9, 10] (.ops [4, 5, 6] .nil) (.ops [7, 8] (.grp 8 false 16 [14, 15] (.ops [9, 10, 11] .nil) (.ops [12, 13] (.grp 13 false 21 [19, 20] (.ops [14, 15, 16] .nil) (.ops [17, 18] (.grp 18 false 26 [24, 25] (.ops [19, 20, 21] .nil) (.ops [22, 23] (.grp 23 false 31 [29, 30] (.ops [24, 25, 26] .nil) (.ops [27] .nil)))))))))))) .z) (.s (.r (.ops [0, 1, 3, 4] (.eff 2 [4] (.eff 5 [] (.eff 6 [] (.ops [7] .nil)))))) .z))) (by kernel_rfl) (Eq.mp (by kernel_rfl) h)

def F_ref05_ReadHeader (a0 : Value) (w : World) (k : Value → World → Prop) : Prop :=
  wBox P T_A128uint8 a0 w fun t1 w =>
  wAlloc P T_ref05_Header w fun t2 w =>
  wLoad P T_A128uint8 t1 w fun t8 w =>
  wCall P n_ref02_Open [t8] w fun t9 w =>
  wExtract P t9 0 w fun t10 w =>
  wExtract P t9 1 w fun t11 w =>
  wExtract P t9 2 w fun t12 w =>
  wUn P .not t12 w fun t14 w =>
  wGrp t14 false (fun k17 =>
    wBin P .neq T_uint8 t10 (.int .u8 6) w fun t17 w =>
    k17 t17 w) w fun _ t17 w =>
  wPick t14 (.bool true) t17 w fun t18 w =>
  wGrp t18 false (fun k22 =>
    wLen P .len #[T_Luint8] [t11] w fun t21 w =>
    wBin P .neq T_int t21 (.int .i64 26) w fun t22 w =>
    k22 t22 w) w fun _ t22 w =>
  wPick t18 (.bool true) t22 w fun t23 w =>
  wIf t23 (
    wBuild P T_ref05_Header [] w fun t24 w =>
    wStore P T_ref05_Header t2 t24 w fun w =>
    wRes P T_ref05_Header t2 w fun r2 =>
    k (.tuple #[r2, (.bool false)]) w) (
    wDraw w fun w =>
    wSlice P T_Luint8 t11 none (some (.int .i64 8)) none w fun t26 w =>
    wSlice P T_Luint8 t11 (some (.int .i64 8)) (some (.int .i64 16)) none w fun t29 w =>
    wSlice P T_Luint8 t11 (some (.int .i64 16)) (some (.int .i64 18)) none w fun t32 w =>
    wSlice P T_Luint8 t11 (some (.int .i64 18)) (some (.int .i64 20)) none w fun t36 w =>
    wSlice P T_Luint8 t11 (some (.int .i64 20)) (some (.int .i64 22)) none w fun t40 w =>
    wSlice P T_Luint8 t11 (some (.int .i64 22)) none none w fun t44 w =>
    wCall P n_ref01_Num [t26] w fun t27 w =>
    wCall P n_ref01_Num [t29] w fun t30 w =>
    wCall P n_ref01_Num [t32] w fun t33 w =>
    wConv P T_uint64 T_int t33 w fun t34 w =>
    wCall P n_ref01_Num [t36] w fun t37 w =>
    wConv P T_uint64 T_int t37 w fun t38 w =>
    wCall P n_ref01_Num [t40] w fun t41 w =>
    wConv P T_uint64 T_int t41 w fun t42 w =>
    wCall P n_ref01_Num [t44] w fun t45 w =>
    wConv P T_uint64 T_uint32 t45 w fun t46 w =>
    wBuild P T_ref05_Header [(0, t27), (1, t30), (2, t34), (3, t38), (4, t42), (5, t46)] w fun t47 w =>
    wStore P T_ref05_Header t2 t47 w fun w =>
    wRes P T_ref05_Header t2 w fun r2 =>
    k (.tuple #[r2, (.bool true)]) w)

theorem call_ref05_ReadHeader (a0 : Value) {w : World} {k : Value → World → Prop} (h : F_ref05_ReadHeader a0 w k) : wCall P n_ref05_ReadHeader [a0] w k :=
  call_of_den mixedP Try.func64 (by kernel_rfl) (.s .z (.s .z (.s (.s (.r (.ops [0, 1, 2] (.grp 2 false 17 [16] (.ops [3, 4] .nil) (.ops [5, 6] (.grp 6 false 22 [20, 21] (.ops [7, 8, 9] .nil) (.ops [10] .nil)))))) .z) (.s (.r (.ops [0, 1, 3, 4, 6, 7, 10, 11, 14, 15, 18, 19] (.eff 2 [] (.eff 5 [] (.eff 8 [] (.ops [9] (.eff 12 [] (.ops [13] (.eff 16 [] (.ops [17] (.eff 20 [] (.ops [21, 22] (.eff 23 [] (.ops [24] .nil)))))))))))))) .z)))) (by kernel_rfl) (Eq.mp (by kernel_rfl) h)

def F_ref05_WritePointers (a0 : Value) (w : World) (k : Value → World → Prop) : Prop :=
  wBox P T_A32int a0 w fun t1 w =>
  wAlloc P T_A128uint8 w fun t2 w =>
  wJ1 (fun k1 =>
    wL2 (.slice none 0 0) (.int .i64 0) w (fun _ v4 v5 w k2 =>
      wBin P .lss T_int v5 (.int .i64 32) w fun t7 w =>
      wIf t7 (
        wIndexA P T_A32int t1 v5 w fun t11 w =>
        wLoad P T_int t11 w fun t12 w =>
        wBin P .lss T_int t12 (.int .i64 0) w fun t13 w =>
        wGrp t13 false (fun k18 =>
          wIndexA P T_A32int t1 v5 w fun t16 w =>
          wLoad P T_int t16 w fun t17 w =>
          wBin P .gtr T_int t17 (.int .i64 65535) w fun t18 w =>
          k18 t18 w) w fun _ t18 w =>
        wPick t13 (.bool true) t18 w fun t19 w =>
        wIf t19 (
          wBuild P T_A128uint8 [] w fun t20 w =>
          wStore P T_A128uint8 t2 t20 w fun w =>
          wRes P T_A128uint8 t2 w fun r2 =>
          k (.tuple #[r2, (.bool false)]) w) (
          wIndexA P T_A32int t1 v5 w fun t23 w =>
          wLoad P T_int t23 w fun t24 w =>
          wConv P T_int T_uint64 t24 w fun t25 w =>
          wCall P n_ref01_Low [t25, (.int .i64 4)] w fun t26 w =>
          wBuiltin P .append #[T_Luint8, T_Luint8] [v4, t26] w fun t27 w =>
          wBin P .add T_int v5 (.int .i64 1) w fun t9 w =>
          k2 t27 t9 w)) (
        k1 v4 w))) fun _ v4 w =>
  wCall P n_ref01_Full [v4] w fun t29 w =>
  wStore P T_A128uint8 t2 t29 w fun w =>
  wRes P T_A128uint8 t2 w fun r2 =>
  k (.tuple #[r2, (.bool true)]) w

theorem call_ref05_WritePointers (a0 : Value) {w : World} {k : Value → World → Prop} (h : F_ref05_WritePointers a0 w k) : wCall P n_ref05_WritePointers [a0] w k :=
  call_of_den mixedP Try.func66 (by kernel_rfl) (.s .z (.s .z (.j [4] [2] (.s .z (.b (.l [4, 5] [1, 2] (.s .z (.s (.b (.s (.s (.r (.ops [0, 1, 2, 3, 4] (.grp 4 false 18 [15, 16, 17] (.ops [5, 6, 7, 8] .nil) (.ops [9] .nil)))) .z) .z)) .z))))) .z))) (by kernel_rfl) (Eq.mp (by kernel_rfl) h)

def F_ref05_ReadPointers (a0 : Value) (w : World) (k : Value → World → Prop) : Prop :=
  wBox P T_A128uint8 a0 w fun t1 w =>
  wAlloc P T_A32int w fun t2 w =>
  wAlloc P T_A32int w fun t4 w =>
  wJ0 (fun k1 =>
    wL1 (.int .i64 0) w (fun _ v5 w k2 =>
      wBin P .lss T_int v5 (.int .i64 32) w fun t8 w =>
      wIf t8 (
        wBin P .mul T_int (.int .i64 4) v5 w fun t12 w =>
        wBin P .mul T_int (.int .i64 4) v5 w fun t14 w =>
        wBin P .add T_int t14 (.int .i64 4) w fun t15 w =>
        wSlice P T_A128uint8 t1 (some t12) (some t15) none w fun t16 w =>
        wCall P n_ref01_Num [t16] w fun t17 w =>
        wBin P .gtr T_uint64 t17 (.int .u64 65535) w fun t19 w =>
        wIf t19 (
          wBuild P T_A32int [] w fun t20 w =>
          wStore P T_A32int t2 t20 w fun w =>
          wRes P T_A32int t2 w fun r2 =>
          k (.tuple #[r2, (.bool false)]) w) (
          wConv P T_uint64 T_int t17 w fun t23 w =>
          wIndexA P T_A32int t4 v5 w fun t24 w =>
          wStore P T_int t24 t23 w fun w =>
          wBin P .add T_int v5 (.int .i64 1) w fun t10 w =>
          k2 t10 w)) (
        k1 w))) fun _ w =>
  wLoad P T_A32int t4 w fun t25 w =>
  wStore P T_A32int t2 t25 w fun w =>
  wRes P T_A32int t2 w fun r2 =>
  k (.tuple #[r2, (.bool true)]) w

theorem call_ref05_ReadPointers (a0 : Value) {w : World} {k : Value → World → Prop} (h : F_ref05_ReadPointers a0 w k) : wCall P n_ref05_ReadPointers [a0] w k :=
  call_of_den mixedP Try.func69 (by kernel_rfl) (.s .z (.s .z (.j [] [2, 4] (.s .z (.b (.l [5] [1, 2, 4] .z))) .z))) (by kernel_rfl) (Eq.mp (by kernel_rfl) h)

def F_ref05_WriteUses (a0 : Value) (w : World) (k : Value → World → Prop) : Prop :=
  wAlloc P T_A128uint8 w fun t2 w =>
  wJ1 (fun k1 =>
    wL2 (.slice none 0 0) (.int .i64 0) w (fun _ v4 v5 w k2 =>
      wLen P .len #[T_Lref05_Use] [a0] w fun t9 w =>
      wBin P .lss T_int v5 t9 w fun t10 w =>
      wIf t10 (
        wIndexA P T_Lref05_Use a0 v5 w fun t15 w =>
        wLoad P T_ref05_Use t15 w fun t16 w =>
        wAlloc P T_ref05_Use w fun t6 w =>
        wStore P T_ref05_Use t6 t16 w fun w =>
        wFieldA P T_ref05_Use t6 1 w fun t17 w =>
        wLoad P T_int t17 w fun t18 w =>
        wBin P .lss T_int t18 (.int .i64 0) w fun t19 w =>
        wGrp t19 false (fun k23 =>
          wFieldA P T_ref05_Use t6 1 w fun t21 w =>
          wLoad P T_int t21 w fun t22 w =>
          wBin P .gtr T_int t22 (.int .i64 3) w fun t23 w =>
          k23 t23 w) w fun _ t23 w =>
        wPick t19 (.bool true) t23 w fun t24 w =>
        wIf t24 (
          wBuild P T_A128uint8 [] w fun t25 w =>
          wStore P T_A128uint8 t2 t25 w fun w =>
          wRes P T_A128uint8 t2 w fun r2 =>
          k (.tuple #[r2, (.bool false)]) w) (
          wFieldA P T_ref05_Use t6 0 w fun t27 w =>
          wLoad P T_int t27 w fun t28 w =>
          wBuild P T_ref05_Field [(0, (.int .i64 2)), (1, t28)] w fun t29 w =>
          wFieldA P T_ref05_Use t6 1 w fun t30 w =>
          wLoad P T_int t30 w fun t31 w =>
          wBuild P T_ref05_Field [(0, (.int .i64 1)), (1, t31)] w fun t32 w =>
          wFieldA P T_ref05_Use t6 2 w fun t33 w =>
          wLoad P T_uint32 t33 w fun t34 w =>
          wConv P T_uint32 T_int64 t34 w fun t35 w =>
          wBuild P T_ref05_Field [(0, (.int .i64 4)), (1, t35)] w fun t36 w =>
          wBuildS P T_Lref05_Field 3 [(0, t29), (1, t32), (2, t36)] w fun t37 w =>
          wBuiltin P .append #[T_Lref05_Field, T_Lref05_Field] [v4, t37] w fun t38 w =>
          wBin P .add T_int v5 (.int .i64 1) w fun t12 w =>
          k2 t38 t12 w)) (
        k1 v4 w))) fun _ v4 w =>
  wLen P .len #[T_Lref05_Use] [a0] w fun t40 w =>
  wBin P .gtr T_int t40 (.int .i64 15) w fun t41 w =>
  wIf t41 (
    wBuild P T_A128uint8 [] w fun t42 w =>
    wStore P T_A128uint8 t2 t42 w fun w =>
    wRes P T_A128uint8 t2 w fun r2 =>
    k (.tuple #[r2, (.bool false)]) w) (
    wCall P n_ref05_Sealed [(.int .u8 5), v4] w fun t44 w =>
    wExtract P t44 0 w fun t45 w =>
    wExtract P t44 1 w fun t46 w =>
    wStore P T_A128uint8 t2 t45 w fun w =>
    wRes P T_A128uint8 t2 w fun r2 =>
    k (.tuple #[r2, t46]) w)

theorem call_ref05_WriteUses (a0 : Value) {w : World} {k : Value → World → Prop} (h : F_ref05_WriteUses a0 w k) : wCall P n_ref05_WriteUses [a0] w k :=
  call_of_den mixedP Try.func70 (by kernel_rfl) (.s .z (.s .z (.j [4] [0, 2] (.s .z (.b (.l [4, 5] [0, 2] (.s .z (.s (.b (.s .z (.s (.s (.r (.ops [0, 1, 2, 3] (.grp 3 false 23 [21, 22] (.ops [4, 5, 6] .nil) (.ops [7] .nil)))) .z) .z))) .z))))) .z))) (by kernel_rfl) (Eq.mp (by kernel_rfl) h)

def F_ref05_ReadUses (a0 : Value) (w : World) (k : Value → World → Prop) : Prop :=
  wBox P T_A128uint8 a0 w fun t1 w =>
  wLoad P T_A128uint8 t1 w fun t9 w =>
  wBuildS P T_Lint 3 [(0, (.int .i64 2)), (1, (.int .i64 1)), (2, (.int .i64 4))] w fun t10 w =>
  wCall P n_ref05_Opened [(.int .u8 5), t9, t10] w fun t11 w =>
  wExtract P t11 0 w fun t12 w =>
  wExtract P t11 1 w fun t13 w =>
  wJ2 (fun k1 =>
    wL3 t13 (.slice none 0 0) (.int .i64 0) w (fun _ v5 v6 v7 w k2 =>
      wBin P .add T_int v7 (.int .i64 2) w fun t15 w =>
      wLen P .len #[T_Lint64] [t12] w fun t17 w =>
      wBin P .lss T_int t15 t17 w fun t18 w =>
      wIf t18 (
        wDraw w fun w =>
        wIndexA P T_Lint64 t12 v7 w fun t24 w =>
        wLoad P T_int64 t24 w fun t25 w =>
        wBin P .add T_int v7 (.int .i64 1) w fun t28 w =>
        wIndexA P T_Lint64 t12 t28 w fun t29 w =>
        wLoad P T_int64 t29 w fun t30 w =>
        wBin P .add T_int v7 (.int .i64 2) w fun t33 w =>
        wIndexA P T_Lint64 t12 t33 w fun t34 w =>
        wLoad P T_int64 t34 w fun t35 w =>
        wConv P T_int64 T_uint32 t35 w fun t36 w =>
        wBuild P T_ref05_Use [(0, t25), (1, t30), (2, t36)] w fun t37 w =>
        wBuildS P T_Lref05_Use 1 [(0, t37)] w fun t38 w =>
        wBuiltin P .append #[T_Lref05_Use, T_Lref05_Use] [v6, t38] w fun t39 w =>
        wGrp v5 true (fun k47 =>
          wBin P .add T_int v7 (.int .i64 1) w fun t44 w =>
          wIndexA P T_Lint64 t12 t44 w fun t45 w =>
          wLoad P T_int64 t45 w fun t46 w =>
          wBin P .leq T_int64 t46 (.int .i64 3) w fun t47 w =>
          k47 t47 w) w fun _ t47 w =>
        wPick v5 t47 (.bool false) w fun t48 w =>
        wBin P .add T_int v7 (.int .i64 3) w fun t20 w =>
        k2 t48 t39 t20 w) (
        k1 v5 v6 w))) fun _ v5 v6 w =>
  wUn P .not v5 w fun t50 w =>
  wGrp t50 false (fun k54 =>
    wLen P .len #[T_Lref05_Use] [v6] w fun t53 w =>
    wBin P .gtr T_int t53 (.int .i64 15) w fun t54 w =>
    k54 t54 w) w fun _ t54 w =>
  wPick t50 (.bool true) t54 w fun t55 w =>
  wIf t55 (
    k (.tuple #[(.slice none 0 0), (.bool false)]) w) (
    k (.tuple #[v6, (.bool true)]) w)

theorem call_ref05_ReadUses (a0 : Value) {w : World} {k : Value → World → Prop} (h : F_ref05_ReadUses a0 w k) : wCall P n_ref05_ReadUses [a0] w k :=
  call_of_den mixedP Try.func71 (by kernel_rfl) (.s .z (.s .z (.s .z (.j [5, 6] [] (.s .z (.b (.l [5, 6, 7] [4] (.s .z (.s (.b (.s (.r (.ops [0, 1, 2, 3, 4, 5, 6, 7, 8, 9, 10, 11, 12, 13, 14, 15, 16] (.eff 17 [] (.eff 18 [] (.ops [19] .nil))))) (.r (.ops [0, 1] (.grp 1 true 47 [42, 43, 44, 45, 46] (.ops [2, 3, 4, 5, 6, 7] .nil) (.ops [8, 9] .nil)))))) .z))))) (.s (.s (.r (.ops [0, 1, 2] (.grp 2 false 54 [52, 53] (.ops [3, 4, 5] .nil) (.ops [6] .nil)))) .z) .z))))) (by kernel_rfl) (Eq.mp (by kernel_rfl) h)

def F_ref05_WriteSlots (a0 : Value) (w : World) (k : Value → World → Prop) : Prop :=
  wAlloc P T_A128uint8 w fun t2 w =>
  wJ1 (fun k1 =>
    wL2 (.slice none 0 0) (.int .i64 0) w (fun _ v4 v5 w k2 =>
      wLen P .len #[T_Lref05_Slot] [a0] w fun t9 w =>
      wBin P .lss T_int v5 t9 w fun t10 w =>
      wIf t10 (
        wIndexA P T_Lref05_Slot a0 v5 w fun t15 w =>
        wLoad P T_ref05_Slot t15 w fun t16 w =>
        wAlloc P T_ref05_Slot w fun t6 w =>
        wStore P T_ref05_Slot t6 t16 w fun w =>
        wFieldA P T_ref05_Slot t6 3 w fun t17 w =>
        wLoad P T_int t17 w fun t18 w =>
        wBin P .lss T_int t18 (.int .i64 0) w fun t19 w =>
        wGrp t19 false (fun k23 =>
          wFieldA P T_ref05_Slot t6 3 w fun t21 w =>
          wLoad P T_int t21 w fun t22 w =>
          wBin P .gtr T_int t22 (.int .i64 2) w fun t23 w =>
          k23 t23 w) w fun _ t23 w =>
        wPick t19 (.bool true) t23 w fun t24 w =>
        wIf t24 (
          wBuild P T_A128uint8 [] w fun t25 w =>
          wStore P T_A128uint8 t2 t25 w fun w =>
          wRes P T_A128uint8 t2 w fun r2 =>
          k (.tuple #[r2, (.bool false)]) w) (
          wFieldA P T_ref05_Slot t6 0 w fun t27 w =>
          wLoad P T_int t27 w fun t28 w =>
          wBuild P T_ref05_Field [(0, (.int .i64 4)), (1, t28)] w fun t29 w =>
          wFieldA P T_ref05_Slot t6 1 w fun t30 w =>
          wLoad P T_uint32 t30 w fun t31 w =>
          wConv P T_uint32 T_int64 t31 w fun t32 w =>
          wBuild P T_ref05_Field [(0, (.int .i64 4)), (1, t32)] w fun t33 w =>
          wFieldA P T_ref05_Slot t6 2 w fun t34 w =>
          wLoad P T_int t34 w fun t35 w =>
          wBuild P T_ref05_Field [(0, (.int .i64 2)), (1, t35)] w fun t36 w =>
          wFieldA P T_ref05_Slot t6 3 w fun t37 w =>
          wLoad P T_int t37 w fun t38 w =>
          wBuild P T_ref05_Field [(0, (.int .i64 1)), (1, t38)] w fun t39 w =>
          wBuildS P T_Lref05_Field 4 [(0, t29), (1, t33), (2, t36), (3, t39)] w fun t40 w =>
          wBuiltin P .append #[T_Lref05_Field, T_Lref05_Field] [v4, t40] w fun t41 w =>
          wBin P .add T_int v5 (.int .i64 1) w fun t12 w =>
          k2 t41 t12 w)) (
        k1 v4 w))) fun _ v4 w =>
  wLen P .len #[T_Lref05_Slot] [a0] w fun t43 w =>
  wBin P .gtr T_int t43 (.int .i64 10) w fun t44 w =>
  wIf t44 (
    wBuild P T_A128uint8 [] w fun t45 w =>
    wStore P T_A128uint8 t2 t45 w fun w =>
    wRes P T_A128uint8 t2 w fun r2 =>
    k (.tuple #[r2, (.bool false)]) w) (
    wCall P n_ref05_Sealed [(.int .u8 4), v4] w fun t47 w =>
    wExtract P t47 0 w fun t48 w =>
    wExtract P t47 1 w fun t49 w =>
    wStore P T_A128uint8 t2 t48 w fun w =>
    wRes P T_A128uint8 t2 w fun r2 =>
    k (.tuple #[r2, t49]) w)

theorem call_ref05_WriteSlots (a0 : Value) {w : World} {k : Value → World → Prop} (h : F_ref05_WriteSlots a0 w k) : wCall P n_ref05_WriteSlots [a0] w k :=
  call_of_den mixedP Try.func75 (by kernel_rfl) (.s .z (.s .z (.j [4] [0, 2] (.s .z (.b (.l [4, 5] [0, 2] (.s .z (.s (.b (.s .z (.s (.s (.r (.ops [0, 1, 2, 3] (.grp 3 false 23 [21, 22] (.ops [4, 5, 6] .nil) (.ops [7] .nil)))) .z) .z))) .z))))) .z))) (by kernel_rfl) (Eq.mp (by kernel_rfl) h)

def F_ref05_ReadSlots (a0 : Value) (w : World) (k : Value → World → Prop) : Prop :=
  wBox P T_A128uint8 a0 w fun t1 w =>
  wLoad P T_A128uint8 t1 w fun t9 w =>
  wBuildS P T_Lint 4 [(0, (.int .i64 4)), (1, (.int .i64 4)), (2, (.int .i64 2)), (3, (.int .i64 1))] w fun t10 w =>
  wCall P n_ref05_Opened [(.int .u8 4), t9, t10] w fun t11 w =>
  wExtract P t11 0 w fun t12 w =>
  wExtract P t11 1 w fun t13 w =>
  wJ2 (fun k1 =>
    wL3 t13 (.slice none 0 0) (.int .i64 0) w (fun _ v5 v6 v7 w k2 =>
      wBin P .add T_int v7 (.int .i64 3) w fun t15 w =>
      wLen P .len #[T_Lint64] [t12] w fun t17 w =>
      wBin P .lss T_int t15 t17 w fun t18 w =>
      wIf t18 (
        wDraw w fun w =>
        wIndexA P T_Lint64 t12 v7 w fun t24 w =>
        wLoad P T_int64 t24 w fun t25 w =>
        wBin P .add T_int v7 (.int .i64 1) w fun t28 w =>
        wIndexA P T_Lint64 t12 t28 w fun t29 w =>
        wLoad P T_int64 t29 w fun t30 w =>
        wConv P T_int64 T_uint32 t30 w fun t31 w =>
        wBin P .add T_int v7 (.int .i64 2) w fun t34 w =>
        wIndexA P T_Lint64 t12 t34 w fun t35 w =>
        wLoad P T_int64 t35 w fun t36 w =>
        wBin P .add T_int v7 (.int .i64 3) w fun t39 w =>
        wIndexA P T_Lint64 t12 t39 w fun t40 w =>
        wLoad P T_int64 t40 w fun t41 w =>
        wBuild P T_ref05_Slot [(0, t25), (1, t31), (2, t36), (3, t41)] w fun t42 w =>
        wBuildS P T_Lref05_Slot 1 [(0, t42)] w fun t43 w =>
        wBuiltin P .append #[T_Lref05_Slot, T_Lref05_Slot] [v6, t43] w fun t44 w =>
        wGrp v5 true (fun k52 =>
          wBin P .add T_int v7 (.int .i64 3) w fun t49 w =>
          wIndexA P T_Lint64 t12 t49 w fun t50 w =>
          wLoad P T_int64 t50 w fun t51 w =>
          wBin P .leq T_int64 t51 (.int .i64 2) w fun t52 w =>
          k52 t52 w) w fun _ t52 w =>
        wPick v5 t52 (.bool false) w fun t53 w =>
        wBin P .add T_int v7 (.int .i64 4) w fun t20 w =>
        k2 t53 t44 t20 w) (
        k1 v5 v6 w))) fun _ v5 v6 w =>
  wUn P .not v5 w fun t55 w =>
  wGrp t55 false (fun k59 =>
    wLen P .len #[T_Lref05_Slot] [v6] w fun t58 w =>
    wBin P .gtr T_int t58 (.int .i64 10) w fun t59 w =>
    k59 t59 w) w fun _ t59 w =>
  wPick t55 (.bool true) t59 w fun t60 w =>
  wIf t60 (
    k (.tuple #[(.slice none 0 0), (.bool false)]) w) (
    k (.tuple #[v6, (.bool true)]) w)

theorem call_ref05_ReadSlots (a0 : Value) {w : World} {k : Value → World → Prop} (h : F_ref05_ReadSlots a0 w k) : wCall P n_ref05_ReadSlots [a0] w k :=
  call_of_den mixedP Try.func77 (by kernel_rfl) (.s .z (.s .z (.s .z (.j [5, 6] [] (.s .z (.b (.l [5, 6, 7] [4] (.s .z (.s (.b (.s (.r (.ops [0, 1, 2, 3, 4, 5, 6, 7, 8, 9, 10, 11, 12, 13, 14, 15, 16, 17, 18, 19, 20, 21] (.eff 22 [] (.eff 23 [] (.ops [24] .nil))))) (.r (.ops [0, 1] (.grp 1 true 52 [47, 48, 49, 50, 51] (.ops [2, 3, 4, 5, 6, 7] .nil) (.ops [8, 9] .nil)))))) .z))))) (.s (.s (.r (.ops [0, 1, 2] (.grp 2 false 59 [57, 58] (.ops [3, 4, 5] .nil) (.ops [6] .nil)))) .z) .z))))) (by kernel_rfl) (Eq.mp (by kernel_rfl) h)

def F_ref05_WriteRecords (a0 : Value) (w : World) (k : Value → World → Prop) : Prop :=
  wAlloc P T_A128uint8 w fun t2 w =>
  wJ1 (fun k1 =>
    wL2 (.slice none 0 0) (.int .i64 0) w (fun _ v4 v5 w k2 =>
      wLen P .len #[T_Lref05_Record] [a0] w fun t9 w =>
      wBin P .lss T_int v5 t9 w fun t10 w =>
      wIf t10 (
        wIndexA P T_Lref05_Record a0 v5 w fun t15 w =>
        wLoad P T_ref05_Record t15 w fun t16 w =>
        wAlloc P T_ref05_Record w fun t6 w =>
        wStore P T_ref05_Record t6 t16 w fun w =>
        wFieldA P T_ref05_Record t6 3 w fun t17 w =>
        wLoad P T_int t17 w fun t18 w =>
        wBin P .lss T_int t18 (.int .i64 0) w fun t19 w =>
        wGrp t19 false (fun k23 =>
          wFieldA P T_ref05_Record t6 3 w fun t21 w =>
          wLoad P T_int t21 w fun t22 w =>
          wBin P .gtr T_int t22 (.int .i64 2) w fun t23 w =>
          k23 t23 w) w fun _ t23 w =>
        wPick t19 (.bool true) t23 w fun t24 w =>
        wIf t24 (
          wBuild P T_A128uint8 [] w fun t25 w =>
          wStore P T_A128uint8 t2 t25 w fun w =>
          wRes P T_A128uint8 t2 w fun r2 =>
          k (.tuple #[r2, (.bool false)]) w) (
          wFieldA P T_ref05_Record t6 0 w fun t27 w =>
          wLoad P T_uint32 t27 w fun t28 w =>
          wConv P T_uint32 T_int64 t28 w fun t29 w =>
          wBuild P T_ref05_Field [(0, (.int .i64 2)), (1, t29)] w fun t30 w =>
          wFieldA P T_ref05_Record t6 1 w fun t31 w =>
          wLoad P T_uint32 t31 w fun t32 w =>
          wConv P T_uint32 T_int64 t32 w fun t33 w =>
          wBuild P T_ref05_Field [(0, (.int .i64 4)), (1, t33)] w fun t34 w =>
          wFieldA P T_ref05_Record t6 2 w fun t35 w =>
          wLoad P T_int t35 w fun t36 w =>
          wBuild P T_ref05_Field [(0, (.int .i64 2)), (1, t36)] w fun t37 w =>
          wFieldA P T_ref05_Record t6 3 w fun t38 w =>
          wLoad P T_int t38 w fun t39 w =>
          wBuild P T_ref05_Field [(0, (.int .i64 1)), (1, t39)] w fun t40 w =>
          wBuildS P T_Lref05_Field 4 [(0, t30), (1, t34), (2, t37), (3, t40)] w fun t41 w =>
          wBuiltin P .append #[T_Lref05_Field, T_Lref05_Field] [v4, t41] w fun t42 w =>
          wBin P .add T_int v5 (.int .i64 1) w fun t12 w =>
          k2 t42 t12 w)) (
        k1 v4 w))) fun _ v4 w =>
  wLen P .len #[T_Lref05_Record] [a0] w fun t44 w =>
  wBin P .gtr T_int t44 (.int .i64 13) w fun t45 w =>
  wIf t45 (
    wBuild P T_A128uint8 [] w fun t46 w =>
    wStore P T_A128uint8 t2 t46 w fun w =>
    wRes P T_A128uint8 t2 w fun r2 =>
    k (.tuple #[r2, (.bool false)]) w) (
    wCall P n_ref05_Sealed [(.int .u8 7), v4] w fun t48 w =>
    wExtract P t48 0 w fun t49 w =>
    wExtract P t48 1 w fun t50 w =>
    wStore P T_A128uint8 t2 t49 w fun w =>
    wRes P T_A128uint8 t2 w fun r2 =>
    k (.tuple #[r2, t50]) w)

theorem call_ref05_WriteRecords (a0 : Value) {w : World} {k : Value → World → Prop} (h : F_ref05_WriteRecords a0 w k) : wCall P n_ref05_WriteRecords [a0] w k :=
  call_of_den mixedP Try.func79 (by kernel_rfl) (.s .z (.s .z (.j [4] [0, 2] (.s .z (.b (.l [4, 5] [0, 2] (.s .z (.s (.b (.s .z (.s (.s (.r (.ops [0, 1, 2, 3] (.grp 3 false 23 [21, 22] (.ops [4, 5, 6] .nil) (.ops [7] .nil)))) .z) .z))) .z))))) .z))) (by kernel_rfl) (Eq.mp (by kernel_rfl) h)

def F_ref05_ReadRecords (a0 : Value) (w : World) (k : Value → World → Prop) : Prop :=
  wBox P T_A128uint8 a0 w fun t1 w =>
  wLoad P T_A128uint8 t1 w fun t9 w =>
  wBuildS P T_Lint 4 [(0, (.int .i64 2)), (1, (.int .i64 4)), (2, (.int .i64 2)), (3, (.int .i64 1))] w fun t10 w =>
  wCall P n_ref05_Opened [(.int .u8 7), t9, t10] w fun t11 w =>
  wExtract P t11 0 w fun t12 w =>
  wExtract P t11 1 w fun t13 w =>
  wJ2 (fun k1 =>
    wL3 t13 (.slice none 0 0) (.int .i64 0) w (fun _ v5 v6 v7 w k2 =>
      wBin P .add T_int v7 (.int .i64 3) w fun t15 w =>
      wLen P .len #[T_Lint64] [t12] w fun t17 w =>
      wBin P .lss T_int t15 t17 w fun t18 w =>
      wIf t18 (
        wDraw w fun w =>
        wIndexA P T_Lint64 t12 v7 w fun t24 w =>
        wLoad P T_int64 t24 w fun t25 w =>
        wConv P T_int64 T_uint32 t25 w fun t26 w =>
        wBin P .add T_int v7 (.int .i64 1) w fun t29 w =>
        wIndexA P T_Lint64 t12 t29 w fun t30 w =>
        wLoad P T_int64 t30 w fun t31 w =>
        wConv P T_int64 T_uint32 t31 w fun t32 w =>
        wBin P .add T_int v7 (.int .i64 2) w fun t35 w =>
        wIndexA P T_Lint64 t12 t35 w fun t36 w =>
        wLoad P T_int64 t36 w fun t37 w =>
        wBin P .add T_int v7 (.int .i64 3) w fun t40 w =>
        wIndexA P T_Lint64 t12 t40 w fun t41 w =>
        wLoad P T_int64 t41 w fun t42 w =>
        wBuild P T_ref05_Record [(0, t26), (1, t32), (2, t37), (3, t42)] w fun t43 w =>
        wBuildS P T_Lref05_Record 1 [(0, t43)] w fun t44 w =>
        wBuiltin P .append #[T_Lref05_Record, T_Lref05_Record] [v6, t44] w fun t45 w =>
        wGrp v5 true (fun k53 =>
          wBin P .add T_int v7 (.int .i64 3) w fun t50 w =>
          wIndexA P T_Lint64 t12 t50 w fun t51 w =>
          wLoad P T_int64 t51 w fun t52 w =>
          wBin P .leq T_int64 t52 (.int .i64 2) w fun t53 w =>
          k53 t53 w) w fun _ t53 w =>
        wPick v5 t53 (.bool false) w fun t54 w =>
        wBin P .add T_int v7 (.int .i64 4) w fun t20 w =>
        k2 t54 t45 t20 w) (
        k1 v5 v6 w))) fun _ v5 v6 w =>
  wUn P .not v5 w fun t56 w =>
  wGrp t56 false (fun k60 =>
    wLen P .len #[T_Lref05_Record] [v6] w fun t59 w =>
    wBin P .gtr T_int t59 (.int .i64 13) w fun t60 w =>
    k60 t60 w) w fun _ t60 w =>
  wPick t56 (.bool true) t60 w fun t61 w =>
  wIf t61 (
    k (.tuple #[(.slice none 0 0), (.bool false)]) w) (
    k (.tuple #[v6, (.bool true)]) w)

theorem call_ref05_ReadRecords (a0 : Value) {w : World} {k : Value → World → Prop} (h : F_ref05_ReadRecords a0 w k) : wCall P n_ref05_ReadRecords [a0] w k :=
  call_of_den mixedP Try.func81 (by kernel_rfl) (.s .z (.s .z (.s .z (.j [5, 6] [] (.s .z (.b (.l [5, 6, 7] [4] (.s .z (.s (.b (.s (.r (.ops [0, 1, 2, 3, 4, 5, 6, 7, 8, 9, 10, 11, 12, 13, 14, 15, 16, 17, 18, 19, 20, 21, 22] (.eff 23 [] (.eff 24 [] (.ops [25] .nil))))) (.r (.ops [0, 1] (.grp 1 true 53 [48, 49, 50, 51, 52] (.ops [2, 3, 4, 5, 6, 7] .nil) (.ops [8, 9] .nil)))))) .z))))) (.s (.s (.r (.ops [0, 1, 2] (.grp 2 false 60 [58, 59] (.ops [3, 4, 5] .nil) (.ops [6] .nil)))) .z) .z))))) (by kernel_rfl) (Eq.mp (by kernel_rfl) h)

def F_ref05_WriteSummary (a0 : Value) (w : World) (k : Value → World → Prop) : Prop :=
  wBox P T_ref05_Summary a0 w fun t1 w =>
  wAlloc P T_A128uint8 w fun t2 w =>
  wDraw w fun w =>
  wFieldA P T_ref05_Summary t1 0 w fun t8 w =>
  wLoad P T_uint64 t8 w fun t9 w =>
  wFieldA P T_ref05_Summary t1 1 w fun t11 w =>
  wLoad P T_uint64 t11 w fun t12 w =>
  wCall P n_ref01_Low [t9, (.int .i64 8)] w fun t10 w =>
  wKeep P [(T_uint64, t11, t12)] w ∧ wCall P n_ref01_Low [t12, (.int .i64 8)] w fun t13 w =>
  wBuiltin P .append #[T_Luint8, T_Luint8] [t10, t13] w fun t14 w =>
  wFieldA P T_ref05_Summary t1 5 w fun t15 w =>
  wLoad P T_Lref05_Entry t15 w fun t16 w =>
  wLen P .len #[T_Lref05_Entry] [t16] w fun t17 w =>
  wBin P .gtr T_int t17 (.int .i64 8) w fun t18 w =>
  wGrp t18 false (fun k22 =>
    wFieldA P T_ref05_Summary t1 3 w fun t20 w =>
    wLoad P T_int t20 w fun t21 w =>
    wBin P .lss T_int t21 (.int .i64 0) w fun t22 w =>
    k22 t22 w) w fun _ t22 w =>
  wPick t18 (.bool true) t22 w fun t23 w =>
  wGrp t23 false (fun k27 =>
    wFieldA P T_ref05_Summary t1 3 w fun t25 w =>
    wLoad P T_int t25 w fun t26 w =>
    wBin P .gtr T_int t26 (.int .i64 65535) w fun t27 w =>
    k27 t27 w) w fun _ t27 w =>
  wPick t23 (.bool true) t27 w fun t28 w =>
  wIf t28 (
    wBuild P T_A128uint8 [] w fun t29 w =>
    wStore P T_A128uint8 t2 t29 w fun w =>
    wRes P T_A128uint8 t2 w fun r2 =>
    k (.tuple #[r2, (.bool false)]) w) (
    wJ1 (fun k2 =>
      wFieldA P T_ref05_Summary t1 2 w fun t30 w =>
      wLoad P T_bool t30 w fun t31 w =>
      wIf t31 (
        k2 (.int .u8 1) w) (
        k2 (.int .u8 0) w)) fun _ v5 w =>
    wFieldA P T_ref05_Summary t1 5 w fun t34 w =>
    wLoad P T_Lref05_Entry t34 w fun t35 w =>
    wLen P .len #[T_Lref05_Entry] [t35] w fun t36 w =>
    wConv P T_int T_uint8 t36 w fun t37 w =>
    wBuildS P T_Luint8 2 [(0, v5), (1, t37)] w fun t38 w =>
    wBuiltin P .append #[T_Luint8, T_Luint8] [t14, t38] w fun t39 w =>
    wFieldA P T_ref05_Summary t1 3 w fun t41 w =>
    wLoad P T_int t41 w fun t42 w =>
    wConv P T_int T_uint64 t42 w fun t43 w =>
    wCall P n_ref01_Low [t43, (.int .i64 2)] w fun t44 w =>
    wBuiltin P .append #[T_Luint8, T_Luint8] [t39, t44] w fun t45 w =>
    wFieldA P T_ref05_Summary t1 4 w fun t47 w =>
    wLoad P T_uint32 t47 w fun t48 w =>
    wConv P T_uint32 T_uint64 t48 w fun t49 w =>
    wCall P n_ref01_Low [t49, (.int .i64 4)] w fun t50 w =>
    wBuiltin P .append #[T_Luint8, T_Luint8] [t45, t50] w fun t51 w =>
    wJ1 (fun k2 =>
      wL2 t51 (.int .i64 0) w (fun _ v4 v6 w k3 =>
        wFieldA P T_ref05_Summary t1 5 w fun t53 w =>
        wLoad P T_Lref05_Entry t53 w fun t54 w =>
        wLen P .len #[T_Lref05_Entry] [t54] w fun t55 w =>
        wBin P .lss T_int v6 t55 w fun t56 w =>
        wIf t56 (
          wFieldA P T_ref05_Summary t1 5 w fun t59 w =>
          wLoad P T_Lref05_Entry t59 w fun t60 w =>
          wIndexA P T_Lref05_Entry t60 v6 w fun t62 w =>
          wLoad P T_ref05_Entry t62 w fun t63 w =>
          wAlloc P T_ref05_Entry w fun t7 w =>
          wStore P T_ref05_Entry t7 t63 w fun w =>
          wFieldA P T_ref05_Entry t7 0 w fun t64 w =>
          wLoad P T_int t64 w fun t65 w =>
          wBin P .lss T_int t65 (.int .i64 1) w fun t66 w =>
          wGrp t66 false (fun k70 =>
            wFieldA P T_ref05_Entry t7 0 w fun t68 w =>
            wLoad P T_int t68 w fun t69 w =>
            wBin P .gtr T_int t69 (.int .i64 6) w fun t70 w =>
            k70 t70 w) w fun _ t70 w =>
          wPick t66 (.bool true) t70 w fun t71 w =>
          wGrp t71 false (fun k75 =>
            wFieldA P T_ref05_Entry t7 1 w fun t73 w =>
            wLoad P T_uint32 t73 w fun t74 w =>
            wBin P .gtr T_uint32 t74 (.int .u32 65535) w fun t75 w =>
            k75 t75 w) w fun _ t75 w =>
          wPick t71 (.bool true) t75 w fun t76 w =>
          wGrp t76 false (fun k80 =>
            wFieldA P T_ref05_Entry t7 3 w fun t78 w =>
            wLoad P T_int t78 w fun t79 w =>
            wBin P .lss T_int t79 (.int .i64 0) w fun t80 w =>
            k80 t80 w) w fun _ t80 w =>
          wPick t76 (.bool true) t80 w fun t81 w =>
          wGrp t81 false (fun k85 =>
            wFieldA P T_ref05_Entry t7 3 w fun t83 w =>
            wLoad P T_int t83 w fun t84 w =>
            wBin P .gtr T_int t84 (.int .i64 65535) w fun t85 w =>
            k85 t85 w) w fun _ t85 w =>
          wPick t81 (.bool true) t85 w fun t86 w =>
          wIf t86 (
            wBuild P T_A128uint8 [] w fun t87 w =>
            wStore P T_A128uint8 t2 t87 w fun w =>
            wRes P T_A128uint8 t2 w fun r2 =>
            k (.tuple #[r2, (.bool false)]) w) (
            wFieldA P T_ref05_Entry t7 0 w fun t89 w =>
            wLoad P T_int t89 w fun t90 w =>
            wConv P T_int T_uint8 t90 w fun t91 w =>
            wBuildS P T_Luint8 1 [(0, t91)] w fun t92 w =>
            wBuiltin P .append #[T_Luint8, T_Luint8] [v4, t92] w fun t93 w =>
            wFieldA P T_ref05_Entry t7 1 w fun t95 w =>
            wLoad P T_uint32 t95 w fun t96 w =>
            wConv P T_uint32 T_uint64 t96 w fun t97 w =>
            wCall P n_ref01_Low [t97, (.int .i64 2)] w fun t98 w =>
            wBuiltin P .append #[T_Luint8, T_Luint8] [t93, t98] w fun t99 w =>
            wFieldA P T_ref05_Entry t7 2 w fun t101 w =>
            wLoad P T_uint32 t101 w fun t102 w =>
            wConv P T_uint32 T_uint64 t102 w fun t103 w =>
            wCall P n_ref01_Low [t103, (.int .i64 4)] w fun t104 w =>
            wBuiltin P .append #[T_Luint8, T_Luint8] [t99, t104] w fun t105 w =>
            wFieldA P T_ref05_Entry t7 3 w fun t107 w =>
            wLoad P T_int t107 w fun t108 w =>
            wConv P T_int T_uint64 t108 w fun t109 w =>
            wCall P n_ref01_Low [t109, (.int .i64 2)] w fun t110 w =>
            wBuiltin P .append #[T_Luint8, T_Luint8] [t105, t110] w fun t111 w =>
            wBin P .add T_int v6 (.int .i64 1) w fun t58 w =>
            k3 t111 t58 w)) (
          k2 v4 w))) fun _ v4 w =>
    wCall P n_ref02_Make [(.int .u8 3), v4] w fun t113 w =>
    wExtract P t113 0 w fun t114 w =>
    wExtract P t113 1 w fun t115 w =>
    wStore P T_A128uint8 t2 t114 w fun w =>
    wRes P T_A128uint8 t2 w fun r2 =>
    k (.tuple #[r2, t115]) w)

theorem call_ref05_WriteSummary (a0 : Value) {w : World} {k : Value → World → Prop} (h : F_ref05_WriteSummary a0 w k) : wCall P n_ref05_WriteSummary [a0] w k :=
  call_of_den mixedP Try.func84 (by kernel_rfl) (.s .z (.s (.r (.ops [0, 1, 3, 4] (.eff 2 [4] (.eff 5 [] (.eff 6 [] (.ops [7] .nil)))))) (.s (.s (.r (.ops [0, 1, 2, 3, 4] (.grp 4 false 22 [20, 21] (.ops [5, 6, 7] .nil) (.ops [8, 9] (.grp 9 false 27 [25, 26] (.ops [10, 11, 12] .nil) (.ops [13] .nil)))))) .z) (.s .z (.j [5] [1, 2, 4] .z (.s .z (.s .z (.s .z (.j [4] [2] (.s .z (.b (.l [4, 6] [1, 2] (.s .z (.s (.b (.s .z (.s (.s (.r (.ops [0, 1, 2, 3] (.grp 3 false 70 [68, 69] (.ops [4, 5, 6] .nil) (.ops [7, 8] (.grp 8 false 75 [73, 74] (.ops [9, 10, 11] .nil) (.ops [12, 13] (.grp 13 false 80 [78, 79] (.ops [14, 15, 16] .nil) (.ops [17, 18] (.grp 18 false 85 [83, 84] (.ops [19, 20, 21] .nil) (.ops [22] .nil)))))))))) .z) .z))) .z))))) .z))))))))) (by kernel_rfl) (Eq.mp (by kernel_rfl) h)

def F_ref05_ReadSummary (a0 : Value) (w : World) (k : Value → World → Prop) : Prop :=
  wBox P T_A128uint8 a0 w fun t1 w =>
  wAlloc P T_ref05_Summary w fun t2 w =>
  wLoad P T_A128uint8 t1 w fun t11 w =>
  wCall P n_ref02_Open [t11] w fun t12 w =>
  wExtract P t12 0 w fun t13 w =>
  wExtract P t12 1 w fun t14 w =>
  wExtract P t12 2 w fun t15 w =>
  wUn P .not t15 w fun t17 w =>
  wGrp t17 false (fun k20 =>
    wBin P .neq T_uint8 t13 (.int .u8 3) w fun t20 w =>
    k20 t20 w) w fun _ t20 w =>
  wPick t17 (.bool true) t20 w fun t21 w =>
  wGrp t21 false (fun k25 =>
    wLen P .len #[T_Luint8] [t14] w fun t24 w =>
    wBin P .lss T_int t24 (.int .i64 24) w fun t25 w =>
    k25 t25 w) w fun _ t25 w =>
  wPick t21 (.bool true) t25 w fun t26 w =>
  wGrp t26 false (fun k31 =>
    wIndexA P T_Luint8 t14 (.int .i64 16) w fun t29 w =>
    wLoad P T_uint8 t29 w fun t30 w =>
    wBin P .gtr T_uint8 t30 (.int .u8 1) w fun t31 w =>
    k31 t31 w) w fun _ t31 w =>
  wPick t26 (.bool true) t31 w fun t32 w =>
  wGrp t32 false (fun k42 =>
    wLen P .len #[T_Luint8] [t14] w fun t35 w =>
    wIndexA P T_Luint8 t14 (.int .i64 17) w fun t37 w =>
    wLoad P T_uint8 t37 w fun t38 w =>
    wConv P T_uint8 T_int t38 w fun t39 w =>
    wBin P .mul T_int (.int .i64 9) t39 w fun t40 w =>
    wBin P .add T_int (.int .i64 24) t40 w fun t41 w =>
    wBin P .neq T_int t35 t41 w fun t42 w =>
    k42 t42 w) w fun _ t42 w =>
  wPick t32 (.bool true) t42 w fun t43 w =>
  wIf t43 (
    wBuild P T_ref05_Summary [] w fun t44 w =>
    wStore P T_ref05_Summary t2 t44 w fun w =>
    wRes P T_ref05_Summary t2 w fun r2 =>
    k (.tuple #[r2, (.bool false)]) w) (
    wJ1 (fun k2 =>
      wDraw w fun w =>
      wSlice P T_Luint8 t14 none (some (.int .i64 8)) none w fun t46 w =>
      wSlice P T_Luint8 t14 (some (.int .i64 8)) (some (.int .i64 16)) none w fun t49 w =>
      wIndexA P T_Luint8 t14 (.int .i64 16) w fun t52 w =>
      wLoad P T_uint8 t52 w fun t53 w =>
      wBin P .eql T_uint8 t53 (.int .u8 1) w fun t54 w =>
      wSlice P T_Luint8 t14 (some (.int .i64 18)) (some (.int .i64 20)) none w fun t56 w =>
      wSlice P T_Luint8 t14 (some (.int .i64 20)) (some (.int .i64 24)) none w fun t60 w =>
      (wCall P n_ref01_Num [t46] w fun t47 w =>
        wKeep P [(T_uint8, t52, t53)] w ∧ (wCall P n_ref01_Num [t49] w fun t50 w =>
          wKeep P [(T_uint8, t52, t53)] w ∧ (wCall P n_ref01_Num [t56] w fun t57 w =>
            wKeep P [(T_uint8, t52, t53)] w ∧ wConv P T_uint64 T_int t57 w fun t58 w =>
            (wCall P n_ref01_Num [t60] w fun t61 w =>
              wKeep P [(T_uint8, t52, t53)] w ∧ wConv P T_uint64 T_uint32 t61 w fun t62 w =>
              wBuild P T_ref05_Summary [(0, t47), (1, t50), (2, t54), (3, t58), (4, t62)] w fun t63 w =>
              wAlloc P T_ref05_Summary w fun t7 w =>
              wKeep P [(T_uint8, t52, t53)] w ∧ wStore P T_ref05_Summary t7 t63 w fun w =>
              k2 t7 w) ∧ (wAlloc P T_ref05_Summary w fun t7 w =>
              wKeep P [(T_uint8, t52, t53)] w ∧ wCall P n_ref01_Num [t60] w fun t61 w =>
              wKeep P [(T_uint8, t52, t53)] w ∧ wConv P T_uint64 T_uint32 t61 w fun t62 w =>
              wBuild P T_ref05_Summary [(0, t47), (1, t50), (2, t54), (3, t58), (4, t62)] w fun t63 w =>
              wStore P T_ref05_Summary t7 t63 w fun w =>
              k2 t7 w)) ∧ (wAlloc P T_ref05_Summary w fun t7 w =>
            wKeep P [(T_uint8, t52, t53)] w ∧ wCall P n_ref01_Num [t56] w fun t57 w =>
            wKeep P [(T_uint8, t52, t53)] w ∧ wConv P T_uint64 T_int t57 w fun t58 w =>
            wCall P n_ref01_Num [t60] w fun t61 w =>
            wKeep P [(T_uint8, t52, t53)] w ∧ wConv P T_uint64 T_uint32 t61 w fun t62 w =>
            wBuild P T_ref05_Summary [(0, t47), (1, t50), (2, t54), (3, t58), (4, t62)] w fun t63 w =>
            wStore P T_ref05_Summary t7 t63 w fun w =>
            k2 t7 w)) ∧ (wAlloc P T_ref05_Summary w fun t7 w =>
          wKeep P [(T_uint8, t52, t53)] w ∧ wCall P n_ref01_Num [t49] w fun t50 w =>
          wKeep P [(T_uint8, t52, t53)] w ∧ wCall P n_ref01_Num [t56] w fun t57 w =>
          wKeep P [(T_uint8, t52, t53)] w ∧ wConv P T_uint64 T_int t57 w fun t58 w =>
          wCall P n_ref01_Num [t60] w fun t61 w =>
          wKeep P [(T_uint8, t52, t53)] w ∧ wConv P T_uint64 T_uint32 t61 w fun t62 w =>
          wBuild P T_ref05_Summary [(0, t47), (1, t50), (2, t54), (3, t58), (4, t62)] w fun t63 w =>
          wStore P T_ref05_Summary t7 t63 w fun w =>
          k2 t7 w)) ∧ (wAlloc P T_ref05_Summary w fun t7 w =>
        wKeep P [(T_uint8, t52, t53)] w ∧ wCall P n_ref01_Num [t46] w fun t47 w =>
        wKeep P [(T_uint8, t52, t53)] w ∧ wCall P n_ref01_Num [t49] w fun t50 w =>
        wKeep P [(T_uint8, t52, t53)] w ∧ wCall P n_ref01_Num [t56] w fun t57 w =>
        wKeep P [(T_uint8, t52, t53)] w ∧ wConv P T_uint64 T_int t57 w fun t58 w =>
        wCall P n_ref01_Num [t60] w fun t61 w =>
        wKeep P [(T_uint8, t52, t53)] w ∧ wConv P T_uint64 T_uint32 t61 w fun t62 w =>
        wBuild P T_ref05_Summary [(0, t47), (1, t50), (2, t54), (3, t58), (4, t62)] w fun t63 w =>
        wStore P T_ref05_Summary t7 t63 w fun w =>
        k2 t7 w)) fun _ v7 w =>
    wJ0 (fun k2 =>
      wL1 (.int .i64 24) w (fun _ v8 w k3 =>
        wLen P .len #[T_Luint8] [t14] w fun t66 w =>
        wBin P .lss T_int v8 t66 w fun t67 w =>
        wIf t67 (
          wJ1 (fun k5 =>
            wDraw w fun w =>
            wIndexA P T_Luint8 t14 v8 w fun t72 w =>
            wLoad P T_uint8 t72 w fun t73 w =>
            wConv P T_uint8 T_int t73 w fun t74 w =>
            wBin P .add T_int v8 (.int .i64 1) w fun t77 w =>
            wBin P .add T_int v8 (.int .i64 3) w fun t79 w =>
            wSlice P T_Luint8 t14 (some t77) (some t79) none w fun t80 w =>
            wBin P .add T_int v8 (.int .i64 3) w fun t85 w =>
            wBin P .add T_int v8 (.int .i64 7) w fun t87 w =>
            wSlice P T_Luint8 t14 (some t85) (some t87) none w fun t88 w =>
            wBin P .add T_int v8 (.int .i64 7) w fun t93 w =>
            wBin P .add T_int v8 (.int .i64 9) w fun t95 w =>
            wSlice P T_Luint8 t14 (some t93) (some t95) none w fun t96 w =>
            (wCall P n_ref01_Num [t80] w fun t81 w =>
              wKeep P [(T_uint8, t72, t73)] w ∧ wConv P T_uint64 T_uint32 t81 w fun t82 w =>
              (wCall P n_ref01_Num [t88] w fun t89 w =>
                wKeep P [(T_uint8, t72, t73)] w ∧ wConv P T_uint64 T_uint32 t89 w fun t90 w =>
                (wCall P n_ref01_Num [t96] w fun t97 w =>
                  wKeep P [(T_uint8, t72, t73)] w ∧ wConv P T_uint64 T_int t97 w fun t98 w =>
                  wBuild P T_ref05_Entry [(0, t74), (1, t82), (2, t90), (3, t98)] w fun t99 w =>
                  wAlloc P T_ref05_Entry w fun t9 w =>
                  wKeep P [(T_uint8, t72, t73)] w ∧ wStore P T_ref05_Entry t9 t99 w fun w =>
                  k5 t9 w) ∧ (wAlloc P T_ref05_Entry w fun t9 w =>
                  wKeep P [(T_uint8, t72, t73)] w ∧ wCall P n_ref01_Num [t96] w fun t97 w =>
                  wKeep P [(T_uint8, t72, t73)] w ∧ wConv P T_uint64 T_int t97 w fun t98 w =>
                  wBuild P T_ref05_Entry [(0, t74), (1, t82), (2, t90), (3, t98)] w fun t99 w =>
                  wStore P T_ref05_Entry t9 t99 w fun w =>
                  k5 t9 w)) ∧ (wAlloc P T_ref05_Entry w fun t9 w =>
                wKeep P [(T_uint8, t72, t73)] w ∧ wCall P n_ref01_Num [t88] w fun t89 w =>
                wKeep P [(T_uint8, t72, t73)] w ∧ wConv P T_uint64 T_uint32 t89 w fun t90 w =>
                wCall P n_ref01_Num [t96] w fun t97 w =>
                wKeep P [(T_uint8, t72, t73)] w ∧ wConv P T_uint64 T_int t97 w fun t98 w =>
                wBuild P T_ref05_Entry [(0, t74), (1, t82), (2, t90), (3, t98)] w fun t99 w =>
                wStore P T_ref05_Entry t9 t99 w fun w =>
                k5 t9 w)) ∧ (wAlloc P T_ref05_Entry w fun t9 w =>
              wKeep P [(T_uint8, t72, t73)] w ∧ wCall P n_ref01_Num [t80] w fun t81 w =>
              wKeep P [(T_uint8, t72, t73)] w ∧ wConv P T_uint64 T_uint32 t81 w fun t82 w =>
              wCall P n_ref01_Num [t88] w fun t89 w =>
              wKeep P [(T_uint8, t72, t73)] w ∧ wConv P T_uint64 T_uint32 t89 w fun t90 w =>
              wCall P n_ref01_Num [t96] w fun t97 w =>
              wKeep P [(T_uint8, t72, t73)] w ∧ wConv P T_uint64 T_int t97 w fun t98 w =>
              wBuild P T_ref05_Entry [(0, t74), (1, t82), (2, t90), (3, t98)] w fun t99 w =>
              wStore P T_ref05_Entry t9 t99 w fun w =>
              k5 t9 w)) fun _ v9 w =>
          wFieldA P T_ref05_Entry v9 0 w fun t100 w =>
          wLoad P T_int t100 w fun t101 w =>
          wBin P .lss T_int t101 (.int .i64 1) w fun t102 w =>
          wGrp t102 false (fun k106 =>
            wFieldA P T_ref05_Entry v9 0 w fun t104 w =>
            wLoad P T_int t104 w fun t105 w =>
            wBin P .gtr T_int t105 (.int .i64 6) w fun t106 w =>
            k106 t106 w) w fun _ t106 w =>
          wPick t102 (.bool true) t106 w fun t107 w =>
          wIf t107 (
            wBuild P T_ref05_Summary [] w fun t108 w =>
            wStore P T_ref05_Summary t2 t108 w fun w =>
            wRes P T_ref05_Summary t2 w fun r2 =>
            k (.tuple #[r2, (.bool false)]) w) (
            wFieldA P T_ref05_Summary v7 5 w fun t109 w =>
            wLoad P T_Lref05_Entry t109 w fun t110 w =>
            wLoad P T_ref05_Entry v9 w fun t111 w =>
            wBuildS P T_Lref05_Entry 1 [(0, t111)] w fun t112 w =>
            wBuiltin P .append #[T_Lref05_Entry, T_Lref05_Entry] [t110, t112] w fun t113 w =>
            wFieldA P T_ref05_Summary v7 5 w fun t114 w =>
            wStore P T_Lref05_Entry t114 t113 w fun w =>
            wBin P .add T_int v8 (.int .i64 9) w fun t69 w =>
            k3 t69 w)) (
          k2 w))) fun _ w =>
    wDraw w fun w =>
    wLoad P T_ref05_Summary v7 w fun t115 w =>
    wFieldA P T_ref05_Summary v7 5 w fun t116 w =>
    wLoad P T_Lref05_Entry t116 w fun t117 w =>
    wLen P .len #[T_Lref05_Entry] [t117] w fun t118 w =>
    wBin P .leq T_int t118 (.int .i64 8) w fun t119 w =>
    wStore P T_ref05_Summary t2 t115 w fun w =>
    wKeep P [(T_Lref05_Entry, t116, t117)] w ∧ wRes P T_ref05_Summary t2 w fun r2 =>
    k (.tuple #[r2, t119]) w)

theorem call_ref05_ReadSummary (a0 : Value) {w : World} {k : Value → World → Prop} (h : F_ref05_ReadSummary a0 w k) : wCall P n_ref05_ReadSummary [a0] w k :=
  call_of_den mixedP Try.func88 (by kernel_rfl) (.s .z (.s .z (.s (.s (.r (.ops [0, 1, 2] (.grp 2 false 20 [19] (.ops [3, 4] .nil) (.ops [5, 6] (.grp 6 false 25 [23, 24] (.ops [7, 8, 9] .nil) (.ops [10, 11] (.grp 11 false 31 [28, 29, 30] (.ops [12, 13, 14, 15] .nil) (.ops [16, 17] (.grp 17 false 42 [34, 35, 36, 37, 38, 39, 40, 41] (.ops [18, 19, 20, 21, 22, 23, 24, 25, 26] .nil) (.ops [27] .nil)))))))))) .z) (.j [7] [2, 5] (.r (.ops [0, 1, 3, 4, 6, 7, 8, 9, 10, 11, 14, 15] (.alt (.eff 2 [8] (.alt (.eff 5 [8] (.alt (.eff 12 [8] (.ops [13] (.alt (.eff 16 [8] (.ops [17, 18] (.eff 19 [8] (.eff 20 [] .nil)))) (.eff 19 [8] (.eff 16 [8] (.ops [17, 18] (.eff 20 [] .nil))))))) (.eff 19 [8] (.eff 12 [8] (.ops [13] (.eff 16 [8] (.ops [17, 18] (.eff 20 [] .nil)))))))) (.eff 19 [8] (.eff 5 [8] (.eff 12 [8] (.ops [13] (.eff 16 [8] (.ops [17, 18] (.eff 20 [] .nil))))))))) (.eff 19 [8] (.eff 2 [8] (.eff 5 [8] (.eff 12 [8] (.ops [13] (.eff 16 [8] (.ops [17, 18] (.eff 20 [] .nil))))))))))) (.j [] [2, 7] (.s .z (.b (.l [8] [2, 5, 7] (.s .z (.s (.b (.j [9] [2, 5, 7, 8] (.r (.ops [0, 1, 2, 3, 4, 5, 6, 7, 8, 9, 10, 13, 14, 15, 16, 17, 18, 21, 22, 23, 24, 25, 26] (.alt (.eff 11 [3] (.ops [12] (.alt (.eff 19 [3] (.ops [20] (.alt (.eff 27 [3] (.ops [28, 29] (.eff 30 [3] (.eff 31 [] .nil)))) (.eff 30 [3] (.eff 27 [3] (.ops [28, 29] (.eff 31 [] .nil))))))) (.eff 30 [3] (.eff 19 [3] (.ops [20] (.eff 27 [3] (.ops [28, 29] (.eff 31 [] .nil))))))))) (.eff 30 [3] (.eff 11 [3] (.ops [12] (.eff 19 [3] (.ops [20] (.eff 27 [3] (.ops [28, 29] (.eff 31 [] .nil))))))))))) (.s (.s (.r (.ops [0, 1, 2, 3] (.grp 3 false 106 [104, 105] (.ops [4, 5, 6] .nil) (.ops [7] .nil)))) .z) .z))) .z))))) (.s (.r (.ops [0, 1, 2, 3, 4] (.eff 5 [2] (.ops [6] .nil)))) .z)))))) (by kernel_rfl) (Eq.mp (by kernel_rfl) h)

def F_ref05_Sealed (a0 a1 : Value) (w : World) (k : Value → World → Prop) : Prop :=
  wAlloc P T_A128uint8 w fun t4 w =>
  wJ1 (fun k1 =>
    wL2 (.slice none 0 0) (.int .i64 0) w (fun _ v6 v7 w k2 =>
      wLen P .len #[T_Lref05_Field] [a1] w fun t10 w =>
      wBin P .lss T_int v7 t10 w fun t11 w =>
      wIf t11 (
        wDraw w fun w =>
        wIndexA P T_Lref05_Field a1 v7 w fun t16 w =>
        wFieldA P T_ref05_Field t16 1 w fun t17 w =>
        wLoad P T_int64 t17 w fun t18 w =>
        wBin P .lss T_int64 t18 (.int .i64 0) w fun t19 w =>
        wGrp t19 false (fun k33 =>
          wIndexA P T_Lref05_Field a1 v7 w fun t23 w =>
          wFieldA P T_ref05_Field t23 0 w fun t24 w =>
          wLoad P T_int t24 w fun t25 w =>
          wIndexA P T_Lref05_Field a1 v7 w fun t28 w =>
          wFieldA P T_ref05_Field t28 1 w fun t29 w =>
          wLoad P T_int64 t29 w fun t30 w =>
          wConv P T_int64 T_uint64 t30 w fun t31 w =>
          wCall P n_ref01_Has [t25, t31] w fun t32 w =>
          wUn P .not t32 w fun t33 w =>
          k33 t33 w) w fun _ t33 w =>
        wPick t19 (.bool true) t33 w fun t34 w =>
        wIf t34 (
          wBuild P T_A128uint8 [] w fun t35 w =>
          wStore P T_A128uint8 t4 t35 w fun w =>
          wRes P T_A128uint8 t4 w fun r4 =>
          k (.tuple #[r4, (.bool false)]) w) (
          wDraw w fun w =>
          wIndexA P T_Lref05_Field a1 v7 w fun t39 w =>
          wFieldA P T_ref05_Field t39 1 w fun t40 w =>
          wLoad P T_int64 t40 w fun t41 w =>
          wConv P T_int64 T_uint64 t41 w fun t42 w =>
          wIndexA P T_Lref05_Field a1 v7 w fun t45 w =>
          wFieldA P T_ref05_Field t45 0 w fun t46 w =>
          wLoad P T_int t46 w fun t47 w =>
          wCall P n_ref01_Low [t42, t47] w fun t48 w =>
          wBuiltin P .append #[T_Luint8, T_Luint8] [v6, t48] w fun t49 w =>
          wBin P .add T_int v7 (.int .i64 1) w fun t13 w =>
          k2 t49 t13 w)) (
        k1 v6 w))) fun _ v6 w =>
  wCall P n_ref02_Make [a0, v6] w fun t52 w =>
  wExtract P t52 0 w fun t53 w =>
  wExtract P t52 1 w fun t54 w =>
  wStore P T_A128uint8 t4 t53 w fun w =>
  wRes P T_A128uint8 t4 w fun r4 =>
  k (.tuple #[r4, t54]) w

theorem call_ref05_Sealed (a0 a1 : Value) {w : World} {k : Value → World → Prop} (h : F_ref05_Sealed a0 a1 w k) : wCall P n_ref05_Sealed [a0, a1] w k :=
  call_of_den mixedP Try.func165 (by kernel_rfl) (.s .z (.s .z (.j [6] [0, 4] (.s .z (.b (.l [6, 7] [0, 1, 4] (.s .z (.s (.b (.s (.s (.r (.ops [0, 1, 2, 3, 4, 5, 6] (.grp 6 false 33 [21, 22, 23, 24, 25, 26, 27, 28, 29, 30, 31, 32] (.ops [7, 8, 9, 10, 11, 12, 13, 14, 15, 16, 17] (.eff 18 [] (.ops [19] .nil))) (.ops [20] .nil)))) .z) (.r (.ops [0, 1, 2, 3, 4, 5, 6, 7, 8, 9, 10, 11] (.eff 12 [] (.eff 13 [] (.ops [14] .nil))))))) .z))))) .z))) (by kernel_rfl) (Eq.mp (by kernel_rfl) h)

def F_ref05_InodeFields (a0 : Value) (w : World) (k : Value → World → Prop) : Prop :=
  wBox P T_ref05_Inode a0 w fun t1 w =>
  wFieldA P T_ref05_Inode t1 0 w fun t5 w =>
  wLoad P T_uint32 t5 w fun t6 w =>
  wConv P T_uint32 T_int64 t6 w fun t7 w =>
  wBuild P T_ref05_Field [(0, (.int .i64 2)), (1, t7)] w fun t8 w =>
  wFieldA P T_ref05_Inode t1 1 w fun t9 w =>
  wLoad P T_uint32 t9 w fun t10 w =>
  wConv P T_uint32 T_int64 t10 w fun t11 w =>
  wBuild P T_ref05_Field [(0, (.int .i64 4)), (1, t11)] w fun t12 w =>
  wFieldA P T_ref05_Inode t1 2 w fun t13 w =>
  wLoad P T_int t13 w fun t14 w =>
  wBuild P T_ref05_Field [(0, (.int .i64 1)), (1, t14)] w fun t15 w =>
  wFieldA P T_ref05_Inode t1 3 w fun t16 w =>
  wLoad P T_int t16 w fun t17 w =>
  wBuild P T_ref05_Field [(0, (.int .i64 4)), (1, t17)] w fun t18 w =>
  wFieldA P T_ref05_Inode t1 4 w fun t19 w =>
  wLoad P T_uint32 t19 w fun t20 w =>
  wConv P T_uint32 T_int64 t20 w fun t21 w =>
  wBuild P T_ref05_Field [(0, (.int .i64 4)), (1, t21)] w fun t22 w =>
  wBuildS P T_Lref05_Field 5 [(0, t8), (1, t12), (2, t15), (3, t18), (4, t22)] w fun t23 w =>
  wJ1 (fun k1 =>
    wL2 t23 (.int .i64 0) w (fun _ v3 v4 w k2 =>
      wBin P .lss T_int v4 (.int .i64 8) w fun t25 w =>
      wIf t25 (
        wFieldA P T_ref05_Inode t1 5 w fun t30 w =>
        wIndexA P T_A8int t30 v4 w fun t31 w =>
        wLoad P T_int t31 w fun t32 w =>
        wBuild P T_ref05_Field [(0, (.int .i64 4)), (1, t32)] w fun t33 w =>
        wBuildS P T_Lref05_Field 1 [(0, t33)] w fun t34 w =>
        wBuiltin P .append #[T_Lref05_Field, T_Lref05_Field] [v3, t34] w fun t35 w =>
        wBin P .add T_int v4 (.int .i64 1) w fun t27 w =>
        k2 t35 t27 w) (
        k1 v3 w))) fun _ v3 w =>
  wFieldA P T_ref05_Inode t1 6 w fun t37 w =>
  wLoad P T_int t37 w fun t38 w =>
  wBuild P T_ref05_Field [(0, (.int .i64 4)), (1, t38)] w fun t39 w =>
  wFieldA P T_ref05_Inode t1 7 w fun t40 w =>
  wLoad P T_int t40 w fun t41 w =>
  wBuild P T_ref05_Field [(0, (.int .i64 4)), (1, t41)] w fun t42 w =>
  wBuildS P T_Lref05_Field 2 [(0, t39), (1, t42)] w fun t43 w =>
  wBuiltin P .append #[T_Lref05_Field, T_Lref05_Field] [v3, t43] w fun t44 w =>
  k t44 w

theorem call_ref05_InodeFields (a0 : Value) {w : World} {k : Value → World → Prop} (h : F_ref05_InodeFields a0 w k) : wCall P n_ref05_InodeFields [a0] w k :=
  call_of_den mixedP Try.func166 (by kernel_rfl) (.s .z (.s .z (.j [3] [1] (.s .z (.b (.l [3, 4] [1] .z))) .z))) (by kernel_rfl) (Eq.mp (by kernel_rfl) h)

def F_ref05_Opened (a0 a1 a2 : Value) (w : World) (k : Value → World → Prop) : Prop :=
  wBox P T_A128uint8 a1 w fun t4 w =>
  wLoad P T_A128uint8 t4 w fun t15 w =>
  wCall P n_ref02_Open [t15] w fun t16 w =>
  wExtract P t16 0 w fun t17 w =>
  wExtract P t16 1 w fun t18 w =>
  wExtract P t16 2 w fun t19 w =>
  wUn P .not t19 w fun t21 w =>
  wGrp t21 false (fun k25 =>
    wBin P .neq T_uint8 t17 a0 w fun t25 w =>
    k25 t25 w) w fun _ t25 w =>
  wPick t21 (.bool true) t25 w fun t26 w =>
  wIf t26 (
    k (.tuple #[(.slice none 0 0), (.bool false)]) w) (
    wL2 (.slice none 0 0) (.int .i64 0) w (fun _ v11 v12 w k2 =>
      wLen P .len #[T_Luint8] [t18] w fun t29 w =>
      wBin P .lss T_int v12 t29 w fun t30 w =>
      wIf t30 (
        wL3 v11 v12 (.int .i64 0) w (fun _ v11 v12 v13 w k4 =>
          wLen P .len #[T_Lint] [a2] w fun t33 w =>
          wBin P .lss T_int v13 t33 w fun t34 w =>
          wIf t34 (
            wIndexA P T_Lint a2 v13 w fun t40 w =>
            wLoad P T_int t40 w fun t41 w =>
            wBin P .add T_int v12 t41 w fun t42 w =>
            wLen P .len #[T_Luint8] [t18] w fun t44 w =>
            wBin P .gtr T_int t42 t44 w fun t45 w =>
            wIf t45 (
              k (.tuple #[(.slice none 0 0), (.bool false)]) w) (
              wIndexA P T_Lint a2 v13 w fun t52 w =>
              wLoad P T_int t52 w fun t53 w =>
              wBin P .add T_int v12 t53 w fun t54 w =>
              wSlice P T_Luint8 t18 (some v12) (some t54) none w fun t55 w =>
              wCall P n_ref01_Num [t55] w fun t56 w =>
              wConv P T_uint64 T_int64 t56 w fun t57 w =>
              wBuildS P T_Lint64 1 [(0, t57)] w fun t58 w =>
              wBuiltin P .append #[T_Lint64, T_Lint64] [v11, t58] w fun t59 w =>
              wIndexA P T_Lint a2 v13 w fun t63 w =>
              wLoad P T_int t63 w fun t64 w =>
              wBin P .add T_int v12 t64 w fun t65 w =>
              wBin P .add T_int v13 (.int .i64 1) w fun t36 w =>
              k4 t59 t65 t36 w)) (
            k2 v11 v12 w))) (
        k (.tuple #[v11, (.bool true)]) w)))

theorem call_ref05_Opened (a0 a1 a2 : Value) {w : World} {k : Value → World → Prop} (h : F_ref05_Opened a0 a1 a2 w k) : wCall P n_ref05_Opened [a0, a1, a2] w k :=
  call_of_den mixedP Try.func169 (by kernel_rfl) (.s .z (.s .z (.s (.s (.r (.ops [0, 1, 2] (.grp 2 false 25 [23, 24] (.ops [3, 4, 5] .nil) (.ops [6] .nil)))) .z) (.s .z (.s .z (.s (.b (.l [11, 12] [2, 9] (.s .z (.b (.s .z (.b (.l [11, 12, 13] [2, 9] .z))))))) .z)))))) (by kernel_rfl) (Eq.mp (by kernel_rfl) h)

end Go.Dn
end
section
/-! The texts' heads at values of known form. -/
set_option linter.unusedVariables false
set_option linter.unusedSimpArgs false
namespace Go.Dn
open Go
attribute [local semireducible] wCall wCallV wInvoke callW wNext wLoad wStore wBox wAlloc wBuild wBuildS wBin wBinF wUn wConv wIface wFunc wMakeMap wMake wSlice wFieldA wField wIndexA wIndex wLookup wMapSet wExtract wLen wBuiltin wRange wNextI wEntry wNil wOther wKeep

/-! Control. -/
theorem wIf_i {A B : Prop} (b : Bool) (hA : b = true → A) (hB : b = false → B) : wIf (.bool b) A B := by
  cases b
  · exact hB rfl
  · exact hA rfl
theorem wIf_d {A B : Prop} {c : Prop} [Decidable c] (hA : c → A) (hB : ¬ c → B) : wIf (.bool (decide c)) A B := by
  by_cases h : c
  · rw [decide_eq_true h]; exact hA h
  · rw [decide_eq_false h]; exact hB h
theorem wIf_t {A B : Prop} : wIf (.bool true) A B = A := rfl
theorem wIf_f {A B : Prop} : wIf (.bool false) A B = B := rfl
theorem wIf_dt {A B : Prop} {c : Prop} [Decidable c] (h : c) : wIf (.bool (decide c)) A B = A := by rw [decide_eq_true h]; rfl
theorem wIf_df {A B : Prop} {c : Prop} [Decidable c] (h : ¬ c) : wIf (.bool (decide c)) A B = B := by rw [decide_eq_false h]; rfl
theorem wPick_b (b : Bool) (x y : Value) (w : World) (k : Value → World → Prop) : wPick (.bool b) x y w k = k (if b = true then x else y) w := rfl
/-- A guarded part that comes to a truth. -/
theorem wGrp_and {b r : Bool} {body : (Value → World → Prop) → Prop} {w : World} {k : Env → Value → World → Prop} (h : b = true → ∀ k', k' (.bool r) w → body k')
    (hk : ∀ J v, (b = true → v = .bool r) → k J v w) : wGrp (.bool b) true body w k := by
  unfold wGrp
  cases b
  · simp only [Bool.false_eq_true, if_false]
    exact fun J => hk J undef (fun h => by cases h)
  · simp only [if_true]
    exact h rfl _ fun J => hk J (.bool r) fun _ => rfl
theorem wGrp_or {b r : Bool} {body : (Value → World → Prop) → Prop} {w : World} {k : Env → Value → World → Prop} (h : b = false → ∀ k', k' (.bool r) w → body k')
    (hk : ∀ J v, (b = false → v = .bool r) → k J v w) : wGrp (.bool b) false body w k := by
  unfold wGrp
  cases b
  · simp only [if_true]
    exact h rfl _ fun J => hk J (.bool r) fun _ => rfl
  · simp only [Bool.true_eq_false, if_false]
    exact fun J => hk J undef (fun h => by cases h)
/-- 'a && b', where b only looks. -/
theorem and_i {b r : Bool} {body : (Value → World → Prop) → Prop} {w : World} {k : Value → World → Prop} (h : b = true → ∀ k', k' (.bool r) w → body k')
    (hk : k (.bool (b && r)) w) : wGrp (.bool b) true body w fun _ v w => wPick (.bool b) v (.bool false) w k := by
  refine wGrp_and h fun J v hv => ?_
  cases b
  · exact hk
  · rw [hv rfl]; exact hk
theorem or_i {b r : Bool} {body : (Value → World → Prop) → Prop} {w : World} {k : Value → World → Prop} (h : b = false → ∀ k', k' (.bool r) w → body k')
    (hk : k (.bool (b || r)) w) : wGrp (.bool b) false body w fun _ v w => wPick (.bool b) (.bool true) v w k := by
  refine wGrp_or h fun J v hv => ?_
  cases b
  · rw [hv rfl]; exact hk
  · exact hk
theorem and_p (b r : Bool) (w : World) (K : Value → World → Prop) : (wGrp (.bool b) true (fun k' => k' (.bool r) w) w fun _ v w' => wPick (.bool b) v (.bool false) w' K) = K (.bool (b && r)) w := by
  apply propext
  cases b
  · exact ⟨fun h => h (fun _ => undef), fun h _ => h⟩
  · exact ⟨fun h => h (fun _ => undef), fun h _ => h⟩
theorem or_p (b r : Bool) (w : World) (K : Value → World → Prop) : (wGrp (.bool b) false (fun k' => k' (.bool r) w) w fun _ v w' => wPick (.bool b) (.bool true) v w' K) = K (.bool (b || r)) w := by
  apply propext
  cases b
  · exact ⟨fun h => h (fun _ => undef), fun h _ => h⟩
  · exact ⟨fun h => h (fun _ => undef), fun h _ => h⟩
theorem loop_up {w0 : World} {x0 : Value} {step : Env → Value → World → (Value → World → Prop) → Prop} (N : Nat) (I : Nat → Value → World → Prop) (h0 : I 0 x0 w0)
    (hs : ∀ i J x w k, i ≤ N → I i x w → (∀ x' w', i < N → I (i + 1) x' w' → k x' w') → step J x w k) : wL1 x0 w0 step := by
  refine ⟨fun n x w => ∃ i, i ≤ N ∧ n = N - i ∧ I i x w, ⟨N, 0, Nat.zero_le _, rfl, h0⟩, ?_⟩
  rintro n J x w ⟨i, hi, rfl, hI⟩
  exact hs i J x w _ hi hI fun x' w' hlt hI' => ⟨N - (i + 1), by omega, i + 1, by omega, rfl, hI'⟩
theorem loop_up2 {w0 : World} {x0 y0 : Value} {step : Env → Value → Value → World → (Value → Value → World → Prop) → Prop} (N : Nat) (I : Nat → Value → Value → World → Prop) (h0 : I 0 x0 y0 w0)
    (hs : ∀ i J x y w k, i ≤ N → I i x y w → (∀ x' y' w', i < N → I (i + 1) x' y' w' → k x' y' w') → step J x y w k) : wL2 x0 y0 w0 step := by
  refine ⟨fun n x y w => ∃ i, i ≤ N ∧ n = N - i ∧ I i x y w, ⟨N, 0, Nat.zero_le _, rfl, h0⟩, ?_⟩
  rintro n J x y w ⟨i, hi, rfl, hI⟩
  exact hs i J x y w _ hi hI fun x' y' w' hlt hI' => ⟨N - (i + 1), by omega, i + 1, by omega, rfl, hI'⟩
theorem loop_up3 {w0 : World} {x0 y0 z0 : Value} {step : Env → Value → Value → Value → World → (Value → Value → Value → World → Prop) → Prop} (N : Nat) (I : Nat → Value → Value → Value → World → Prop) (h0 : I 0 x0 y0 z0 w0)
    (hs : ∀ i J x y z w k, i ≤ N → I i x y z w → (∀ x' y' z' w', i < N → I (i + 1) x' y' z' w' → k x' y' z' w') → step J x y z w k) : wL3 x0 y0 z0 w0 step := by
  refine ⟨fun n x y z w => ∃ i, i ≤ N ∧ n = N - i ∧ I i x y z w, ⟨N, 0, Nat.zero_le _, rfl, h0⟩, ?_⟩
  rintro n J x y z w ⟨i, hi, rfl, hI⟩
  exact hs i J x y z w _ hi hI fun x' y' z' w' hlt hI' => ⟨N - (i + 1), by omega, i + 1, by omega, rfl, hI'⟩

/-! Numbers. -/
section nums
variable {P : Program} {t : TypeId} {w : World} {K : Value → World → Prop}
theorem bin_of {op : BinOp} {x y v : Value} (h : ∀ (c : Bool) (w' : World), (binS c op t x y).run P w' = .ok v w') : wBin P op t x y w K = K v w := by
  apply propext
  constructor
  · rintro ⟨v', hv', hk⟩
    have := (hv' true w).symm.trans (h true w)
    injection this with h1
    subst h1
    exact hk
  · exact fun hk => ⟨v, h, hk⟩
theorem bin_int {op : BinOp} {k : IntKind} {a b : Int} {v : Value} (h : binOp op t (.int k a) (.int k b) = pure v) : wBin P op t (.int k a) (.int k b) w K = K v w := by
  refine bin_of fun c w' => ?_
  have : (eqGuard op t (if c = true then .const (.int k a) else .tmp 0) (.tmp 0) (.int k a) (.int k b)) = pure () := by
    unfold eqGuard
    split <;> rfl
  unfold binS
  rw [this, h]
  rfl
theorem bin_addw (k : IntKind) (a b : Int) : wBin P .add t (.int k a) (.int k b) w K = K (.int k (k.wrap (a + b))) w := bin_int (by simp [binOp, Op.intArith])
theorem bin_subw (k : IntKind) (a b : Int) : wBin P .sub t (.int k a) (.int k b) w K = K (.int k (k.wrap (a - b))) w := bin_int (by simp [binOp, Op.intArith])
theorem bin_mulw (k : IntKind) (a b : Int) : wBin P .mul t (.int k a) (.int k b) w K = K (.int k (k.wrap (a * b))) w := bin_int (by simp [binOp, Op.intArith])
theorem bin_lss (k : IntKind) (a b : Int) : wBin P .lss t (.int k a) (.int k b) w K = K (.bool (decide (a < b))) w := bin_int (by simp [binOp, Op.intCmp])
theorem bin_leq (k : IntKind) (a b : Int) : wBin P .leq t (.int k a) (.int k b) w K = K (.bool (decide (a ≤ b))) w := bin_int (by simp [binOp, Op.intCmp])
theorem bin_gtr (k : IntKind) (a b : Int) : wBin P .gtr t (.int k a) (.int k b) w K = K (.bool (decide (b < a))) w := bin_int (by simp [binOp, Op.intCmp])
theorem bin_geq (k : IntKind) (a b : Int) : wBin P .geq t (.int k a) (.int k b) w K = K (.bool (decide (b ≤ a))) w := bin_int (by simp [binOp, Op.intCmp])
theorem bin_eql (k : IntKind) (a b : Int) : wBin P .eql t (.int k a) (.int k b) w K = K (.bool (decide (a = b))) w := bin_int (by simp [binOp, Op.intCmp]; rfl)
theorem bin_neq (k : IntKind) (a b : Int) : wBin P .neq t (.int k a) (.int k b) w K = K (.bool (decide (a ≠ b))) w := bin_int (by
  simp only [binOp, ne_eq, not_true_eq_false, if_false, Op.intCmp]
  congr 2
  by_cases h : a = b <;> simp [h])
theorem bin_add {a b : Int} (h : -9223372036854775808 ≤ a + b ∧ a + b ≤ 9223372036854775807) : wBin P .add t (.int .i64 a) (.int .i64 b) w K = K (.int .i64 (a + b)) w := by
  rw [bin_addw, IntWalk.i64_in _ h]
theorem bin_sub {a b : Int} (h : -9223372036854775808 ≤ a - b ∧ a - b ≤ 9223372036854775807) : wBin P .sub t (.int .i64 a) (.int .i64 b) w K = K (.int .i64 (a - b)) w := by
  rw [bin_subw, IntWalk.i64_in _ h]
theorem bin_mul {a b : Int} (h : -9223372036854775808 ≤ a * b ∧ a * b ≤ 9223372036854775807) : wBin P .mul t (.int .i64 a) (.int .i64 b) w K = K (.int .i64 (a * b)) w := by
  rw [bin_mulw, IntWalk.i64_in _ h]
theorem bin_shr {k yk : IntKind} {a b : Int} (h : 0 ≤ b) : wBin P .shr t (.int k a) (.int yk b) w K = K (.int k (a.fdiv (2 ^ (min b.toNat k.bits)))) w := by
  refine bin_of fun c w' => ?_
  have : (eqGuard .shr t (if c = true then .const (.int k a) else .tmp 0) (.tmp 0) (.int k a) (.int yk b)) = pure () := rfl
  unfold binS
  rw [this]
  simp only [binOp, Op.shift, if_neg (Int.not_lt.2 h)]
  rfl
theorem bin_shl {k yk : IntKind} {a b : Int} (h : 0 ≤ b) : wBin P .shl t (.int k a) (.int yk b) w K = K (.int k (k.wrap (a * 2 ^ (min b.toNat k.bits)))) w := by
  refine bin_of fun c w' => ?_
  have : (eqGuard .shl t (if c = true then .const (.int k a) else .tmp 0) (.tmp 0) (.int k a) (.int yk b)) = pure () := rfl
  unfold binS
  rw [this]
  simp only [binOp, Op.shift, if_neg (Int.not_lt.2 h)]
  rfl
theorem eqIn_bool (d : Nat) (a b : Bool) (ht : P.underlying t = some .bool) (w' : World) : (Op.equalIn (d + 1) t (.bool a) (.bool b)).run P w' = .ok (a == b) w' := by
  rw [Op.equalIn]
  unfold underlying program
  simp [Sem.run_bind, Sem.run, ht]
/-- '==' by what 'equal' comes to. -/
theorem bin_eq_of {x y : Value} {b : Bool} (hx : ∀ k n, x ≠ .int k n) (hf : ∀ k n, x ≠ .float k n) (hc : ∀ k n m, x ≠ .complex k n m) (hs : ∀ n, x ≠ .string n)
    (hg : ∀ (c : Bool) (w' : World), (eqGuard .eql t (if c = true then .const x else .tmp 0) (.tmp 0) x y).run P w' = .ok () w')
    (h : ∀ w', (Op.equal t x y).run P w' = .ok b w') : wBin P .eql t x y w K = K (.bool b) w := by
  refine bin_of fun c w' => ?_
  unfold binS
  rw [Sem.run_bind, hg c w']
  simp only [Result.andThen_ok]
  have : binOp .eql t x y = (do pure (.bool (← Op.equal t x y))) := by
    cases x <;> first | exact absurd rfl (hx _ _) | exact absurd rfl (hf _ _) | exact absurd rfl (hc _ _ _) | exact absurd rfl (hs _) | (cases y <;> rfl)
  rw [this, Sem.run_bind, h w']
  rfl
theorem bin_ne_of {x y : Value} {b : Bool} (hx : ∀ k n, x ≠ .int k n) (hf : ∀ k n, x ≠ .float k n) (hc : ∀ k n m, x ≠ .complex k n m) (hs : ∀ n, x ≠ .string n)
    (hg : ∀ (c : Bool) (w' : World), (eqGuard .neq t (if c = true then .const x else .tmp 0) (.tmp 0) x y).run P w' = .ok () w')
    (h : ∀ w', (Op.equal t x y).run P w' = .ok b w') : wBin P .neq t x y w K = K (.bool (!b)) w := by
  refine bin_of fun c w' => ?_
  unfold binS
  rw [Sem.run_bind, hg c w']
  simp only [Result.andThen_ok]
  have : binOp .neq t x y = (do pure (.bool (!(← Op.equal t x y)))) := by
    cases x <;> first | exact absurd rfl (hx _ _) | exact absurd rfl (hf _ _) | exact absurd rfl (hc _ _ _) | exact absurd rfl (hs _) | (cases y <;> rfl)
  rw [this, Sem.run_bind, h w']
  rfl
theorem bin_beql (a b : Bool) (ht : P.underlying t = some .bool) : wBin P .eql t (.bool a) (.bool b) w K = K (.bool (a == b)) w :=
  bin_eq_of (by simp) (by simp) (by simp) (by simp) (fun _ _ => rfl) (fun w' => eqIn_bool 9999 a b ht w')
theorem bin_bneq (a b : Bool) (ht : P.underlying t = some .bool) : wBin P .neq t (.bool a) (.bool b) w K = K (.bool (!(a == b))) w :=
  bin_ne_of (by simp) (by simp) (by simp) (by simp) (fun _ _ => rfl) (fun w' => eqIn_bool 9999 a b ht w')
theorem un_not (b : Bool) : wUn P .not (.bool b) w K = K (.bool (!b)) w := pureW_eq (fun _ => rfl) w K
theorem un_neg {a : Int} (h : -9223372036854775808 ≤ -a ∧ -a ≤ 9223372036854775807) : wUn P .neg (.int .i64 a) w K = K (.int .i64 (-a)) w := by
  refine (pureW_eq (v := .int .i64 (IntKind.i64.wrap (0 - a))) (fun _ => rfl) w K).trans ?_
  rw [IntWalk.i64_in _ (by omega), Int.zero_sub]
theorem nil_ptr (a : Addr) : wNil P (.pointer (some a)) w K = K (.pointer (some a)) w := pureW_eq (fun _ => rfl) w K
theorem nil_func (f : FuncId) (x y : Array Value) : wNil P (.func (.func f) x y) w K = K (.func (.func f) x y) w := pureW_eq (fun _ => rfl) w K
theorem ext_0 (a : Value) (l : List Value) : wExtract P (.tuple ⟨a :: l⟩) 0 w K = K a w := pureW_eq (fun _ => rfl) w K
theorem ext_1 (a b : Value) (l : List Value) : wExtract P (.tuple ⟨a :: b :: l⟩) 1 w K = K b w := pureW_eq (fun _ => rfl) w K
theorem ext_2 (a b c : Value) (l : List Value) : wExtract P (.tuple ⟨a :: b :: c :: l⟩) 2 w K = K c w := pureW_eq (fun _ => rfl) w K
theorem ext_3 (a b c d : Value) (l : List Value) : wExtract P (.tuple ⟨a :: b :: c :: d :: l⟩) 3 w K = K d w := pureW_eq (fun _ => rfl) w K
theorem max_i (k : IntKind) (a b : Int) (ts : Array TypeId) : wLen P .max ts [.int k a, .int k b] w K = K (.int k (max a b)) w := by
  refine (pureW_eq (v := .int k (if b > a then b else a)) (fun _ => rfl) w K).trans ?_
  congr 2
  split <;> omega
theorem min_i (k : IntKind) (a b : Int) (ts : Array TypeId) : wLen P .min ts [.int k a, .int k b] w K = K (.int k (min a b)) w := by
  refine (pureW_eq (v := .int k (if b < a then b else a)) (fun _ => rfl) w K).trans ?_
  congr 2
  split <;> omega
theorem len_s {e : TypeId} (ht : P.underlying t = some (.slice e)) (A : Option Addr) (n c : Nat) : wLen P .len #[t] [.slice A n c] w K = K (.int .i64 n) w := by
  refine pureW_eq (fun w' => ?_) w K
  simp [lenS, Builtin.len_, underlying, program, Sem.run_bind, Sem.run, ht, goInt]
theorem cap_s {e : TypeId} (ht : P.underlying t = some (.slice e)) (A : Option Addr) (n c : Nat) : wLen P .cap #[t] [.slice A n c] w K = K (.int .i64 c) w := by
  refine pureW_eq (fun w' => ?_) w K
  simp [lenS, Builtin.cap_, underlying, program, Sem.run_bind, Sem.run, ht, goInt]
end nums
end Go.Dn
end
section
/-! Memory. -/
set_option linter.unusedVariables false
set_option linter.unusedSimpArgs false
namespace Go.Dn
open Go Go.RowKit
attribute [local semireducible] wCall wCallV wInvoke callW wNext wLoad wStore wBox wAlloc wBuild wBuildS wBin wBinF wUn wConv wIface wFunc wMakeMap wMake wSlice wFieldA wField wIndexA wIndex wLookup wMapSet wExtract wLen wBuiltin wRange wNextI wEntry wNil wOther wKeep

/-- All blocks of w but those in S are in w' as they were; nothing else of the world has turned (draws apart). -/
structure Ex (S : List Nat) (w w' : World) : Prop where
  os : w'.os = w.os
  tape : w'.tape = w.tape
  output : w'.output = w.output
  size : w.heap.size ≤ w'.heap.size
  block : ∀ k, k < w.heap.size → k ∉ S → w'.heap[k]? = w.heap[k]?
theorem Ex.refl (S : List Nat) (w : World) : Ex S w w := ⟨rfl, rfl, rfl, Nat.le_refl _, fun _ _ _ => rfl⟩
theorem Ex.trans {S : List Nat} {a b c : World} (h : Ex S a b) (k : Ex S b c) : Ex S a c :=
  ⟨k.os.trans h.os, k.tape.trans h.tape, k.output.trans h.output, Nat.le_trans h.size k.size, fun i hi hs => (k.block i (Nat.lt_of_lt_of_le hi h.size) hs).trans (h.block i hi hs)⟩
theorem Ex.mono {S S' : List Nat} {a b : World} (h : Ex S a b) (hs : ∀ x ∈ S, x < a.heap.size → x ∈ S') : Ex S' a b :=
  ⟨h.os, h.tape, h.output, h.size, fun i hi hn => h.block i hi fun hm => hn (hs i hm hi)⟩
/-- What was written was new, or was S'. -/
theorem Ex.step {S S' : List Nat} {a b c : World} (h : Ex S a b) (k : Ex S' b c) (hs : ∀ x ∈ S', x ∈ S ∨ a.heap.size ≤ x) : Ex S a c :=
  ⟨k.os.trans h.os, k.tape.trans h.tape, k.output.trans h.output, Nat.le_trans h.size k.size, fun i hi hn =>
    (k.block i (Nat.lt_of_lt_of_le hi h.size) fun hm => (hs i hm).elim hn fun h => by omega).trans (h.block i hi hn)⟩
theorem Ex.drew {S : List Nat} {a b : World} (h : Ex S a b) : Ex S a b.drew := ⟨h.os, h.tape, h.output, h.size, h.block⟩
theorem Ex.below {S : List Nat} {a b : World} (h : Ex S a b) (hs : ∀ x ∈ S, a.heap.size ≤ x) : Below a.heap.size a b :=
  ⟨h.os, h.tape, h.output, h.size, fun k hk => h.block k hk fun hm => by have := hs k hm; omega⟩
theorem Ex.of_below {a b : World} (h : Below a.heap.size a b) : Ex [] a b := ⟨h.os, h.tape, h.output, h.size, fun k hk _ => h.block k hk⟩
theorem Ex.alloc (w : World) (o : Obj) : Ex [] w (w.alloc o) := ⟨rfl, rfl, rfl, by simp, fun k hk _ => Below.heap_alloc w o k hk⟩

/-- A block of cells that may be written. -/
def Blk (w : World) (g : Nat) (t : TypeId) (cs : List Value) : Prop := w.heap[g]? = some (.cells ⟨cs⟩ t (0, 0))
theorem Blk.lt {w : World} {g : Nat} {t : TypeId} {cs : List Value} (h : Blk w g t cs) : g < w.heap.size := (Array.getElem?_eq_some_iff.1 h).1
theorem Blk.ex {S : List Nat} {w w' : World} {g : Nat} {t : TypeId} {cs : List Value} (h : Blk w g t cs) (hx : Ex S w w') (hg : g ∉ S) : Blk w' g t cs := (hx.block g h.lt hg).trans h
theorem Blk.drew {w : World} {g : Nat} {t : TypeId} {cs : List Value} (h : Blk w g t cs) : Blk w.drew g t cs := h
theorem Blk.ne {w : World} {g g' : Nat} {t t' : TypeId} {cs cs' : List Value} (h : Blk w g t cs) (h' : Blk w g' t' cs') (hne : t ≠ t') : g ≠ g' := by
  rintro rfl
  unfold Blk at h h'
  rw [h] at h'
  injection h' with h'
  injection h' with _ ht
  exact hne ht
theorem Blk.eq {w : World} {g : Nat} {t t' : TypeId} {cs cs' : List Value} (h : Blk w g t cs) (h' : Blk w g t' cs') : cs = cs' := by
  unfold Blk at h h'
  rw [h] at h'
  injection h' with h'
  injection h' with h1 _
  injection h1

/-- From an address on the cells hold these. -/
def Cs (w : World) (b o : Nat) (xs : List Value) : Prop := ∀ i v, xs[i]? = some v → w.cell? ⟨b, o + i, none⟩ = some v
theorem Cs.nil (w : World) (b o : Nat) : Cs w b o [] := fun i v h => by simp at h
theorem Blk.cell {w : World} {g : Nat} {t : TypeId} {cs : List Value} (h : Blk w g t cs) (i : Nat) : w.cell? ⟨g, i, none⟩ = cs[i]? := by
  unfold Blk at h
  simp [World.cell?, h]
theorem Blk.cs {w : World} {g : Nat} {t : TypeId} {cs : List Value} (h : Blk w g t cs) (o n : Nat) : Cs w g o ((cs.drop o).take n) := by
  intro i v hv
  rw [h.cell]
  rw [List.getElem?_take] at hv
  split at hv
  · rw [List.getElem?_drop] at hv; exact hv
  · cases hv
theorem Cs.lt {w : World} {b o : Nat} {xs : List Value} (h : Cs w b o xs) (hx : xs ≠ []) : b < w.heap.size := by
  cases xs with
  | nil => exact absurd rfl hx
  | cons x xs => exact World.block_lt_of_cell? w _ (h 0 x rfl)
theorem Cs.ex {S : List Nat} {w w' : World} {b o : Nat} {xs : List Value} (h : Cs w b o xs) (hx : Ex S w w') (hb : b ∉ S) : Cs w' b o xs := by
  intro i v hv
  have h1 := h i v hv
  have := World.block_lt_of_cell? w _ h1
  rw [World.cell?_of_block (hx.block b this hb)]
  exact h1
theorem Cs.drew {w : World} {b o : Nat} {xs : List Value} (h : Cs w b o xs) : Cs w.drew b o xs := h
theorem Cs.sub {w : World} {b o : Nat} {xs : List Value} (h : Cs w b o xs) (i n : Nat) : Cs w b (o + i) ((xs.drop i).take n) := by
  intro j v hv
  rw [List.getElem?_take] at hv
  split at hv
  · rw [List.getElem?_drop] at hv
    have := h (i + j) v hv
    rw [Nat.add_assoc]; exact this
  · cases hv
theorem Cs.get {w : World} {b o : Nat} {xs : List Value} (h : Cs w b o xs) {i : Nat} {v : Value} (hv : xs[i]? = some v) : w.cell? ⟨b, o + i, none⟩ = some v := h i v hv
theorem Cs.append {w : World} {b o : Nat} {xs ys : List Value} (h : Cs w b o xs) (h' : Cs w b (o + xs.length) ys) : Cs w b o (xs ++ ys) := by
  intro i v hv
  rw [List.getElem?_append] at hv
  split at hv
  · exact h i v hv
  · have := h' _ v hv
    rw [Nat.add_assoc] at this
    rwa [show xs.length + (i - xs.length) = i by omega] at this

/-! Types. -/
def oneT (P : Program) (t : TypeId) : Bool :=
  match P.underlying t with
  | some (.struct _) => false
  | some (.array _ _) => false
  | some _ => (match P.info? t with
    | some i => Nat.beq i.size 1
    | none => false)
  | none => false
def aggT (P : Program) (t : TypeId) (n : Nat) : Bool :=
  match P.underlying t with
  | some (.struct _) | some (.array _ _) => (match P.info? t with
    | some i => Nat.beq i.size n
    | none => false)
  | _ => false
def zeroT (P : Program) (t : TypeId) : Option Value :=
  match P.info? t with
  | some i => i.zero
  | none => none
def sizeT (P : Program) (t : TypeId) : Nat :=
  match P.info? t with
  | some i => i.size
  | none => 0
section mem
variable {P : Program} {t : TypeId} {w : World} {K : Value → World → Prop}
theorem isAgg_one (hT : oneT P t = true) (w : World) : (isAgg t).run P w = .ok false w := by
  unfold oneT at hT
  unfold isAgg underlying program
  cases hu : P.underlying t with
  | none => rw [hu] at hT; cases hT
  | some d => cases d <;> first | (rw [hu] at hT; cases hT; done) | simp [Sem.run_bind, Sem.run, hu]
theorem isAgg_agg {n : Nat} (hT : aggT P t n = true) (w : World) : (isAgg t).run P w = .ok true w := by
  unfold aggT at hT
  unfold isAgg underlying program
  cases hu : P.underlying t with
  | none => rw [hu] at hT; cases hT
  | some d => cases d <;> first | (rw [hu] at hT; cases hT; done) | simp [Sem.run_bind, Sem.run, hu]
theorem sizeOf_run {i : TypeInfo} (hi : P.info? t = some i) (w : World) : (sizeOf t).run P w = .ok i.size w := by
  unfold sizeOf typeInfo program
  simp [Sem.run_bind, Sem.run, hi]
theorem sizeOf_agg {n : Nat} (hT : aggT P t n = true) (w : World) : (sizeOf t).run P w = .ok n w := by
  unfold aggT at hT
  split at hT
  · split at hT
    · rename_i i hi; rw [sizeOf_run hi, Nat.eq_of_beq_eq_true hT]
    · cases hT
  · split at hT
    · rename_i i hi; rw [sizeOf_run hi, Nat.eq_of_beq_eq_true hT]
    · cases hT
  · cases hT
theorem sizeOf_one (hT : oneT P t = true) (w : World) : (sizeOf t).run P w = .ok 1 w := by
  unfold oneT at hT
  split at hT
  · cases hT
  · cases hT
  · split at hT
    · rename_i i hi; rw [sizeOf_run hi, Nat.eq_of_beq_eq_true hT]
    · cases hT
  · cases hT
theorem load_run {a : Addr} {v : Value} (h : w.cell? a = some v) : (load a).run P w = .ok v w := by
  unfold load
  simp only [Sem.run, h]
theorem loadAt_one (hT : oneT P t = true) {a : Addr} {v : Value} (h : w.cell? a = some v) : (Instr.loadAt t (.pointer (some a))).run P w = .ok v w := by
  unfold Instr.loadAt loadVar
  simp only [Instr.sureAddr, Sem.run_bind, Sem.run_pure, Result.andThen_ok, isAgg_one hT, Bool.false_eq_true, if_false]
  exact load_run h
theorem loadCells_run {b : Nat} : ∀ (xs : List Value) (o i : Nat) (acc : Array Value), Cs w b (o + i) xs → (loadCellsFrom ⟨b, o, none⟩ i xs.length acc).run P w = .ok (acc ++ (⟨xs⟩ : Array Value)) w
  | [], o, i, acc, _ => by simp [loadCellsFrom]
  | x :: xs, o, i, acc, h => by
    have h0 : w.cell? ((⟨b, o, none⟩ : Addr).add i) = some x := by
      have := h 0 x rfl
      unfold Addr.add
      split
      · rename_i hi; subst hi; exact this
      · exact this
    have ih := loadCells_run xs o (i + 1) (acc.push x) (fun j v hv => by have := h (j + 1) v hv; rwa [show o + i + (j + 1) = o + (i + 1) + j by omega] at this)
    simp only [List.length_cons, loadCellsFrom, Sem.run_bind, load_run h0, Result.andThen_ok]
    rw [ih]
    congr 1
    apply Array.toList_inj.1
    simp
theorem loadAt_agg {n b o : Nat} {xs : List Value} (hT : aggT P t n = true) (h : Cs w b o xs) (hl : xs.length = n) : (Instr.loadAt t (.pointer (some ⟨b, o, none⟩))).run P w = .ok (.agg ⟨xs⟩) w := by
  unfold Instr.loadAt loadVar
  simp only [Instr.sureAddr, Sem.run_bind, Sem.run_pure, Result.andThen_ok, isAgg_agg hT, if_true, sizeOf_agg hT]
  have := loadCells_run (P := P) xs o 0 #[] (by simpa using h)
  rw [hl] at this
  unfold loadCells
  rw [this]
  simp
theorem ld_one (hT : oneT P t = true) {a : Addr} {v : Value} (h : w.cell? a = some v) : wLoad P t (.pointer (some a)) w K = K v w := by
  unfold wLoad runW
  rw [loadAt_one hT h]
theorem ld_agg {n b o : Nat} {xs : List Value} (hT : aggT P t n = true) (h : Cs w b o xs) (hl : xs.length = n) : wLoad P t (.pointer (some ⟨b, o, none⟩)) w K = K (.agg ⟨xs⟩) w := by
  unfold wLoad runW
  rw [loadAt_agg hT h hl]
theorem keep_nil : wKeep P [] w := fun x hx => by simp at hx
theorem keep_cons {x : TypeId × Value × Value} {l : List (TypeId × Value × Value)} (h : (Instr.loadAt x.1 x.2.1).run P w = .ok x.2.2 w) (hl : wKeep P l w) : wKeep P (x :: l) w := by
  intro y hy
  rcases List.mem_cons.1 hy with rfl | hy
  · exact h
  · exact hl y hy

/-! Stores. -/
def isC (v : Value) : Bool :=
  match v with
  | .agg _ => false
  | .tuple _ => false
  | _ => true
theorem isC_cells {v : Value} (h : isC v = true) : v.cells = #[v] := by cases v <;> first | rfl | cases h
def splice (cs : List Value) (o : Nat) (vs : List Value) : List Value := cs.take o ++ vs ++ cs.drop (o + vs.length)
theorem splice_length {cs vs : List Value} {o : Nat} (h : o + vs.length ≤ cs.length) : (splice cs o vs).length = cs.length := by
  simp [splice]; omega
theorem blk_set {g : Nat} {cs : List Value} (h : Blk w g t cs) (o : Nat) (v : Value) : Blk (w.setCell ⟨g, o, none⟩ v) g t (cs.set o v) := by
  unfold Blk at h ⊢
  simp only [World.setCell, Array.getElem?_modify, h]
  simp
theorem ex_set {g : Nat} {o : Nat} {v : Value} : Ex [g] w (w.setCell ⟨g, o, none⟩ v) :=
  ⟨rfl, rfl, rfl, by simp [World.setCell], fun k _ hn => Below.heap_setCell _ _ _ _ (by simpa using hn)⟩
theorem store_run {g o : Nat} {cs : List Value} (h : Blk w g t cs) (ho : o < cs.length) {v : Value} (hv : isC v = true) : (store ⟨g, o, none⟩ v).run P w = .ok () (w.setCell ⟨g, o, none⟩ v) := by
  have hc : w.cell? ⟨g, o, none⟩ = some cs[o] := by rw [h.cell]; simp [ho]
  have hf : w.frozen? ⟨g, o, none⟩ = false := by
    unfold Blk at h
    simp [World.frozen?, h]
  unfold store
  cases v <;> first | (cases hv; done) | simp [Sem.run, hc, hf]
theorem storeCells_run {g : Nat} {t : TypeId} : ∀ (vs cs : List Value) (o i : Nat) (w : World), Blk w g t cs → o + i + vs.length ≤ cs.length → (∀ v ∈ vs, isC v = true) →
    ∃ w', (storeCells ⟨g, o, none⟩ vs i).run P w = .ok () w' ∧ Ex [g] w w' ∧ Blk w' g t (splice cs (o + i) vs)
  | [], cs, o, i, w, h, _, _ => ⟨w, rfl, Ex.refl _ _, by simpa [splice] using h⟩
  | v :: vs, cs, o, i, w, h, hl, hv => by
    have hl' : o + i < cs.length := by simp at hl; omega
    have e0 : (⟨g, o, none⟩ : Addr).add i = ⟨g, o + i, none⟩ := by
      unfold Addr.add
      split
      · rename_i hi; subst hi; rfl
      · rfl
    have h1 := store_run (P := P) h hl' (hv v (List.mem_cons_self ..))
    obtain ⟨w', hr, hx, hb⟩ := storeCells_run vs (cs.set (o + i) v) o (i + 1) _ (blk_set h (o + i) v) (by simp at hl ⊢; omega) (fun u hu => hv u (List.mem_cons_of_mem _ hu))
    refine ⟨w', ?_, ex_set.trans hx, ?_⟩
    · simp only [storeCells, Sem.run_bind, e0, h1, Result.andThen_ok]
      exact hr
    · have : splice (cs.set (o + i) v) (o + (i + 1)) vs = splice cs (o + i) (v :: vs) := by
        unfold splice
        have e : o + (i + 1) + vs.length = o + i + (v :: vs).length := by simp; omega
        rw [e, ← Nat.add_assoc, List.take_succ_eq_append_getElem (by simp; omega), List.take_set_of_le (Nat.le_refl _), List.drop_set_of_lt (by simp)]
        simp
      rw [this] at hb
      exact hb
theorem st_run {P : Program} {w : World} {g o n : Nat} {t u : TypeId} {cs vs : List Value} {x : Value} (hs : ∀ w, (sizeOf t).run P w = .ok n w) (hx : x.cells = ⟨vs⟩) (hl : vs.length = n) (hc : ∀ v ∈ vs, isC v = true) (h : Blk w g u cs) (ho : o + n ≤ cs.length) :
    ∃ w', (Instr.storeAt t (.pointer (some ⟨g, o, none⟩)) x).run P w = .ok () w' ∧ Ex [g] w w' ∧ Blk w' g u (splice cs o vs) := by
  obtain ⟨w', h1, h2, h3⟩ := storeCells_run (P := P) vs cs o 0 w h (by omega) hc
  refine ⟨w', ?_, h2, by simpa using h3⟩
  unfold Instr.storeAt storeVar
  simp only [Instr.sureAddr, Sem.run_bind, Sem.run_pure, Result.andThen_ok, hs, hx]
  rw [if_neg (by simp [hl])]
  exact h1
theorem st_one {k : World → Prop} {g o : Nat} {u : TypeId} {cs : List Value} {x : Value} (hT : oneT P t = true) (hx : isC x = true) (h : Blk w g u cs) (ho : o < cs.length)
    (hk : ∀ w', Ex [g] w w' → Blk w' g u (cs.set o x) → k w') : wStore P t (.pointer (some ⟨g, o, none⟩)) x w k := by
  obtain ⟨w', h1, h2, h3⟩ := st_run (P := P) (n := 1) (o := o) (vs := [x]) (sizeOf_one hT) (isC_cells hx) rfl (by simpa using hx) h (by omega)
  unfold wStore runU
  rw [h1]
  refine hk w' h2 ?_
  have : splice cs o [x] = cs.set o x := by
    unfold splice
    rw [List.set_eq_take_append_cons_drop, if_pos ho]
    simp
  rw [this] at h3
  exact h3
theorem st_agg {k : World → Prop} {g o n : Nat} {u : TypeId} {cs vs : List Value} (hT : aggT P t n = true) (hl : vs.length = n) (hc : ∀ v ∈ vs, isC v = true) (h : Blk w g u cs) (ho : o + n ≤ cs.length)
    (hk : ∀ w', Ex [g] w w' → Blk w' g u (splice cs o vs) → k w') : wStore P t (.pointer (some ⟨g, o, none⟩)) (.agg ⟨vs⟩) w k := by
  obtain ⟨w', h1, h2, h3⟩ := st_run (P := P) (n := n) (o := o) (x := .agg ⟨vs⟩) (sizeOf_agg hT) rfl hl hc h ho
  unfold wStore runU
  rw [h1]
  exact hk w' h2 h3

/-! New blocks. -/
theorem newRow_run (e : TypeId) (cs : List Value) (w : World) : (newRow e ⟨cs⟩).run P w = .ok ⟨w.heap.size, 0, none⟩ (w.alloc (.cells ⟨cs⟩ e)) := by
  unfold newRow newObj
  rfl
theorem blk_new (w : World) (e : TypeId) (cs : List Value) : Blk (w.alloc (.cells ⟨cs⟩ e)) w.heap.size e cs := by
  unfold Blk World.alloc
  simp
theorem box_run {x : Value} {vs : List Value} (hx : x.cells = ⟨vs⟩) (w : World) : (Instr.box t x).run P w = .ok (.pointer (some ⟨w.heap.size, 0, none⟩)) (w.alloc (.cells ⟨vs⟩ t)) := by
  unfold Instr.box newVar
  rw [hx, Sem.run_bind, newRow_run]
  rfl
theorem box_i {x : Value} {vs : List Value} (hx : x.cells = ⟨vs⟩) (hk : ∀ w' g, g = w.heap.size → Ex [] w w' → Blk w' g t vs → K (.pointer (some ⟨g, 0, none⟩)) w') : wBox P t x w K := by
  unfold wBox runW
  rw [box_run hx]
  exact hk _ _ rfl (Ex.alloc _ _) (blk_new _ _ _)
theorem zero_run {z : Value} (hz : zeroT P t = some z) (w : World) : (zeroValue t).run P w = .ok z w := by
  unfold zeroT at hz
  unfold zeroValue typeInfo program
  split at hz
  · rename_i i hi
    simp [Sem.run_bind, Sem.run, hi, hz]
  · cases hz
theorem alloc_i {z : Value} {vs : List Value} (hz : zeroT P t = some z) (hx : z.cells = ⟨vs⟩) (hk : ∀ w' g, g = w.heap.size → Ex [] w w' → Blk w' g t vs → K (.pointer (some ⟨g, 0, none⟩)) w') : wAlloc P t w K := by
  unfold wAlloc runW Instr.alloc
  rw [Sem.run_bind, zero_run hz]
  simp only [Result.andThen_ok]
  unfold newVar
  rw [hx, Sem.run_bind, newRow_run]
  exact hk _ _ rfl (Ex.alloc _ _) (blk_new _ _ _)
end mem
end Go.Dn
end
section
/-! Addresses, slices, appends. -/
set_option linter.unusedVariables false
set_option linter.unusedSimpArgs false
namespace Go.Dn
open Go Go.RowKit
attribute [local semireducible] wCall wCallV wInvoke callW wNext wLoad wStore wBox wAlloc wBuild wBuildS wBin wBinF wUn wConv wIface wFunc wMakeMap wMake wSlice wFieldA wField wIndexA wIndex wLookup wMapSet wExtract wLen wBuiltin wRange wNextI wEntry wNil wOther wKeep

theorem add_pl (b o n : Nat) : (⟨b, o, none⟩ : Addr).add n = ⟨b, o + n, none⟩ := by
  unfold Addr.add
  split
  · rename_i h; subst h; rfl
  · rfl
def fldT (P : Program) (s : TypeId) (f : Nat) : Option Nat :=
  match P.underlying s with
  | some (.struct fs) => (match fs[f]? with
    | some fl => (match P.info? fl.type with
      | some i => bif Nat.beq i.size 0 then none else some fl.offset
      | none => none)
    | none => none)
  | _ => none
def slT (P : Program) (t : TypeId) : Option Nat :=
  match P.underlying t with
  | some (.slice e) => (match P.info? e with
    | some i => some i.size
    | none => none)
  | _ => none
def arT (P : Program) (t : TypeId) : Option (Nat × Nat) :=
  match P.underlying t with
  | some (.array n e) => (match P.info? e with
    | some i => bif Nat.ble n 1 then none else some (n, i.size)
    | none => none)
  | _ => none
section addrs
variable {P : Program} {t : TypeId} {w : World} {K : Value → World → Prop}
theorem und_run {d : TypeDesc} (h : P.underlying t = some d) (w : World) : (underlying t).run P w = .ok d w := by
  unfold underlying program
  simp [Sem.run_bind, Sem.run, h]
theorem fieldA_i {f off b o : Nat} (h : fldT P t f = some off) : wFieldA P t (.pointer (some ⟨b, o, none⟩)) f w K = K (.pointer (some ⟨b, o + off, none⟩)) w := by
  refine pureW_eq (fun w' => ?_) w K
  unfold fldT at h
  split at h
  · rename_i fs hu
    split at h
    · rename_i fl hf
      split at h
      · rename_i i hi
        cases hz : Nat.beq i.size 0
        · rw [hz] at h
          simp only [cond_false, Option.some.injEq] at h
          subst h
          unfold Instr.fieldAt fieldPlace
          simp only [Sem.run_bind, und_run hu, Result.andThen_ok, hf, Instr.sureAddr, Sem.run_pure, sizeOf_run hi]
          have : ¬ i.size = 0 := fun h0 => by rw [h0] at hz; cases hz
          rw [if_neg this, add_pl]
          rfl
        · rw [hz] at h; cases h
      · cases h
    · cases h
  · cases h
theorem indexS_i {size b o n c : Nat} {i : Int} {k : IntKind} (h : slT P t = some size) (h0 : 0 ≤ i) (h1 : i < n) :
    wIndexA P t (.slice (some ⟨b, o, none⟩) n c) (.int k i) w K = K (.pointer (some ⟨b, o + i.toNat * size, none⟩)) w := by
  refine pureW_eq (fun w' => ?_) w K
  unfold slT at h
  split at h
  · rename_i e hu
    split at h
    · rename_i inf hi
      injection h with h
      subst h
      unfold Instr.indexAt
      simp only [Sem.run_bind, asIntOf, Sem.run_pure, Result.andThen_ok, und_run hu]
      rw [if_pos ⟨h0, h1⟩]
      simp only [Sem.run_bind, sizeOf_run hi, Result.andThen_ok, add_pl]
      rfl
    · cases h
  · cases h
theorem indexA_i {len size b o : Nat} {i : Int} {k : IntKind} (h : arT P t = some (len, size)) (h0 : 0 ≤ i) (h1 : i < len) :
    wIndexA P t (.pointer (some ⟨b, o, none⟩)) (.int k i) w K = K (.pointer (some ⟨b, o + i.toNat * size, none⟩)) w := by
  refine pureW_eq (fun w' => ?_) w K
  unfold arT at h
  split at h
  · rename_i n e hu
    split at h
    · rename_i inf hi
      cases hn : Nat.ble n 1
      · rw [hn] at h
        simp only [cond_false, Option.some.injEq, Prod.mk.injEq] at h
        obtain ⟨rfl, rfl⟩ := h
        unfold Instr.indexAt
        simp only [Sem.run_bind, asIntOf, Sem.run_pure, Result.andThen_ok, und_run hu, Instr.sureAddr]
        rw [if_pos ⟨h0, h1⟩]
        simp only [Sem.run_bind, sizeOf_run hi, Result.andThen_ok, add_pl]
        rfl
      · rw [hn] at h; cases h
    · cases h
  · cases h

/-- A slice (of elements of 'size' cells) whose cells are xs. -/
def SlG (w : World) (size : Nat) (v : Value) (xs : List Value) : Prop :=
  ∃ A n c, v = .slice A n c ∧ xs.length = n * size ∧ n ≤ c ∧ (n ≠ 0 → ∃ b o, A = some ⟨b, o, none⟩ ∧ Cs w b o xs)
theorem SlG.nil (w : World) (size : Nat) : SlG w size (.slice none 0 0) [] := ⟨none, 0, 0, rfl, by simp, Nat.le_refl _, fun h => absurd rfl h⟩
theorem SlG.ex {S : List Nat} {w w' : World} {size : Nat} {v : Value} {xs : List Value} (h : SlG w size v xs) (hx : Ex S w w') (hs : ∀ g, v.ownBlock = some g → g ∉ S) : SlG w' size v xs := by
  obtain ⟨A, n, c, rfl, hl, hc, hr⟩ := h
  refine ⟨A, n, c, rfl, hl, hc, fun hn => ?_⟩
  obtain ⟨b, o, rfl, hcs⟩ := hr hn
  exact ⟨b, o, rfl, hcs.ex hx (hs b rfl)⟩
theorem SlG.ex0 {w w' : World} {size : Nat} {v : Value} {xs : List Value} (h : SlG w size v xs) (hx : Ex [] w w') : SlG w' size v xs := h.ex hx (by simp)
theorem SlG.drew {w : World} {size : Nat} {v : Value} {xs : List Value} (h : SlG w size v xs) : SlG w.drew size v xs := h
theorem SlG.of_cs {w : World} {b o n c size : Nat} {xs : List Value} (h : Cs w b o xs) (hl : xs.length = n * size) (hc : n ≤ c) : SlG w size (.slice (some ⟨b, o, none⟩) n c) xs :=
  ⟨_, n, c, rfl, hl, hc, fun _ => ⟨b, o, rfl, h⟩⟩
theorem SlG.of_own {w : World} {base size n : Nat} {e : TypeId} {v : Value} {xs : List Value} (h : w.ownsRow base e size v n xs) : SlG w size v xs := by
  obtain ⟨hl, h⟩ := h
  rcases h with ⟨rfl, rfl⟩ | ⟨g, cap, cur, rfl, _, hh, hnc, _, _, htk⟩
  · have : xs = [] := List.eq_nil_of_length_eq_zero (by simpa using hl)
    subst this
    exact SlG.nil w size
  · refine SlG.of_cs (fun i v hv => ?_) hl hnc
    have hb : Blk w g e cur.toList := hh
    rw [Nat.zero_add, hb.cell, ← htk, List.getElem?_take] at *
    split at hv
    · exact hv
    · cases hv
theorem SlG.len_i {w : World} {K : Value → World → Prop} {e : TypeId} {size : Nat} {v : Value} {xs : List Value} {n : Nat} (h : SlG w size v xs) (ht : P.underlying t = some (.slice e)) (hs : 0 < size) (hn : xs.length = n * size) :
    wLen P .len #[t] [v] w K = K (.int .i64 n) w := by
  obtain ⟨A, m, c, rfl, hl, _, _⟩ := h
  rw [len_s ht]
  have : m = n := Nat.eq_of_mul_eq_mul_right hs (hl.symm.trans hn)
  rw [this]
theorem SlG.ix {size : Nat} {v : Value} {xs : List Value} {i : Int} {k : IntKind} {n : Nat} (h : SlG w size v xs) (ht : slT P t = some size) (hs : 0 < size) (hn : xs.length = n * size) (h0 : 0 ≤ i) (h1 : i < n)
    (hk : ∀ b o, Cs w b o ((xs.drop (i.toNat * size)).take size) → K (.pointer (some ⟨b, o, none⟩)) w) : wIndexA P t v (.int k i) w K := by
  obtain ⟨A, m, c, rfl, hl, _, hr⟩ := h
  have : m = n := Nat.eq_of_mul_eq_mul_right hs (hl.symm.trans hn)
  subst this
  obtain ⟨b, o, rfl, hc⟩ := hr (by omega)
  rw [indexS_i ht h0 h1]
  exact hk _ _ (hc.sub _ _)
/-- Of elements of one cell. -/
theorem SlG.ix1 {v : Value} {xs : List Value} {i : Int} {k : IntKind} {x : Value} (h : SlG w 1 v xs) (ht : slT P t = some 1) (h0 : 0 ≤ i) (hx : xs[i.toNat]? = some x)
    (hk : ∀ a, w.cell? a = some x → K (.pointer (some a)) w) : wIndexA P t v (.int k i) w K := by
  have hlt := (List.getElem?_eq_some_iff.1 hx).1
  refine h.ix (n := xs.length) ht (by omega) (by omega) h0 (by omega) fun b o hc => hk _ ?_
  refine hc 0 x ?_
  rw [List.getElem?_take, if_pos (by omega), List.getElem?_drop, Nat.mul_one]
  exact hx

/-! Slicing. -/
theorem bound_run {x : Int} {k : IntKind} {y : Nat} {c : BoundsCode} (h0 : 0 ≤ x) (h1 : x ≤ y) (w : World) : (Instr.sliceBound (.int k x) y c).run P w = .ok x.toNat w := by
  unfold Instr.sliceBound
  simp only [Sem.run_bind, asIntOf, Sem.run_pure, Result.andThen_ok]
  rw [if_pos ⟨h0, h1⟩]
  rfl
theorem sliceS_lo {size n c : Nat} {A : Option Addr} {i : Int} {k : IntKind} (h : slT P t = some size) (h0 : 0 ≤ i) (h1 : i ≤ n) :
    wSlice P t (.slice A n c) (some (.int k i)) none none w K = K (.slice (if c = i.toNat then A else A.map (·.add (i.toNat * size))) (n - i.toNat) (c - i.toNat)) w := by
  refine pureW_eq (fun w' => ?_) w K
  unfold slT at h
  split at h
  · rename_i e hu
    split at h
    · rename_i inf hi
      injection h with h
      subst h
      unfold Instr.sliceAt Instr.slice Instr.sliceBounds
      simp [Sem.run_bind, und_run hu, bound_run h0 h1, sizeOf_run hi]
    · cases h
  · cases h
theorem sliceS_hi {size n c : Nat} {A : Option Addr} {i : Int} {k : IntKind} (h : slT P t = some size) (h0 : 0 ≤ i) (h1 : i ≤ c) :
    wSlice P t (.slice A n c) none (some (.int k i)) none w K = K (.slice A i.toNat c) w := by
  refine pureW_eq (fun w' => ?_) w K
  unfold slT at h
  split at h
  · rename_i e hu
    split at h
    · rename_i inf hi
      unfold Instr.sliceAt Instr.slice Instr.sliceBounds
      simp only [Sem.run_bind, und_run hu, bound_run h0 h1, sizeOf_run hi, Result.andThen_ok, Sem.run_pure, Nat.sub_zero, Nat.zero_mul]
      congr 2
      split
      · rfl
      · cases A with
        | none => rfl
        | some a => simp [Addr.add]
    · cases h
  · cases h
theorem sliceS_lohi {size n c : Nat} {A : Option Addr} {i j : Int} {k k' : IntKind} (h : slT P t = some size) (h0 : 0 ≤ i) (h1 : i ≤ j) (h2 : j ≤ c) :
    wSlice P t (.slice A n c) (some (.int k i)) (some (.int k' j)) none w K = K (.slice (if c = i.toNat then A else A.map (·.add (i.toNat * size))) (j.toNat - i.toNat) (c - i.toNat)) w := by
  refine pureW_eq (fun w' => ?_) w K
  have hj : i ≤ (j.toNat : Int) := by omega
  unfold slT at h
  split at h
  · rename_i e hu
    split at h
    · rename_i inf hi
      injection h with h
      subst h
      unfold Instr.sliceAt Instr.slice Instr.sliceBounds
      simp [Sem.run_bind, und_run hu, bound_run (P := P) (Int.le_trans h0 h1) h2, bound_run (P := P) h0 hj, sizeOf_run hi]
    · cases h
  · cases h
theorem sliceA_all {len size b o : Nat} (h : arT P t = some (len, size)) : wSlice P t (.pointer (some ⟨b, o, none⟩)) none none none w K = K (.slice (some ⟨b, o, none⟩) len len) w := by
  refine pureW_eq (fun w' => ?_) w K
  unfold arT at h
  split at h
  · rename_i n e hu
    split at h
    · rename_i inf hi
      cases hn : Nat.ble n 1
      · rw [hn] at h
        simp only [cond_false, Option.some.injEq, Prod.mk.injEq] at h
        obtain ⟨rfl, rfl⟩ := h
        unfold Instr.sliceAt Instr.sliceBounds
        simp only [Sem.run_bind, und_run hu, Instr.sureAddr, Sem.run_pure, Result.andThen_ok, sizeOf_run hi, Nat.sub_zero, Nat.zero_mul]
        congr 3
        split <;> simp [Addr.add]
      · rw [hn] at h; cases h
    · cases h
  · cases h
theorem sliceA_hi {len size b o : Nat} {j : Int} {k : IntKind} (h : arT P t = some (len, size)) (h0 : 0 ≤ j) (h1 : j ≤ len) :
    wSlice P t (.pointer (some ⟨b, o, none⟩)) none (some (.int k j)) none w K = K (.slice (some ⟨b, o, none⟩) j.toNat len) w := by
  refine pureW_eq (fun w' => ?_) w K
  unfold arT at h
  split at h
  · rename_i n e hu
    split at h
    · rename_i inf hi
      cases hn : Nat.ble n 1
      · rw [hn] at h
        simp only [cond_false, Option.some.injEq, Prod.mk.injEq] at h
        obtain ⟨rfl, rfl⟩ := h
        unfold Instr.sliceAt Instr.sliceBounds
        simp only [Sem.run_bind, und_run hu, Instr.sureAddr, Sem.run_pure, Result.andThen_ok, bound_run (P := P) h0 h1, sizeOf_run hi, Nat.sub_zero, Nat.zero_mul]
        congr 3
        split <;> simp [Addr.add]
      · rw [hn] at h; cases h
    · cases h
  · cases h
theorem sliceA_lo {len size b o : Nat} {i : Int} {k : IntKind} (h : arT P t = some (len, size)) (h0 : 0 ≤ i) (h1 : i ≤ len) :
    wSlice P t (.pointer (some ⟨b, o, none⟩)) (some (.int k i)) none none w K = K (.slice (some ⟨b, if len = i.toNat then o else o + i.toNat * size, none⟩) (len - i.toNat) (len - i.toNat)) w := by
  refine pureW_eq (fun w' => ?_) w K
  unfold arT at h
  split at h
  · rename_i n e hu
    split at h
    · rename_i inf hi
      cases hn : Nat.ble n 1
      · rw [hn] at h
        simp only [cond_false, Option.some.injEq, Prod.mk.injEq] at h
        obtain ⟨rfl, rfl⟩ := h
        unfold Instr.sliceAt Instr.sliceBounds
        simp only [Sem.run_bind, und_run hu, Instr.sureAddr, Sem.run_pure, Result.andThen_ok, bound_run (P := P) h0 h1, sizeOf_run hi, add_pl]
        congr 3
        split <;> rfl
      · rw [hn] at h; cases h
    · cases h
  · cases h
theorem sliceA_lohi {len size b o : Nat} {i j : Int} {k k' : IntKind} (h : arT P t = some (len, size)) (h0 : 0 ≤ i) (h1 : i ≤ j) (h2 : j ≤ len) :
    wSlice P t (.pointer (some ⟨b, o, none⟩)) (some (.int k i)) (some (.int k' j)) none w K = K (.slice (some ⟨b, if len = i.toNat then o else o + i.toNat * size, none⟩) (j.toNat - i.toNat) (len - i.toNat)) w := by
  refine pureW_eq (fun w' => ?_) w K
  have hj : i ≤ (j.toNat : Int) := by omega
  unfold arT at h
  split at h
  · rename_i n e hu
    split at h
    · rename_i inf hi
      cases hn : Nat.ble n 1
      · rw [hn] at h
        simp only [cond_false, Option.some.injEq, Prod.mk.injEq] at h
        obtain ⟨rfl, rfl⟩ := h
        unfold Instr.sliceAt Instr.sliceBounds
        simp only [Sem.run_bind, und_run hu, Instr.sureAddr, Sem.run_pure, Result.andThen_ok, bound_run (P := P) (Int.le_trans h0 h1) h2, bound_run (P := P) h0 hj, sizeOf_run hi, add_pl]
        congr 3
        split <;> rfl
      · rw [hn] at h; cases h
    · cases h
  · cases h
theorem SlG.cut {size : Nat} {xs : List Value} {A : Option Addr} {n c i j : Nat} (h : SlG w size (.slice A n c) xs) (hij : i ≤ j) (hjn : j ≤ n) :
    SlG w size (.slice (if c = i then A else A.map (·.add (i * size))) (j - i) (c - i)) ((xs.drop (i * size)).take ((j - i) * size)) := by
  obtain ⟨A', n', c', e, hl, hc, hr⟩ := h
  injection e with e1 e2 e3
  subst e1; subst e2; subst e3
  have hle : j * size ≤ n * size := Nat.mul_le_mul_right _ hjn
  have hsub : (j - i) * size = j * size - i * size := Nat.sub_mul _ _ _
  refine ⟨_, _, _, rfl, ?_, by omega, fun hne => ?_⟩
  · rw [List.length_take, List.length_drop, hl, hsub]; omega
  · obtain ⟨b, o, rfl, hcs⟩ := hr (by omega)
    rw [if_neg (by omega)]
    exact ⟨b, o + i * size, by simp [add_pl], hcs.sub _ _⟩
end addrs
end Go.Dn
end
section
/-! What makes memory. -/
set_option linter.unusedVariables false
set_option linter.unusedSimpArgs false
namespace Go.Dn
open Go Go.RowKit
attribute [local semireducible] wCall wCallV wInvoke callW wNext wLoad wStore wBox wAlloc wBuild wBuildS wBin wBinF wUn wConv wIface wFunc wMakeMap wMake wSlice wFieldA wField wIndexA wIndex wLookup wMapSet wExtract wLen wBuiltin wRange wNextI wEntry wNil wOther wKeep

/-- A slice that owns its array from its begin on (the kit's 'ownsRow'), of so many elements. -/
def Own (w : World) (base : Nat) (e : TypeId) (size : Nat) (v : Value) (xs : List Value) : Prop := ∃ n, w.ownsRow base e size v n xs
theorem Own.slg {w : World} {base size : Nat} {e : TypeId} {v : Value} {xs : List Value} (h : Own w base e size v xs) : SlG w size v xs := by
  obtain ⟨n, h⟩ := h
  exact SlG.of_own h
theorem Own.nil (w : World) (base : Nat) (e : TypeId) (size : Nat) : Own w base e size (.slice none 0 0) [] := ⟨0, World.ownsRow_nil w base e size⟩
theorem Own.blk {w : World} {base size : Nat} {e : TypeId} {v : Value} {xs : List Value} (h : Own w base e size v xs) {g : Nat} (hg : v.ownBlock = some g) : base ≤ g ∧ g < w.heap.size ∧ ∃ cs, Blk w g e cs := by
  obtain ⟨n, hl, h⟩ := h
  rcases h with ⟨rfl, _⟩ | ⟨g', cap, cur, rfl, hb, hh, _⟩
  · simp [Value.ownBlock] at hg
  · simp only [Value.ownBlock, Option.some.injEq] at hg
    subst hg
    exact ⟨hb, (Array.getElem?_eq_some_iff.1 hh).1, cur.toList, hh⟩
theorem Own.ex {S : List Nat} {w w' : World} {base size : Nat} {e : TypeId} {v : Value} {xs : List Value} (h : Own w base e size v xs) (hx : Ex S w w') (hs : ∀ g, v.ownBlock = some g → g ∉ S) : Own w' base e size v xs := by
  obtain ⟨n, hl, h⟩ := h
  refine ⟨n, hl, ?_⟩
  rcases h with h | ⟨g, cap, cur, rfl, hb, hh, h1, h2, h3, h4⟩
  · exact .inl h
  · exact .inr ⟨g, cap, cur, rfl, hb, (hx.block g (Array.getElem?_eq_some_iff.1 hh).1 (hs g rfl)).trans hh, h1, h2, h3, h4⟩
theorem Own.ex0 {w w' : World} {base size : Nat} {e : TypeId} {v : Value} {xs : List Value} (h : Own w base e size v xs) (hx : Ex [] w w') : Own w' base e size v xs := h.ex hx (by simp)
theorem Own.base {w : World} {base base' size : Nat} {e : TypeId} {v : Value} {xs : List Value} (h : Own w base e size v xs) (hb : base' ≤ base) : Own w base' e size v xs := by
  obtain ⟨n, hl, h⟩ := h
  refine ⟨n, hl, ?_⟩
  rcases h with h | ⟨g, cap, cur, rfl, hb', h⟩
  · exact .inl h
  · exact .inr ⟨g, cap, cur, rfl, by omega, h⟩
theorem Own.drew {w : World} {base size : Nat} {e : TypeId} {v : Value} {xs : List Value} (h : Own w base e size v xs) : Own w.drew base e size v xs := h
theorem Own.off {w : World} {base size : Nat} {e t : TypeId} {v : Value} {xs : List Value} (h : Own w base e size v xs) {g : Nat} {cs : List Value} (hb : Blk w g t cs) (hne : e ≠ t) : ∀ g', v.ownBlock = some g' → g' ≠ g := by
  intro g' hg'
  obtain ⟨_, _, cs', hb'⟩ := h.blk hg'
  exact hb'.ne hb hne
theorem Own.slice {w : World} {base size : Nat} {e : TypeId} {v : Value} {xs : List Value} (h : Own w base e size v xs) (hs : 0 < size) {n : Nat} (hn : xs.length = n * size) : ∃ A c, v = .slice A n c := by
  obtain ⟨m, hl, h⟩ := h
  have : m = n := Nat.eq_of_mul_eq_mul_right hs (hl.symm.trans hn)
  subst this
  rcases h with ⟨rfl, rfl⟩ | ⟨g, cap, cur, rfl, _⟩
  · exact ⟨_, _, rfl⟩
  · exact ⟨_, _, rfl⟩

section mk
variable {P : Program} {t : TypeId} {w : World} {K : Value → World → Prop}
theorem conv_i {s : TypeId} {d : TypeDesc} {k k' : IntKind} {n : Int} (hs : P.underlying s = some d) (hd : P.underlying t = some (.int k')) : wConv P s t (.int k n) w K = K (.int k' (k'.wrap n)) w := by
  refine pureW_eq (fun w' => ?_) w K
  unfold Go.convert
  simp only [Sem.run_bind, und_run hs, und_run hd, Result.andThen_ok]
  rfl
/-- 'append' onto a slice of one's own. -/
theorem app_i {e : TypeId} {i : TypeInfo} {z : Value} {size bytes base : Nat} (ht : P.underlying t = some (.slice e)) (hi : P.info? e = some i) (hz : i.zero = some z) (hsz : i.size = size) (hby : i.bytes = bytes) (hzs : z.cells.size = size) (hs : 0 < size)
    {v x : Value} {xs ys : List Value} {n m : Nat} (ho : Own w base e size v xs) (hy : SlG w size x ys) (hn : xs.length = n * size) (hm : ys.length = m * size) (hc : ∀ u ∈ ys, isC u = true)
    (hb : (n + m) * bytes ≤ 140737488355328) (h63 : n + m ≤ 9223372036854775807) (hba : base ≤ w.heap.size)
    (hk : ∀ v' w', Own w' base e size v' (xs ++ ys) → Ex v.ownBlock.toList w w' → (v'.ownBlock = v.ownBlock ∨ v'.ownBlock = some w.heap.size) → K v' w') :
    wBuiltin P .append #[t, t] [v, x] w K := by
  have hb1 : base ≤ w.heap.size := hba
  obtain ⟨n', how⟩ := ho
  have hn' : n' = n := Nat.eq_of_mul_eq_mul_right hs (how.1.symm.trans hn)
  subst hn'
  obtain ⟨A, m', c, rfl, hl, hmc, hr⟩ := hy
  have hm' : m' = m := Nat.eq_of_mul_eq_mul_right hs (hl.symm.trans hm)
  subst hm'
  have hone : ∀ u ∈ ys, u.oneCell' = true := fun u hu => by
    have := hc u hu
    cases u <;> first | rfl | cases this
  have fin : ∀ v' w', (Builtin.append_ #[t, t] 0 #[v, .slice A m' c]).run P w = .ok v' w' → w'.ownsRow base e size v' (n' + m') (xs ++ ys) → w.grownBy w' v.ownBlock → (v'.ownBlock = v.ownBlock ∨ v'.ownBlock = some w.heap.size) →
      wBuiltin P .append #[t, t] [v, .slice A m' c] w K := by
    intro v' w' hrun h1 h2 h3
    unfold wBuiltin wNext builtin
    rw [Sem.run_bind, hrun]
    refine hk v' w' ⟨_, h1⟩ ⟨h2.os, h2.tape, h2.output, h2.size, fun k hk hne => h2.block k hk fun he => hne ?_⟩ h3
    rw [← he]; simp
  by_cases hm0 : m' = 0
  · subst hm0
    have : ys = [] := List.eq_nil_of_length_eq_zero (by simpa using hl)
    subst this
    have hrun : (Builtin.append_ #[t, t] 0 #[v, .slice A 0 c]).run P w = .ok v w := by
      rcases A with _ | ad
      · rcases how.2 with ⟨rfl, rfl⟩ | ⟨g, cap, cur, rfl, _, _, hnc, _⟩
        · simp [Builtin.append_, run_underlying ht, sizeOf, typeInfo, hi, Builtin.lenOf, Builtin.firstCells]
        · simp [Builtin.append_, run_underlying ht, sizeOf, typeInfo, hi, Builtin.lenOf, Builtin.firstCells, hnc, storeCells]
      · rcases how.2 with ⟨rfl, rfl⟩ | ⟨g, cap, cur, rfl, _, _, hnc, _⟩
        · simp [Builtin.append_, run_underlying ht, sizeOf, typeInfo, hi, Builtin.lenOf, Builtin.firstCells, loadCells, loadCellsFrom]
        · simp [Builtin.append_, run_underlying ht, sizeOf, typeInfo, hi, Builtin.lenOf, Builtin.firstCells, hnc, storeCells, loadCells, loadCellsFrom]
    exact fin v w hrun (by simpa using how) ⟨rfl, rfl, rfl, Nat.le_refl _, fun _ _ _ => rfl⟩ (.inl rfl)
  · obtain ⟨b, o, rfl, hcs⟩ := hr hm0
    obtain ⟨v', w', hrun, h1, h2, _, h3⟩ := run_append_own_at (P := P) w base t 0 e i z size bytes ht hi hz hsz hby hzs hs v n' xs how ⟨b, o, none⟩ m' c ys hl (fun j u hu => by rw [add_pl]; exact hcs j u hu) hone (by simp only [maxLen]; omega) hb hb1
    exact fin v' w' hrun h1 h2 h3
theorem fill_run {fs : Array Field} {ps : List (Nat × Value)} {z : Value} {cs : List Value} {places : Array (Nat × Nat)} (hu : P.underlying t = some (.struct fs)) (hz : zeroT P t = some z)
    (hp : ∀ w, (fs.mapM fun f => do pure (f.offset, ← sizeOf f.type) : Sem (Array (Nat × Nat))).run P w = .ok places w) (hf : Instr.fill (places[·]?) z.cells ps = some ⟨cs⟩) : wBuild P t ps w K = K (.agg ⟨cs⟩) w := by
  refine pureW_eq (fun w' => ?_) w K
  unfold Instr.build
  simp only [Sem.run_bind, zero_run hz, Result.andThen_ok, und_run hu, hp]
  simp only [hf, Sem.run_pure]
theorem buildS_i {e : TypeId} {ps : List (Nat × Value)} {z : Value} {cs : List Value} {n size : Nat} (hu : P.underlying t = some (.slice e)) (hsz : ∀ w, (sizeOf e).run P w = .ok size w) (hz : zeroT P e = some z) (hn : n * size ≤ 16777216)
    (hf : Instr.fill (fun i => some (i * size, size)) (if n * size = 0 then #[] else (Array.range (n * size)).map (z.cells[· % z.cells.size]!)) ps = some ⟨cs⟩)
    (hk : ∀ w' g, g = w.heap.size → Ex [] w w' → Blk w' g e cs → K (.slice (some ⟨g, 0, none⟩) n n) w') : wBuildS P t n ps w K := by
  have hrun : (Instr.buildSlice t n ⟨ps⟩).run P w = .ok (.slice (some ⟨w.heap.size, 0, none⟩) n n) (w.alloc (.cells ⟨cs⟩ e)) := by
    unfold Instr.buildSlice
    simp only [Sem.run_bind, und_run hu, Result.andThen_ok, hsz]
    rw [if_neg (by have : (2:Nat) ^ 24 = 16777216 := by decide
                   omega)]
    by_cases h0 : n * size = 0
    · rw [if_pos h0] at hf
      rw [if_pos h0]
      have : (Array.range (n * size)).map (fun x => (#[] : Array Value)[x % (#[] : Array Value).size]!) = #[] := by rw [h0]; simp
      show (Sem.run P (match Instr.fill (fun i => some (i * size, size)) ((Array.range (n * size)).map (fun x => (#[] : Array Value)[x % (#[] : Array Value).size]!)) ps with
          | some cells => do
            let a ← newRow e cells
            pure (Value.slice (some a) n n)
          | x => stuck "buildSlice: a part of the wrong size") w) = _
      rw [this, hf]
      simp only [Sem.run_bind, newRow_run, Result.andThen_ok, Sem.run_pure]
    · rw [if_neg h0] at hf
      rw [if_neg h0]
      simp only [Sem.run_bind, zero_run hz, Result.andThen_ok, Sem.run_pure, hf, newRow_run]
  unfold wBuildS runW
  rw [hrun]
  exact hk _ _ rfl (Ex.alloc _ _) (blk_new _ _ _)
/-- A slice of one element ('append(l, x)'). -/
theorem buildS_1 {e : TypeId} {x : Value} {z : Value} {xs : List Value} {size : Nat} (hu : P.underlying t = some (.slice e)) (hsz : ∀ w, (sizeOf e).run P w = .ok size w) (hz : zeroT P e = some z) (hn : size ≤ 16777216) (hx : x.cells = ⟨xs⟩) (hl : xs.length = size) (hzl : z.cells.size = size)
    (hk : ∀ w' g, g = w.heap.size → Ex [] w w' → Blk w' g e xs → K (.slice (some ⟨g, 0, none⟩) 1 1) w') : wBuildS P t 1 [(0, x)] w K := by
  refine buildS_i hu hsz hz (by omega) (cs := xs) ?_ hk
  unfold Instr.fill
  have h1 : x.cells.size = size := by rw [hx]; exact hl
  have h2 : (if 1 * size = 0 then #[] else (Array.range (1 * size)).map (z.cells[· % z.cells.size]!)).size = size := by
    split
    · simp_all
    · simp
  simp only [Nat.zero_mul, h1, h2, Nat.zero_add]
  rw [if_neg (by simp)]
  unfold Instr.fill
  congr 1
  generalize (if 1 * size = 0 then #[] else (Array.range (1 * size)).map (z.cells[· % z.cells.size]!)) = acc at *
  rw [hx]
  have key : ∀ (ys pre : List Value) (a : Array Value), a.size = (pre ++ ys).length → a.toList.take pre.length = pre →
      (ys.zipIdx pre.length).foldl (fun cs (p : Value × Nat) => cs.setIfInBounds p.2 p.1) a = ⟨pre ++ ys⟩ := by
    intro ys
    induction ys with
    | nil =>
      intro pre a ha ht
      apply Array.toList_inj.1
      simp only [List.append_nil] at ha ⊢
      rw [List.take_of_length_le (by simp [ha])] at ht
      simpa using ht
    | cons y ys ih =>
      intro pre a ha ht
      have := ih (pre ++ [y]) (a.setIfInBounds pre.length y) (by simp [ha]) (by
        have hlt : pre.length < a.toList.length := by simp [ha]
        simp only [Array.toList_setIfInBounds, List.length_append, List.length_singleton]
        rw [List.take_succ_eq_append_getElem (by simpa using hlt), List.take_set_of_le (Nat.le_refl _), ht]
        simp)
      simp only [List.length_append, List.length_singleton, List.append_assoc, List.singleton_append] at this
      rw [← this]
      simp only [List.zipIdx_cons, List.foldl_cons]
  have := key xs [] acc (by simp [h2, hl]) rfl
  simp only [List.length_nil, List.nil_append] at this
  rw [← Array.foldl_toList, Array.toList_zipIdx]
  exact this
end mk
end Go.Dn
end
section
/-! Results in memory, draws, equality of arrays, bits. -/
set_option linter.unusedVariables false
set_option linter.unusedSimpArgs false
namespace Go.Dn
open Go Go.RowKit
attribute [local semireducible] wCall wCallV wInvoke callW wNext wLoad wStore wBox wAlloc wBuild wBuildS wBin wBinF wUn wConv wIface wFunc wMakeMap wMake wSlice wFieldA wField wIndexA wIndex wLookup wMapSet wExtract wLen wBuiltin wRange wNextI wEntry wNil wOther wKeep

section m4
variable {P : Program} {t : TypeId} {w : World} {K : Value → World → Prop}
theorem res_agg {n b o : Nat} {xs : List Value} {k : Value → Prop} (hT : aggT P t n = true) (h : Cs w b o xs) (hl : xs.length = n) (hk : k (.agg ⟨xs⟩)) : wRes P t (.pointer (some ⟨b, o, none⟩)) w k := by
  refine ⟨_, ?_, hk⟩
  have := loadAt_agg (P := P) hT h hl
  unfold Instr.loadAt at this
  simp only [Instr.sureAddr, Sem.run_bind, Sem.run_pure, Result.andThen_ok] at this
  simp only [asAddr, Sem.run_bind, Sem.run_pure, Result.andThen_ok]
  exact this
theorem res_one {a : Addr} {v : Value} {k : Value → Prop} (hT : oneT P t = true) (h : w.cell? a = some v) (hk : k v) : wRes P t (.pointer (some a)) w k := by
  refine ⟨_, ?_, hk⟩
  have := loadAt_one (P := P) hT h
  unfold Instr.loadAt at this
  simp only [Instr.sureAddr, Sem.run_bind, Sem.run_pure, Result.andThen_ok] at this
  simp only [asAddr, Sem.run_bind, Sem.run_pure, Result.andThen_ok]
  exact this
theorem Blk.all {w : World} {g : Nat} {t : TypeId} {cs : List Value} (h : Blk w g t cs) : Cs w g 0 cs := by
  intro i v hv
  rw [Nat.zero_add, h.cell]
  exact hv
theorem draw_i {k : World → Prop} (hk : ∀ w', Ex [] w w' → w'.heap = w.heap → k w') : wDraw w k := hk _ (Ex.refl _ _).drew rfl
theorem Blk.heap {w w' : World} {g : Nat} {t : TypeId} {cs : List Value} (h : Blk w g t cs) (hh : w'.heap = w.heap) : Blk w' g t cs := by
  unfold Blk at *; rw [hh]; exact h
theorem Ex.le {S : List Nat} {w w' : World} (h : Ex S w w') : w.heap.size ≤ w'.heap.size := h.size
theorem Ex.nil {S : List Nat} {w w' : World} (h : Ex [] w w') : Ex S w w' := h.mono (by simp)
/-- What was written is new since w. -/
theorem Ex.new {w a b : World} {g : Nat} (h : Ex [] w a) (k : Ex [g] a b) (hg : w.heap.size ≤ g) : Ex [] w b := h.step k (by simp; omega)

/-! Bits. -/
theorem ofInt_nat {n x : Nat} (hx : x < 2 ^ n) : (BitVec.ofInt n (x : Int)).toNat = x := by
  rw [BitVec.toNat_ofInt]
  have : ((x : Int) % ((2 ^ n : Nat) : Int)).toNat = x % 2 ^ n := by
    rw [← Int.natCast_emod]; rfl
  rw [this, Nat.mod_eq_of_lt hx]
theorem bin_orN {k : IntKind} {x y : Nat} (hx : x < 2 ^ k.bits) (hy : y < 2 ^ k.bits) (hk : k.signed = false) : wBin P .or t (.int k x) (.int k y) w K = K (.int k ((x ||| y : Nat) : Int)) w := by
  refine bin_int ?_
  have h1 := Nat.or_lt_two_pow hx hy
  simp only [binOp, ne_eq, not_true_eq_false, if_false, Op.intBits, BitVec.toNat_or, ofInt_nat hx, ofInt_nat hy]
  congr 2
  unfold IntKind.wrap
  rw [hk]
  simp only [Bool.false_and, Bool.false_eq_true, if_false]
  have : ((x ||| y : Nat) : Int) % (2 ^ k.bits : Int) = (((x ||| y) % 2 ^ k.bits : Nat) : Int) := by
    rw [Int.natCast_emod]; norm_cast
  rw [this, Nat.mod_eq_of_lt h1]
theorem bin_xorN {k : IntKind} {x y : Nat} (hx : x < 2 ^ k.bits) (hy : y < 2 ^ k.bits) (hk : k.signed = false) : wBin P .xor t (.int k x) (.int k y) w K = K (.int k ((x ^^^ y : Nat) : Int)) w := by
  refine bin_int ?_
  have h1 := Nat.xor_lt_two_pow hx hy
  simp only [binOp, ne_eq, not_true_eq_false, if_false, Op.intBits, BitVec.toNat_xor, ofInt_nat hx, ofInt_nat hy]
  congr 2
  unfold IntKind.wrap
  rw [hk]
  simp only [Bool.false_and, Bool.false_eq_true, if_false]
  have : ((x ^^^ y : Nat) : Int) % (2 ^ k.bits : Int) = (((x ^^^ y) % 2 ^ k.bits : Nat) : Int) := by
    rw [Int.natCast_emod]; norm_cast
  rw [this, Nat.mod_eq_of_lt h1]
theorem bin_andN {k : IntKind} {x y : Nat} (hx : x < 2 ^ k.bits) (hy : y < 2 ^ k.bits) (hk : k.signed = false) : wBin P .and t (.int k x) (.int k y) w K = K (.int k ((x &&& y : Nat) : Int)) w := by
  refine bin_int ?_
  have h1 := Nat.and_lt_two_pow x hy
  simp only [binOp, ne_eq, not_true_eq_false, if_false, Op.intBits, BitVec.toNat_and, ofInt_nat hx, ofInt_nat hy]
  congr 2
  unfold IntKind.wrap
  rw [hk]
  simp only [Bool.false_and, Bool.false_eq_true, if_false]
  have : ((x &&& y : Nat) : Int) % (2 ^ k.bits : Int) = (((x &&& y) % 2 ^ k.bits : Nat) : Int) := by
    rw [Int.natCast_emod]; norm_cast
  rw [this, Nat.mod_eq_of_lt h1]
theorem wrapN {k : IntKind} {x : Nat} (hk : k.signed = false) (hx : x < 2 ^ k.bits) : k.wrap (x : Int) = x := by
  unfold IntKind.wrap
  rw [hk]
  simp only [Bool.false_and, Bool.false_eq_true, if_false]
  have : (x : Int) % (2 ^ k.bits : Int) = ((x % 2 ^ k.bits : Nat) : Int) := by
    rw [Int.natCast_emod]; norm_cast
  rw [this, Nat.mod_eq_of_lt hx]
theorem bin_quoN {k : IntKind} {x y : Nat} (hk : k.signed = false) (hx : x < 2 ^ k.bits) (hy : 0 < y) : wBin P .quo t (.int k x) (.int k y) w K = K (.int k ((x / y : Nat) : Int)) w := by
  refine bin_int ?_
  simp only [binOp, ne_eq, not_true_eq_false, if_false, Op.intDiv]
  rw [if_neg (by omega)]
  congr 2
  have : (x : Int).tdiv (y : Int) = ((x / y : Nat) : Int) := by
    rw [Int.tdiv_eq_ediv_of_nonneg (by omega)]; norm_cast
  rw [this, wrapN hk (Nat.lt_of_le_of_lt (Nat.div_le_self _ _) hx)]
theorem bin_remN {k : IntKind} {x y : Nat} (hy : 0 < y) : wBin P .rem t (.int k x) (.int k y) w K = K (.int k ((x % y : Nat) : Int)) w := by
  refine bin_int ?_
  simp only [binOp, ne_eq, not_true_eq_false, if_false, Op.intDiv]
  rw [if_neg (by omega)]
  congr 2
theorem bin_quoI {x y : Nat} (hx : x ≤ 9223372036854775807) (hy : 0 < y) : wBin P .quo t (.int .i64 x) (.int .i64 y) w K = K (.int .i64 ((x / y : Nat) : Int)) w := by
  refine bin_int ?_
  simp only [binOp, ne_eq, not_true_eq_false, if_false, Op.intDiv]
  rw [if_neg (by omega)]
  congr 2
  have : (x : Int).tdiv (y : Int) = ((x / y : Nat) : Int) := by
    rw [Int.tdiv_eq_ediv_of_nonneg (by omega)]; norm_cast
  have h2 := Nat.div_le_self x y
  rw [this]
  generalize x / y = q at *
  rw [IntWalk.i64_in _ (by omega)]

/-! Equality of arrays of numbers. -/
theorem part_one {e : TypeId} {cs : Array Value} {o : Nat} {v : Value} (hT : oneT P e = true) (hv : cs[o]? = some v) (w : World) : (part e cs o).run P w = .ok v w := by
  unfold part
  simp only [Sem.run_bind, isAgg_one hT, Result.andThen_ok, Bool.false_eq_true, if_false, hv, Sem.run_pure]
theorem eqIn_int {e : TypeId} {k : IntKind} (d : Nat) (a b : Int) (he : P.underlying e = some (.int k)) (w : World) : (Op.equalIn (d + 1) e (.int k a) (.int k b)).run P w = .ok (a == b) w := by
  rw [Op.equalIn]
  simp only [Sem.run_bind, und_run he, Result.andThen_ok, if_true]
  rfl
end m4
end Go.Dn
end
section
/-! '==' of arrays and structs. -/
set_option linter.unusedVariables false
set_option linter.unusedSimpArgs false
namespace Go.Dn
open Go Go.RowKit
section m5
variable {P : Program} {t : TypeId} {w : World} {K : Value → World → Prop}
theorem eqItems_int {e : TypeId} {k : IntKind} (d : Nat) (ho : oneT P e = true) (he : P.underlying e = some (.int k)) (xs ys : List Int) (hl : xs.length = ys.length) (w : World) : ∀ (m i : Nat), i + m = xs.length →
    (Op.eqItems (d + 1) e 1 ⟨xs.map (Value.int k)⟩ ⟨ys.map (Value.int k)⟩ (List.range' i m)).run P w = .ok (decide (xs.drop i = ys.drop i)) w := by
  intro m
  induction m with
  | zero =>
    intro i hi
    rw [List.drop_of_length_le (by omega), List.drop_of_length_le (by omega)]
    simp [List.range'_zero, Op.eqItems, Sem.run_pure]
  | succ m ih =>
    intro i hi
    have hx : i < xs.length := by omega
    have hy : i < ys.length := by omega
    have h1 := part_one (P := P) (cs := ⟨xs.map (Value.int k)⟩) (o := i * 1) (v := .int k xs[i]) ho (by simp [hx]) w
    have h2 := part_one (P := P) (cs := ⟨ys.map (Value.int k)⟩) (o := i * 1) (v := .int k ys[i]) ho (by simp [hy]) w
    rw [List.range'_succ, Op.eqItems]
    simp only [Sem.run_bind, h1, h2, Result.andThen_ok, eqIn_int d _ _ he]
    have key : (xs.drop i = ys.drop i) ↔ (xs[i] = ys[i] ∧ xs.drop (i + 1) = ys.drop (i + 1)) := by
      conv => lhs; rw [List.drop_eq_getElem_cons hx, List.drop_eq_getElem_cons hy]
      rw [List.cons.injEq]
    by_cases hxy : xs[i] = ys[i]
    · have : (xs[i] == ys[i]) = true := by simpa using hxy
      rw [this]
      simp only [Bool.not_true, Bool.false_eq_true, if_false]
      rw [ih (i + 1) (by omega)]
      congr 1
      rw [decide_eq_decide, key]
      exact ⟨fun h => ⟨hxy, h⟩, fun h => h.2⟩
    · have : (xs[i] == ys[i]) = false := by simpa using hxy
      rw [this]
      simp only [Bool.not_false, if_true, Sem.run_pure]
      congr 1
      rw [eq_comm, decide_eq_false_iff_not, key]
      exact fun h => hxy h.1
theorem eqA_int {e : TypeId} {n : Nat} {k : IntKind} (hu : P.underlying t = some (.array n e)) (ho : oneT P e = true) (he : P.underlying e = some (.int k)) (d : Nat) (xs ys : List Int) (hx : xs.length = n) (hy : ys.length = n) (w : World) :
    (Op.equalIn (d + 2) t (.agg ⟨xs.map (Value.int k)⟩) (.agg ⟨ys.map (Value.int k)⟩)).run P w = .ok (decide (xs = ys)) w := by
  obtain ⟨i, hi⟩ : ∃ i, P.info? e = some i := by
    unfold oneT at ho
    rw [he] at ho
    simp only at ho
    split at ho
    · rename_i i hi; exact ⟨i, hi⟩
    · cases ho
  have hc : P.cellsOf e = 1 := by
    have h1 := sizeOf_one ho w
    rw [sizeOf_run hi] at h1
    injection h1 with h1
    unfold Program.cellsOf
    rw [hi]
    exact h1
  rw [run_equalIn_array w (d + 1) _ _ hu hi, hc, List.range_eq_range', eqItems_int d ho he xs ys (by omega) w n 0 (by omega)]
  rfl
theorem guard_agg {op : BinOp} (hg : P.eqGuardType P.depth t = false) (xs ys : Array Value) (c : Bool) (w' : World) :
    (eqGuard op t (if c = true then .const (.agg xs) else .tmp 0) (.tmp 0) (.agg xs) (.agg ys)).run P w' = .ok () w' := by
  unfold eqGuard program
  cases op <;> first | rfl | simp [Sem.run_bind, Sem.run, hg]
theorem bin_eqA {xs ys : Array Value} {b : Bool} (hg : P.eqGuardType P.depth t = false) (h : ∀ w', (Op.equalIn 10000 t (.agg xs) (.agg ys)).run P w' = .ok b w') : wBin P .eql t (.agg xs) (.agg ys) w K = K (.bool b) w :=
  bin_eq_of (by simp) (by simp) (by simp) (by simp) (fun c w' => guard_agg hg xs ys c w') h
theorem bin_neA {xs ys : Array Value} {b : Bool} (hg : P.eqGuardType P.depth t = false) (h : ∀ w', (Op.equalIn 10000 t (.agg xs) (.agg ys)).run P w' = .ok b w') : wBin P .neq t (.agg xs) (.agg ys) w K = K (.bool (!b)) w :=
  bin_ne_of (by simp) (by simp) (by simp) (by simp) (fun c w' => guard_agg hg xs ys c w') h
theorem bin_eqA2 {xs ys : Array Value} {b : Bool} (hg : P.eqGuardType P.depth t = false) (h : ∀ d w', (Op.equalIn (d + 2) t (.agg xs) (.agg ys)).run P w' = .ok b w') : wBin P .eql t (.agg xs) (.agg ys) w K = K (.bool b) w :=
  bin_eqA hg (fun w' => h 9998 w')
theorem bin_neA2 {xs ys : Array Value} {b : Bool} (hg : P.eqGuardType P.depth t = false) (h : ∀ d w', (Op.equalIn (d + 2) t (.agg xs) (.agg ys)).run P w' = .ok b w') : wBin P .neq t (.agg xs) (.agg ys) w K = K (.bool (!b)) w :=
  bin_neA hg (fun w' => h 9998 w')
theorem Own.of_blk {w : World} {base g n size : Nat} {e : TypeId} {cs : List Value} (B : Blk w g e cs) (hl : cs.length = n * size) (hb : base ≤ g) (hn : n ≤ 9223372036854775807) : Own w base e size (.slice (some ⟨g, 0, none⟩) n n) cs :=
  ⟨n, hl, .inr ⟨g, n, ⟨cs⟩, rfl, hb, B, Nat.le_refl _, by simp only [maxLen]; omega, hl, by rw [← hl]; simp⟩⟩
end m5
end Go.Dn
end
section
/-! copy. -/
set_option linter.unusedVariables false
set_option linter.unusedSimpArgs false
namespace Go.Dn
open Go Go.RowKit
attribute [local semireducible] wBuiltin wNext
section m6
variable {P : Program} {t : TypeId} {w : World} {K : Value → World → Prop}
/-- 'copy' of cells (elements of one cell) into a block. -/
theorem copy_i {e t' u : TypeId} {g o dn dc : Nat} {src : Value} {cs ys : List Value} (ht : P.underlying t = some (.slice e)) (ho : oneT P e = true) (H : Blk w g u cs) (hs : SlG w 1 src ys) (hc : ∀ y ∈ ys, isC y = true)
    (hl : o + min ys.length dn ≤ cs.length) (hk : ∀ w', Ex [g] w w' → Blk w' g u (splice cs o (ys.take dn)) → K (.int .i64 (min ys.length dn : Nat)) w') :
    wBuiltin P .copy #[t, t'] [.slice (some ⟨g, o, none⟩) dn dc, src] w K := by
  obtain ⟨A, m, c, rfl, hlen, hmc, hr⟩ := hs
  rw [Nat.mul_one] at hlen
  have hcells : (Builtin.firstCells 1 (Nat.min m dn) (.slice A m c)).run P w = .ok ⟨ys.take dn⟩ w := by
    rcases A with _ | ad
    · have : m = 0 := by
        rcases Nat.eq_zero_or_pos m with h | h
        · exact h
        · obtain ⟨b, o', h', _⟩ := hr (by omega); cases h'
      subst this
      have : ys = [] := List.eq_nil_of_length_eq_zero hlen
      subst this
      simp [Builtin.firstCells]
    · by_cases hm : m = 0
      · subst hm
        have : ys = [] := List.eq_nil_of_length_eq_zero hlen
        subst this
        simp [Builtin.firstCells, loadCells, loadCellsFrom]
      · obtain ⟨b, o', h', hcs⟩ := hr hm
        injection h' with h'
        subst h'
        have h1 := loadCells_run (P := P) (b := b) (ys.take dn) o' 0 #[] (fun i v hv => by
          rw [List.getElem?_take] at hv
          split at hv
          · have := hcs i v hv; simpa using this
          · cases hv)
        have h2 : (ys.take dn).length = Nat.min m dn * 1 := by rw [List.length_take, hlen, Nat.mul_one, Nat.min_comm]
        rw [h2] at h1
        unfold Builtin.firstCells loadCells
        rw [h1]
        simp
  have hl2 : o + (ys.take dn).length ≤ cs.length := by rw [List.length_take]; omega
  obtain ⟨w', h1, h2, h3⟩ := storeCells_run (P := P) (ys.take dn) cs o 0 w H (by simpa using hl2) (fun v hv => hc v (List.mem_of_mem_take hv))
  have hrun : (Builtin.copy_ #[t, t'] 0 #[.slice (some ⟨g, o, none⟩) dn dc, .slice A m c]).run P w = .ok (.int .i64 (min ys.length dn : Nat)) w' := by
    unfold Builtin.copy_
    simp only [List.getElem?_toArray, List.getElem?_cons_zero, List.getElem?_cons_succ]
    simp only [Sem.run_bind, und_run ht, Result.andThen_ok, Builtin.lenOf, Sem.run_pure, sizeOf_one ho, hcells, h1]
    rw [hlen]
    rfl
  unfold wBuiltin wNext builtin
  rw [Sem.run_bind, hrun]
  exact hk w' h2 (by simpa using h3)
/-! Building structs and arrays. -/
theorem setMany : ∀ (vs : List Value) (cs : List Value) (o : Nat), o + vs.length ≤ cs.length →
    ((⟨vs⟩ : Array Value).zipIdx.foldl (fun cs (p : Value × Nat) => cs.setIfInBounds (o + p.2) p.1) (⟨cs⟩ : Array Value)) = ⟨splice cs o vs⟩ := by
  intro vs cs o h
  rw [← Array.foldl_toList, Array.toList_zipIdx]
  have key : ∀ (vs cs : List Value) (i : Nat), o + i + vs.length ≤ cs.length → (vs.zipIdx i).foldl (fun cs (p : Value × Nat) => cs.setIfInBounds (o + p.2) p.1) (⟨cs⟩ : Array Value) = ⟨splice cs (o + i) vs⟩ := by
    intro vs
    induction vs with
    | nil => intro cs i _; simp [splice]
    | cons v vs ih =>
      intro cs i hl
      simp only [List.zipIdx_cons, List.foldl_cons]
      have e0 : (⟨cs⟩ : Array Value).setIfInBounds (o + i) v = ⟨cs.set (o + i) v⟩ := by
        apply Array.toList_inj.1; simp
      rw [e0, ih _ _ (by simp at hl ⊢; omega)]
      have hl' : o + i < cs.length := by simp at hl; omega
      congr 1
      unfold splice
      have e : o + (i + 1) + vs.length = o + i + (v :: vs).length := by simp; omega
      rw [e, ← Nat.add_assoc, List.take_succ_eq_append_getElem (by simp; omega), List.take_set_of_le (Nat.le_refl _), List.drop_set_of_lt (by simp)]
      simp
  have := key vs cs 0 (by omega)
  simpa using this
theorem fill_cons {place : Nat → Option (Nat × Nat)} {cs vs : List Value} {i off size : Nat} {v : Value} {rest : List (Nat × Value)} (hp : place i = some (off, size)) (hv : v.cells = ⟨vs⟩) (hl : vs.length = size) (ho : off + size ≤ cs.length) :
    Instr.fill place ⟨cs⟩ ((i, v) :: rest) = Instr.fill place ⟨splice cs off vs⟩ rest := by
  rw [Instr.fill]
  simp only [hp]
  rw [if_neg (by rw [hv]; simp; omega), hv, setMany vs cs off (by omega)]
theorem fill_nil {place : Nat → Option (Nat × Nat)} {cs : List Value} : Instr.fill place ⟨cs⟩ [] = some ⟨cs⟩ := rfl
theorem build_s {fs : Array Field} {ps : List (Nat × Value)} {z cs : List Value} {places : Array (Nat × Nat)} (hu : P.underlying t = some (.struct fs)) (hz : zeroT P t = some (.agg ⟨z⟩))
    (hp : ∀ w, (fs.mapM fun f => do pure (f.offset, ← sizeOf f.type) : Sem (Array (Nat × Nat))).run P w = .ok places w) (hf : Instr.fill (places[·]?) ⟨z⟩ ps = some ⟨cs⟩) : wBuild P t ps w K = K (.agg ⟨cs⟩) w :=
  fill_run hu hz hp hf
theorem fill_ones : ∀ (xs cs : List Value) (i : Nat), i + xs.length = cs.length → (∀ x ∈ xs, x.cells = #[x]) →
    Instr.fill (fun i => some (i * 1, 1)) ⟨cs⟩ ((xs.zipIdx i).map fun p => (p.2, p.1)) = some ⟨cs.take i ++ xs⟩
  | [], cs, i, h, _ => by
    simp only [List.length_nil, Nat.add_zero] at h
    simp [List.take_of_length_le (show cs.length ≤ i by omega), Instr.fill]
  | x :: xs, cs, i, h, hx => by
    simp only [List.zipIdx_cons, List.map_cons]
    simp only [List.length_cons] at h
    rw [fill_cons (vs := [x]) (off := i * 1) (size := 1) rfl (hx x (List.mem_cons_self ..)) rfl (by omega), fill_ones xs _ (i + 1) (by rw [splice_length (by simp; omega)]; omega) fun y hy => hx y (List.mem_cons_of_mem _ hy)]
    congr 2
    unfold splice
    rw [Nat.mul_one]
    have e : (cs.take i ++ [x]).length = i + 1 := by simp; omega
    rw [List.take_append_of_le_length (by omega), List.take_of_length_le (by omega)]
    simp
/-- A slice literal of elements of one cell. -/
theorem buildS_ones {e : TypeId} {z : Value} {n : Nat} {xs : List Value} {ps : List (Nat × Value)} (hps : ps = xs.zipIdx.map fun p => (p.2, p.1)) (hu : P.underlying t = some (.slice e)) (ho : oneT P e = true) (hz : zeroT P e = some z) (hzc : z.cells = #[z])
    (hl : xs.length = n) (hn : n ≤ 16777216) (hx : ∀ x ∈ xs, x.cells = #[x]) (hk : ∀ w' g, g = w.heap.size → Ex [] w w' → Blk w' g e xs → K (.slice (some ⟨g, 0, none⟩) n n) w') : wBuildS P t n ps w K := by
  subst hps
  refine buildS_i hu (sizeOf_one ho) hz (by omega) (cs := xs) ?_ hk
  have h0 : (if n * 1 = 0 then #[] else (Array.range (n * 1)).map (z.cells[· % z.cells.size]!)) = (⟨List.replicate n z⟩ : Array Value) := by
    apply Array.toList_inj.1
    by_cases h : n * 1 = 0
    · rw [if_pos h]
      have : n = 0 := by omega
      subst this; rfl
    · rw [if_neg h, hzc]
      apply List.ext_getElem (by simp)
      intro i h1 h2
      simp [Nat.mod_one]
  rw [h0]
  have := fill_ones xs (List.replicate n z) 0 (by simp [hl]) hx
  simpa using this
attribute [local semireducible] wBuild
theorem build_a {e : TypeId} {n size : Nat} {ps : List (Nat × Value)} {z cs : List Value} (hu : P.underlying t = some (.array n e)) (hz : zeroT P t = some (.agg ⟨z⟩)) (hs : ∀ w, (sizeOf e).run P w = .ok size w)
    (hf : Instr.fill (fun i => some (i * size, size)) ⟨z⟩ ps = some ⟨cs⟩) : wBuild P t ps w K = K (.agg ⟨cs⟩) w := by
  refine pureW_eq (fun w' => ?_) w K
  unfold Instr.build
  simp only [Sem.run_bind, zero_run hz, Result.andThen_ok, und_run hu, hs, Value.cells, hf, Sem.run_pure]
end m6
end Go.Dn
end
section
/-! Functions as values, 'make', floats. -/
set_option linter.unusedVariables false
set_option linter.unusedSimpArgs false
namespace Go.Dn
open Go Go.RowKit
attribute [local semireducible] wCallV wCall wNext wFunc wMake wBinF wConv wBin
section m7
variable {P : Program} {t : TypeId} {w : World} {K : Value → World → Prop}
theorem callv_eq (f : FuncId) (first cap args : List Value) : wCallV P (.func (.func f) ⟨first⟩ ⟨cap⟩) args w K = wCall P f (first ++ args ++ cap) w K := by
  unfold wCallV wCall wNext
  simp only [Deferred.ofValue, Sem.run_bind, Sem.run_pure, Result.andThen_ok, invoke]
  simp
theorem callv_0 (f : FuncId) (args : List Value) : wCallV P (.func (.func f) #[] #[]) args w K = wCall P f args w K := by
  have := callv_eq (P := P) (w := w) (K := K) f [] [] args
  simpa using this
theorem func_eq (f : FuncId) (first cap : List Value) : wFunc P (.func f) first cap w K = K (.func (.func f) ⟨first⟩ ⟨cap⟩) w := rfl
theorem made_flat (zs : List Value) (hs : zs ≠ []) : ∀ n, (List.range (n * zs.length)).map (fun i => zs[i % zs.length]!) = (List.replicate n zs).flatten
  | 0 => by simp
  | n + 1 => by
    have hp : 0 < zs.length := List.length_pos_iff.2 hs
    rw [Nat.succ_mul, List.range_add, List.map_append, made_flat zs hs n, List.replicate_succ', List.flatten_append]
    congr 1
    simp only [List.map_map, List.flatten_cons, List.flatten_nil, List.append_nil]
    apply List.ext_getElem
    · simp
    · intro i h1 h2
      simp only [List.length_map, List.length_range] at h1
      simp [Nat.mul_add_mod_of_lt, Nat.mod_eq_of_lt h1, h1, Nat.add_mod, Nat.mul_mod_left]
theorem make_i {e : TypeId} {i : TypeInfo} {z : Value} {zs : List Value} {n bytes : Nat} {k k' : IntKind} (ht : P.underlying t = some (.slice e)) (hi : P.info? e = some i) (hz : i.zero = some z) (hzc : z.cells = ⟨zs⟩) (hzn : zs ≠ []) (hsz : i.size = zs.length) (hby : i.bytes = bytes)
    (hn : n * zs.length ≤ 16777216) (hb : bytes * n ≤ 16777216)
    (hk : ∀ w' g, g = w.heap.size → Ex [] w w' → Blk w' g e (List.replicate n zs).flatten → K (.slice (some ⟨g, 0, none⟩) n n) w') : wMake P t (.int k n) (.int k' n) w K := by
  have hp : 1 ≤ zs.length := List.length_pos_iff.2 hzn
  have hm : n * 1 ≤ n * zs.length := Nat.mul_le_mul_left n hp
  have hb' : (i.bytes : Int) * (n : Int) ≤ 281474976710656 := by
    rw [hby, ← Int.natCast_mul]
    omega
  have h := run_makeSlice (P := P) w t e i z ht hi hz k k' (n : Int) (n : Int) (by omega) (by omega) (by rw [hsz, Int.toNat_natCast]; exact hn) hb' (by omega)
  have hmk : madeCells z.cells ((n : Int).toNat * i.size) = ⟨(List.replicate n zs).flatten⟩ := by
    rw [← made_flat zs hzn n]
    unfold madeCells
    apply Array.toList_inj.1
    rw [hzc, hsz]
    simp
  rw [hmk] at h
  unfold wMake runW
  rw [h]
  exact hk _ _ rfl (Ex.alloc _ _) (blk_new _ _ _)

/-! Floats. -/
theorem conv_f {s : TypeId} {d : TypeDesc} {k : IntKind} {n : Int} (hs : P.underlying s = some d) (hd : P.underlying t = some (.float .f64)) : wConv P s t (.int k n) w K = K (.float .f64 (FloatKind.f64.nearest n)) w := by
  refine pureW_eq (fun w' => ?_) w K
  unfold Go.convert
  simp only [Sem.run_bind, und_run hs, und_run hd, Result.andThen_ok]
  rfl
theorem bin_flt {op : BinOp} {a b : Nat} {v : Value} (h : binOp op t (.float .f64 a) (.float .f64 b) = pure v) : wBin P op t (.float .f64 a) (.float .f64 b) w K = K v w := by
  refine bin_of fun c w' => ?_
  have : (eqGuard op t (if c = true then .const (.float .f64 a) else .tmp 0) (.tmp 0) (.float .f64 a) (.float .f64 b)) = pure () := by
    unfold eqGuard
    split <;> rfl
  unfold binS
  rw [this, h]
  rfl
theorem bin_feql (a b : Nat) : wBin P .eql t (.float .f64 a) (.float .f64 b) w K = K (.bool (Ieee.double.order a b == some .eq)) w := bin_flt (by simp [binOp, Op.floatCmp, FloatKind.format])
theorem bin_fneq (a b : Nat) : wBin P .neq t (.float .f64 a) (.float .f64 b) w K = K (.bool (Ieee.double.order a b != some .eq)) w := bin_flt (by simp [binOp, Op.floatCmp, FloatKind.format])
theorem bin_flss (a b : Nat) : wBin P .lss t (.float .f64 a) (.float .f64 b) w K = K (.bool (Ieee.double.order a b == some .lt)) w := bin_flt (by simp [binOp, Op.floatCmp, FloatKind.format])
theorem bin_fgtr (a b : Nat) : wBin P .gtr t (.float .f64 a) (.float .f64 b) w K = K (.bool (Ieee.double.order a b == some .gt)) w := bin_flt (by simp [binOp, Op.floatCmp, FloatKind.format])
theorem quo_some {a b r : Nat} (h : Ieee.double.div a b = some r) (hk : K (.float .f64 r) w) : wBinF P .quo t (.float .f64 a) (.float .f64 b) w K := by
  intro c
  unfold runW binS
  have : (eqGuard .quo t (if c = true then .const (.float .f64 a) else .tmp 0) (.tmp 0) (.float .f64 a) (.float .f64 b)) = pure () := rfl
  rw [this]
  simp only [binOp, Op.floatArith, Sem.run_bind, Sem.run_pure, Result.andThen_ok, FloatKind.format, h, ne_eq, not_true_eq_false, if_false]
  exact hk
def nanB (t : Nat) : Nat := (t % 2) * 2 ^ 63 + 0x7ff0000000000000 + 1 + (t / 2) % (2 ^ 52 - 1)
theorem quo_none {a b : Nat} (h : Ieee.double.div a b = none) (hk : ∀ w' x, Ex [] w w' → w'.heap = w.heap → K (.float .f64 (nanB x)) w') : wBinF P .quo t (.float .f64 a) (.float .f64 b) w K := by
  intro c
  unfold runW binS
  have : (eqGuard .quo t (if c = true then .const (.float .f64 a) else .tmp 0) (.tmp 0) (.float .f64 a) (.float .f64 b)) = pure () := rfl
  rw [this]
  simp only [binOp, Op.floatArith, Sem.run_bind, Sem.run_pure, Result.andThen_ok, FloatKind.format, h, ne_eq, not_true_eq_false, if_false, Go.choose, Sem.run]
  exact hk _ _ (Ex.refl _ _).drew rfl
end m7
end Go.Dn
end
section
/-! Control: parts that are joined, loops, guarded parts; small things on lists. -/
set_option linter.unusedVariables false
set_option linter.unusedSimpArgs false
namespace Go.Dn
open Go
abbrev ptr (h : Nat) : Value := .pointer (some ⟨h, 0, none⟩)
theorem get_mid {α : Type} {X Y : List α} {x : α} {i : Nat} (h : X.length = i) : (X ++ x :: Y)[i]? = some x := by subst h; simp
theorem set_mid {α : Type} {X Y : List α} {x y : α} {i : Nat} (h : X.length = i) : (X ++ x :: Y).set i y = X ++ y :: Y := by subst h; simp
def ivs (l : List Nat) : List Value := l.map fun (n : Nat) => Value.int .i64 (n : Int)
theorem ivs_length (l : List Nat) : (ivs l).length = l.length := by simp [ivs]
theorem ivs_append (a b : List Nat) : ivs (a ++ b) = ivs a ++ ivs b := by simp [ivs]
theorem ivs_get {l : List Nat} {i n : Nat} (h : l[i]? = some n) : (ivs l)[i]? = some (.int .i64 (n : Int)) := by simp [ivs, h]
theorem j0_of {body : (World → Prop) → Prop} {k : Env → World → Prop} (I : World → Prop) (hb : ∀ k', (∀ w', I w' → k' w') → body k') (hk : ∀ J w', I w' → k J w') : wJ0 body k :=
  hb _ fun w' h J => hk J w' h
theorem j1_of {body : (Value → World → Prop) → Prop} {k : Env → Value → World → Prop} (I : Value → World → Prop) (hb : ∀ k', (∀ v w', I v w' → k' v w') → body k') (hk : ∀ J v w', I v w' → k J v w') : wJ1 body k :=
  hb _ fun v w' h J => hk J v w' h
theorem j2_of {body : (Value → Value → World → Prop) → Prop} {k : Env → Value → Value → World → Prop} (I : Value → Value → World → Prop) (hb : ∀ k', (∀ u v w', I u v w' → k' u v w') → body k') (hk : ∀ J u v w', I u v w' → k J u v w') : wJ2 body k :=
  hb _ fun u v w' h J => hk J u v w' h
theorem j3_of {body : (Value → Value → Value → World → Prop) → Prop} {k : Env → Value → Value → Value → World → Prop} (I : Value → Value → Value → World → Prop) (hb : ∀ k', (∀ u v x w', I u v x w' → k' u v x w') → body k') (hk : ∀ J u v x w', I u v x w' → k J u v x w') : wJ3 body k :=
  hb _ fun u v x w' h J => hk J u v x w' h
theorem loop_m0 {w0 : World} {step : Env → World → (World → Prop) → Prop} (I : Nat → World → Prop) {n : Nat} (h0 : I n w0)
    (hs : ∀ n J w k, I n w → (∀ n' w', n' < n → I n' w' → k w') → step J w k) : wL0 w0 step :=
  ⟨I, ⟨n, h0⟩, fun n J w hI => hs n J w _ hI fun n' w' hlt h => ⟨n', hlt, h⟩⟩
theorem loop_m1 {w0 : World} {x0 : Value} {step : Env → Value → World → (Value → World → Prop) → Prop} (I : Nat → Value → World → Prop) {n : Nat} (h0 : I n x0 w0)
    (hs : ∀ n J x w k, I n x w → (∀ n' x' w', n' < n → I n' x' w' → k x' w') → step J x w k) : wL1 x0 w0 step :=
  ⟨I, ⟨n, h0⟩, fun n J x w hI => hs n J x w _ hI fun n' x' w' hlt h => ⟨n', hlt, h⟩⟩
theorem loop_m2 {w0 : World} {x0 y0 : Value} {step : Env → Value → Value → World → (Value → Value → World → Prop) → Prop} (I : Nat → Value → Value → World → Prop) {n : Nat} (h0 : I n x0 y0 w0)
    (hs : ∀ n J x y w k, I n x y w → (∀ n' x' y' w', n' < n → I n' x' y' w' → k x' y' w') → step J x y w k) : wL2 x0 y0 w0 step :=
  ⟨I, ⟨n, h0⟩, fun n J x y w hI => hs n J x y w _ hI fun n' x' y' w' hlt h => ⟨n', hlt, h⟩⟩
theorem loop_m3 {w0 : World} {x0 y0 z0 : Value} {step : Env → Value → Value → Value → World → (Value → Value → Value → World → Prop) → Prop} (I : Nat → Value → Value → Value → World → Prop) {n : Nat} (h0 : I n x0 y0 z0 w0)
    (hs : ∀ n J x y z w k, I n x y z w → (∀ n' x' y' z' w', n' < n → I n' x' y' z' w' → k x' y' z' w') → step J x y z w k) : wL3 x0 y0 z0 w0 step :=
  ⟨I, ⟨n, h0⟩, fun n J x y z w hI => hs n J x y z w _ hI fun n' x' y' z' w' hlt h => ⟨n', hlt, h⟩⟩
theorem or_w {b r : Bool} {body : (Value → World → Prop) → Prop} {w : World} {k : Value → World → Prop} (h : b = false → ∀ k', (∀ w', Ex [] w w' → k' (.bool r) w') → body k')
    (hk : ∀ w', Ex [] w w' → k (.bool (b || r)) w') : wGrp (.bool b) false body w fun _ v w => wPick (.bool b) (.bool true) v w k := by
  unfold wGrp
  cases b
  · simp only [if_true]
    exact h rfl _ fun w' hE J => hk w' hE
  · simp only [Bool.true_eq_false, if_false]
    exact fun J => hk w (Ex.refl _ _)
theorem and_w {b r : Bool} {body : (Value → World → Prop) → Prop} {w : World} {k : Value → World → Prop} (h : b = true → ∀ k', (∀ w', Ex [] w w' → k' (.bool r) w') → body k')
    (hk : ∀ w', Ex [] w w' → k (.bool (b && r)) w') : wGrp (.bool b) true body w fun _ v w => wPick (.bool b) v (.bool false) w k := by
  unfold wGrp
  cases b
  · simp only [Bool.false_eq_true, if_false]
    exact fun J => hk w (Ex.refl _ _)
  · simp only [if_true]
    exact h rfl _ fun w' hE J => hk w' hE
theorem ptr_ne_nil {P : Program} {w : World} {K : Value → World → Prop} {t d : TypeId} (ht : P.underlying t = some (.pointer d)) (a : Addr) : wBin P .eql t (.pointer (some a)) (.pointer none) w K = K (.bool false) w := by
  refine bin_eq_of (by simp) (by simp) (by simp) (by simp) (fun _ _ => rfl) (fun w' => ?_)
  unfold Op.equal Op.maxDepth
  rw [Op.equalIn]
  simp only [Sem.run_bind, und_run ht, Result.andThen_ok]
  rfl
theorem nil_eq_nil {P : Program} {w : World} {K : Value → World → Prop} {t d : TypeId} (ht : P.underlying t = some (.pointer d)) : wBin P .eql t (.pointer none) (.pointer none) w K = K (.bool true) w := by
  refine bin_eq_of (by simp) (by simp) (by simp) (by simp) (fun _ _ => rfl) (fun w' => ?_)
  unfold Op.equal Op.maxDepth
  rw [Op.equalIn]
  simp only [Sem.run_bind, und_run ht, Result.andThen_ok]
  rfl
theorem ptr_neq_nil {P : Program} {w : World} {K : Value → World → Prop} {t d : TypeId} (ht : P.underlying t = some (.pointer d)) (a : Addr) : wBin P .neq t (.pointer (some a)) (.pointer none) w K = K (.bool true) w := by
  refine bin_ne_of (b := false) (by simp) (by simp) (by simp) (by simp) (fun _ _ => rfl) (fun w' => ?_)
  unfold Op.equal Op.maxDepth
  rw [Op.equalIn]
  simp only [Sem.run_bind, und_run ht, Result.andThen_ok]
  rfl
theorem nil_neq_nil {P : Program} {w : World} {K : Value → World → Prop} {t d : TypeId} (ht : P.underlying t = some (.pointer d)) : wBin P .neq t (.pointer none) (.pointer none) w K = K (.bool false) w := by
  refine bin_ne_of (b := true) (by simp) (by simp) (by simp) (by simp) (fun _ _ => rfl) (fun w' => ?_)
  unfold Op.equal Op.maxDepth
  rw [Op.equalIn]
  simp only [Sem.run_bind, und_run ht, Result.andThen_ok]
  rfl
theorem Ex.back {S : List Nat} {w w' : World} {b : Nat} {t : TypeId} {cs : List Value} (h : Ex (b :: S) w w') (h1 : Blk w b t cs) (h2 : Blk w' b t cs) : Ex S w w' :=
  ⟨h.os, h.tape, h.output, h.size, fun k hk hn => by
    by_cases e : k = b
    · subst e; unfold Blk at h1 h2; rw [h1, h2]
    · exact h.block k hk (by simp [e, hn])⟩
theorem set_same {α : Type} {cs : List α} {o : Nat} {x : α} (h : cs[o]? = some x) : cs.set o x = cs := by
  obtain ⟨h1, rfl⟩ := List.getElem?_eq_some_iff.1 h
  exact List.set_getElem_self h1
theorem SlG.hi {P : Program} {w : World} {v : Value} {size n : Nat} {xs : List Value} {t : TypeId} {j : Int} {ik : IntKind} {k : Value → World → Prop} (S : SlG w size v xs) (ht : slT P t = some size) (hs : 0 < size) (hn : xs.length = n * size) (h0 : 0 ≤ j) (h1 : j ≤ n)
    (hk : ∀ v', v'.ownBlock = v.ownBlock → SlG w size v' (xs.take (j.toNat * size)) → k v' w) : wSlice P t v none (some (.int ik j)) none w k := by
  obtain ⟨A, m, c, rfl, hl, hc, hr⟩ := S
  have : m = n := Nat.eq_of_mul_eq_mul_right hs (hl.symm.trans hn)
  subst this
  rw [sliceS_hi ht h0 (by omega)]
  refine hk _ ?_ ⟨A, j.toNat, c, rfl, ?_, by omega, fun hne => ?_⟩
  · cases A <;> rfl
  · rw [List.length_take, hl]
    have : j.toNat * size ≤ m * size := Nat.mul_le_mul_right _ (by omega)
    omega
  · obtain ⟨b, o, rfl, hcs⟩ := hr (by omega)
    refine ⟨b, o, rfl, fun i v hv => ?_⟩
    rw [List.getElem?_take] at hv
    split at hv
    · exact hcs i v hv
    · cases hv
/-- What a slice of one's own owns is new, or was its own. -/
theorem Own.newb {w : World} {base size : Nat} {e : TypeId} {v : Value} {xs : List Value} (h : Own w base e size v xs) : ∀ y ∈ v.ownBlock.toList, base ≤ y ∧ y < w.heap.size := by
  intro y hy
  cases hv : v.ownBlock with
  | none => rw [hv] at hy; simp at hy
  | some g =>
    rw [hv] at hy
    simp at hy
    subst hy
    have := h.blk hv
    exact ⟨this.1, this.2.1⟩
end Go.Dn
end
section
/-! Texts of functions, printed by mkg.py. -/
set_option maxRecDepth 100000
set_option linter.unusedVariables false
namespace Go.Dn
open Go Go.Proofs
def F_codec_WriteUses (a0 : Value) (w : World) (k : Value → World → Prop) : Prop :=
  wAlloc P T_api_Sector w fun t2 w =>
  wCall P n_codec_write_LLcodec_Use [(.int .u8 5), a0, (.func (.func n_codec_passUses) #[] #[]), (.func (.func n_codec_mayUses) #[] #[])] w fun t5 w =>
  wExtract P t5 0 w fun t6 w =>
  wExtract P t5 1 w fun t7 w =>
  wStore P T_api_Sector t2 t6 w fun w =>
  wRes P T_api_Sector t2 w fun r2 =>
  k (.tuple #[r2, t7]) w

theorem call_codec_WriteUses (a0 : Value) {w : World} {k : Value → World → Prop} (h : F_codec_WriteUses a0 w k) : wCall P n_codec_WriteUses [a0] w k :=
  call_of_den mixedP Try.func48 (by kernel_rfl) .z (by kernel_rfl) (Eq.mp (by kernel_rfl) h)

def F_codec_ReadUses (a0 : Value) (w : World) (k : Value → World → Prop) : Prop :=
  wBox P T_api_Sector a0 w fun t1 w =>
  wLoad P T_api_Sector t1 w fun t4 w =>
  wCall P n_codec_read_LLcodec_Use [(.int .u8 5), t4, (.func (.func n_codec_passUses) #[] #[]), (.func (.func n_codec_mayUses) #[] #[])] w fun t5 w =>
  wExtract P t5 0 w fun t6 w =>
  wExtract P t5 1 w fun t7 w =>
  k (.tuple #[t6, t7]) w

theorem call_codec_ReadUses (a0 : Value) {w : World} {k : Value → World → Prop} (h : F_codec_ReadUses a0 w k) : wCall P n_codec_ReadUses [a0] w k :=
  call_of_den mixedP Try.func50 (by kernel_rfl) .z (by kernel_rfl) (Eq.mp (by kernel_rfl) h)

def F_codec_WriteInode (a0 : Value) (w : World) (k : Value → World → Prop) : Prop :=
  wBox P T_codec_Inode a0 w fun t1 w =>
  wAlloc P T_api_Sector w fun t2 w =>
  wLoad P T_codec_Inode t1 w fun t4 w =>
  wCall P n_codec_write_codec_Inode [(.int .u8 2), t4, (.func (.func n_codec_passInode) #[] #[]), (.func (.func n_codec_mayInode) #[] #[])] w fun t5 w =>
  wExtract P t5 0 w fun t6 w =>
  wExtract P t5 1 w fun t7 w =>
  wStore P T_api_Sector t2 t6 w fun w =>
  wRes P T_api_Sector t2 w fun r2 =>
  k (.tuple #[r2, t7]) w

theorem call_codec_WriteInode (a0 : Value) {w : World} {k : Value → World → Prop} (h : F_codec_WriteInode a0 w k) : wCall P n_codec_WriteInode [a0] w k :=
  call_of_den mixedP Try.func55 (by kernel_rfl) .z (by kernel_rfl) (Eq.mp (by kernel_rfl) h)

def F_codec_ReadInode (a0 : Value) (w : World) (k : Value → World → Prop) : Prop :=
  wBox P T_api_Sector a0 w fun t1 w =>
  wAlloc P T_codec_Inode w fun t2 w =>
  wLoad P T_api_Sector t1 w fun t4 w =>
  wCall P n_codec_read_codec_Inode [(.int .u8 2), t4, (.func (.func n_codec_passInode) #[] #[]), (.func (.func n_codec_mayInode) #[] #[])] w fun t5 w =>
  wExtract P t5 0 w fun t6 w =>
  wExtract P t5 1 w fun t7 w =>
  wStore P T_codec_Inode t2 t6 w fun w =>
  wRes P T_codec_Inode t2 w fun r2 =>
  k (.tuple #[r2, t7]) w

theorem call_codec_ReadInode (a0 : Value) {w : World} {k : Value → World → Prop} (h : F_codec_ReadInode a0 w k) : wCall P n_codec_ReadInode [a0] w k :=
  call_of_den mixedP Try.func58 (by kernel_rfl) .z (by kernel_rfl) (Eq.mp (by kernel_rfl) h)

def F_codec_WriteHeader (a0 : Value) (w : World) (k : Value → World → Prop) : Prop :=
  wBox P T_codec_Header a0 w fun t1 w =>
  wAlloc P T_api_Sector w fun t2 w =>
  wLoad P T_codec_Header t1 w fun t4 w =>
  wCall P n_codec_write_codec_Header [(.int .u8 6), t4, (.func (.func n_codec_passHeader) #[] #[]), (.func (.func n_codec_mayHeader) #[] #[])] w fun t5 w =>
  wExtract P t5 0 w fun t6 w =>
  wExtract P t5 1 w fun t7 w =>
  wStore P T_api_Sector t2 t6 w fun w =>
  wRes P T_api_Sector t2 w fun r2 =>
  k (.tuple #[r2, t7]) w

theorem call_codec_WriteHeader (a0 : Value) {w : World} {k : Value → World → Prop} (h : F_codec_WriteHeader a0 w k) : wCall P n_codec_WriteHeader [a0] w k :=
  call_of_den mixedP Try.func61 (by kernel_rfl) .z (by kernel_rfl) (Eq.mp (by kernel_rfl) h)

def F_codec_ReadHeader (a0 : Value) (w : World) (k : Value → World → Prop) : Prop :=
  wBox P T_api_Sector a0 w fun t1 w =>
  wAlloc P T_codec_Header w fun t2 w =>
  wLoad P T_api_Sector t1 w fun t4 w =>
  wCall P n_codec_read_codec_Header [(.int .u8 6), t4, (.func (.func n_codec_passHeader) #[] #[]), (.func (.func n_codec_mayHeader) #[] #[])] w fun t5 w =>
  wExtract P t5 0 w fun t6 w =>
  wExtract P t5 1 w fun t7 w =>
  wStore P T_codec_Header t2 t6 w fun w =>
  wRes P T_codec_Header t2 w fun r2 =>
  k (.tuple #[r2, t7]) w

theorem call_codec_ReadHeader (a0 : Value) {w : World} {k : Value → World → Prop} (h : F_codec_ReadHeader a0 w k) : wCall P n_codec_ReadHeader [a0] w k :=
  call_of_den mixedP Try.func63 (by kernel_rfl) .z (by kernel_rfl) (Eq.mp (by kernel_rfl) h)

def F_codec_WritePointers (a0 : Value) (w : World) (k : Value → World → Prop) : Prop :=
  wBox P T_A32int a0 w fun t1 w =>
  wAlloc P T_api_Sector w fun t2 w =>
  wAlloc P T_num_Writer w fun t4 w =>
  wJ0 (fun k1 =>
    wLoad P T_A32int t1 w fun t7 w =>
    wL1 (.int .i64 0) w (fun _ v8 w k2 =>
      wBin P .lss T_int v8 (.int .i64 32) w fun t9 w =>
      wIf t9 (
        wIndex P T_A32int t7 v8 w fun t10 w =>
        wCall P n_codec_among [t10, (.int .i64 0), (.int .i64 65535)] w fun t12 w =>
        wUn P .not t12 w fun t13 w =>
        wIf t13 (
          wBuild P T_api_Sector [] w fun t14 w =>
          wStore P T_api_Sector t2 t14 w fun w =>
          wRes P T_api_Sector t2 w fun r2 =>
          k (.tuple #[r2, (.int .i64 1)]) w) (
          wConv P T_int T_uint64 t10 w fun t16 w =>
          wCall P n_num_Writer_Num [t4, (.int .i64 4), t16] w fun _ w =>
          wBin P .add T_int v8 (.int .i64 1) w fun t18 w =>
          k2 t18 w)) (
        k1 w))) fun _ w =>
  wCall P n_num_Writer_Sector [t4] w fun t19 w =>
  wExtract P t19 0 w fun t20 w =>
  wExtract P t19 1 w fun t21 w =>
  wStore P T_api_Sector t2 t20 w fun w =>
  wRes P T_api_Sector t2 w fun r2 =>
  k (.tuple #[r2, t21]) w

theorem call_codec_WritePointers (a0 : Value) {w : World} {k : Value → World → Prop} (h : F_codec_WritePointers a0 w k) : wCall P n_codec_WritePointers [a0] w k :=
  call_of_den mixedP Try.func65 (by kernel_rfl) (.s .z (.s .z (.j [] [2, 4] (.s .z (.b (.l [8] [2, 4, 7] .z))) .z))) (by kernel_rfl) (Eq.mp (by kernel_rfl) h)

def F_codec_ReadPointers (a0 : Value) (w : World) (k : Value → World → Prop) : Prop :=
  wBox P T_api_Sector a0 w fun t1 w =>
  wAlloc P T_A32int w fun t2 w =>
  wAlloc P T_A32int w fun t4 w =>
  wLoad P T_api_Sector t1 w fun t8 w =>
  wCall P n_num_Read [t8] w fun t9 w =>
  wJ0 (fun k1 =>
    wL1 (.int .i64 0) w (fun _ v10 w k2 =>
      wBin P .lss T_int v10 (.int .i64 32) w fun t11 w =>
      wIf t11 (
        wCall P n_num_Reader_Num [t9, (.int .i64 4)] w fun t14 w =>
        wBin P .geq T_uint64 t14 (.int .u64 65536) w fun t16 w =>
        wIf t16 (
          wBuild P T_A32int [] w fun t17 w =>
          wStore P T_A32int t2 t17 w fun w =>
          wRes P T_A32int t2 w fun r2 =>
          k (.tuple #[r2, (.int .i64 21)]) w) (
          wConv P T_uint64 T_int t14 w fun t20 w =>
          wIndexA P T_A32int t4 v10 w fun t21 w =>
          wStore P T_int t21 t20 w fun w =>
          wBin P .add T_int v10 (.int .i64 1) w fun t22 w =>
          k2 t22 w)) (
        k1 w))) fun _ w =>
  wLoad P T_A32int t4 w fun t23 w =>
  wStore P T_A32int t2 t23 w fun w =>
  wRes P T_A32int t2 w fun r2 =>
  k (.tuple #[r2, (.int .i64 0)]) w

theorem call_codec_ReadPointers (a0 : Value) {w : World} {k : Value → World → Prop} (h : F_codec_ReadPointers a0 w k) : wCall P n_codec_ReadPointers [a0] w k :=
  call_of_den mixedP Try.func67 (by kernel_rfl) (.s .z (.s .z (.s .z (.j [] [2, 4] (.s .z (.b (.l [10] [2, 4, 5] .z))) .z)))) (by kernel_rfl) (Eq.mp (by kernel_rfl) h)

def F_codec_WriteSlots (a0 : Value) (w : World) (k : Value → World → Prop) : Prop :=
  wAlloc P T_api_Sector w fun t2 w =>
  wCall P n_codec_write_LLcodec_Slot [(.int .u8 4), a0, (.func (.func n_codec_passSlots) #[] #[]), (.func (.func n_codec_maySlots) #[] #[])] w fun t5 w =>
  wExtract P t5 0 w fun t6 w =>
  wExtract P t5 1 w fun t7 w =>
  wStore P T_api_Sector t2 t6 w fun w =>
  wRes P T_api_Sector t2 w fun r2 =>
  k (.tuple #[r2, t7]) w

theorem call_codec_WriteSlots (a0 : Value) {w : World} {k : Value → World → Prop} (h : F_codec_WriteSlots a0 w k) : wCall P n_codec_WriteSlots [a0] w k :=
  call_of_den mixedP Try.func74 (by kernel_rfl) .z (by kernel_rfl) (Eq.mp (by kernel_rfl) h)

def F_codec_ReadSlots (a0 : Value) (w : World) (k : Value → World → Prop) : Prop :=
  wBox P T_api_Sector a0 w fun t1 w =>
  wLoad P T_api_Sector t1 w fun t4 w =>
  wCall P n_codec_read_LLcodec_Slot [(.int .u8 4), t4, (.func (.func n_codec_passSlots) #[] #[]), (.func (.func n_codec_maySlots) #[] #[])] w fun t5 w =>
  wExtract P t5 0 w fun t6 w =>
  wExtract P t5 1 w fun t7 w =>
  k (.tuple #[t6, t7]) w

theorem call_codec_ReadSlots (a0 : Value) {w : World} {k : Value → World → Prop} (h : F_codec_ReadSlots a0 w k) : wCall P n_codec_ReadSlots [a0] w k :=
  call_of_den mixedP Try.func76 (by kernel_rfl) .z (by kernel_rfl) (Eq.mp (by kernel_rfl) h)

def F_codec_WriteRecords (a0 : Value) (w : World) (k : Value → World → Prop) : Prop :=
  wAlloc P T_api_Sector w fun t2 w =>
  wCall P n_codec_write_LLcodec_Record [(.int .u8 7), a0, (.func (.func n_codec_passRecords) #[] #[]), (.func (.func n_codec_mayRecords) #[] #[])] w fun t5 w =>
  wExtract P t5 0 w fun t6 w =>
  wExtract P t5 1 w fun t7 w =>
  wStore P T_api_Sector t2 t6 w fun w =>
  wRes P T_api_Sector t2 w fun r2 =>
  k (.tuple #[r2, t7]) w

theorem call_codec_WriteRecords (a0 : Value) {w : World} {k : Value → World → Prop} (h : F_codec_WriteRecords a0 w k) : wCall P n_codec_WriteRecords [a0] w k :=
  call_of_den mixedP Try.func78 (by kernel_rfl) .z (by kernel_rfl) (Eq.mp (by kernel_rfl) h)

def F_codec_ReadRecords (a0 : Value) (w : World) (k : Value → World → Prop) : Prop :=
  wBox P T_api_Sector a0 w fun t1 w =>
  wLoad P T_api_Sector t1 w fun t4 w =>
  wCall P n_codec_read_LLcodec_Record [(.int .u8 7), t4, (.func (.func n_codec_passRecords) #[] #[]), (.func (.func n_codec_mayRecords) #[] #[])] w fun t5 w =>
  wExtract P t5 0 w fun t6 w =>
  wExtract P t5 1 w fun t7 w =>
  k (.tuple #[t6, t7]) w

theorem call_codec_ReadRecords (a0 : Value) {w : World} {k : Value → World → Prop} (h : F_codec_ReadRecords a0 w k) : wCall P n_codec_ReadRecords [a0] w k :=
  call_of_den mixedP Try.func80 (by kernel_rfl) .z (by kernel_rfl) (Eq.mp (by kernel_rfl) h)

def F_codec_WriteSummary (a0 : Value) (w : World) (k : Value → World → Prop) : Prop :=
  wBox P T_codec_Summary a0 w fun t1 w =>
  wAlloc P T_api_Sector w fun t2 w =>
  wLoad P T_codec_Summary t1 w fun t4 w =>
  wCall P n_codec_write_codec_Summary [(.int .u8 3), t4, (.func (.func n_codec_passSummary) #[] #[]), (.func (.func n_codec_maySummary) #[] #[])] w fun t5 w =>
  wExtract P t5 0 w fun t6 w =>
  wExtract P t5 1 w fun t7 w =>
  wStore P T_api_Sector t2 t6 w fun w =>
  wRes P T_api_Sector t2 w fun r2 =>
  k (.tuple #[r2, t7]) w

theorem call_codec_WriteSummary (a0 : Value) {w : World} {k : Value → World → Prop} (h : F_codec_WriteSummary a0 w k) : wCall P n_codec_WriteSummary [a0] w k :=
  call_of_den mixedP Try.func82 (by kernel_rfl) .z (by kernel_rfl) (Eq.mp (by kernel_rfl) h)

def F_codec_ReadSummary (a0 : Value) (w : World) (k : Value → World → Prop) : Prop :=
  wBox P T_api_Sector a0 w fun t1 w =>
  wAlloc P T_codec_Summary w fun t2 w =>
  wLoad P T_api_Sector t1 w fun t9 w =>
  wCall P n_codec_read_codec_Summary [(.int .u8 3), t9, (.func (.func n_codec_passSummary) #[] #[]), (.func (.func n_codec_maySummary) #[] #[])] w fun t10 w =>
  wExtract P t10 0 w fun t11 w =>
  wExtract P t10 1 w fun t12 w =>
  wAlloc P T_codec_Summary w fun t4 w =>
  wStore P T_codec_Summary t4 t11 w fun w =>
  wLoad P T_codec_Summary t4 w fun t14 w =>
  wCall P n_codec_WriteSummary [t14] w fun t15 w =>
  wExtract P t15 0 w fun t16 w =>
  wExtract P t15 1 w fun t17 w =>
  wAlloc P T_api_Sector w fun t6 w =>
  wStore P T_api_Sector t6 t16 w fun w =>
  wBin P .neq T_api_Errno t12 (.int .i64 0) w fun t19 w =>
  wGrp t19 false (fun k22 =>
    wBin P .neq T_api_Errno t17 (.int .i64 0) w fun t22 w =>
    k22 t22 w) w fun _ t22 w =>
  wPick t19 (.bool true) t22 w fun t23 w =>
  wGrp t23 false (fun k27 =>
    wLoad P T_api_Sector t6 w fun t25 w =>
    wLoad P T_api_Sector t1 w fun t26 w =>
    wBin P .neq T_api_Sector t25 t26 w fun t27 w =>
    k27 t27 w) w fun _ t27 w =>
  wPick t23 (.bool true) t27 w fun t28 w =>
  wIf t28 (
    wBuild P T_codec_Summary [] w fun t29 w =>
    wStore P T_codec_Summary t2 t29 w fun w =>
    wRes P T_codec_Summary t2 w fun r2 =>
    k (.tuple #[r2, (.int .i64 21)]) w) (
    wLoad P T_codec_Summary t4 w fun t30 w =>
    wStore P T_codec_Summary t2 t30 w fun w =>
    wRes P T_codec_Summary t2 w fun r2 =>
    k (.tuple #[r2, (.int .i64 0)]) w)

theorem call_codec_ReadSummary (a0 : Value) {w : World} {k : Value → World → Prop} (h : F_codec_ReadSummary a0 w k) : wCall P n_codec_ReadSummary [a0] w k :=
  call_of_den mixedP Try.func85 (by kernel_rfl) (.s .z (.s .z (.s (.s .z (.s (.r (.ops [0, 1, 2] (.grp 2 false 22 [21] (.ops [3, 4] .nil) (.ops [5, 6] (.grp 6 false 27 [25, 26] (.ops [7, 8, 9] .nil) (.ops [10] .nil)))))) .z)) .z))) (by kernel_rfl) (Eq.mp (by kernel_rfl) h)

def F_codec_write_LLcodec_Use (a0 a1 a2 a3 : Value) (w : World) (k : Value → World → Prop) : Prop :=
  wBox P T_Lcodec_Use a1 w fun t5 w =>
  wAlloc P T_api_Sector w fun t8 w =>
  wBuild P T_codec_writer [] w fun t11 w =>
  wBox P T_codec_writer t11 w fun t12 w =>
  wLoad P T_Lcodec_Use t5 w fun t14 w =>
  wCallV P a3 [t14] w fun t15 w =>
  wUn P .not t15 w fun t16 w =>
  wIf t16 (
    wBuild P T_api_Sector [] w fun t17 w =>
    wStore P T_api_Sector t8 t17 w fun w =>
    wRes P T_api_Sector t8 w fun r8 =>
    k (.tuple #[r8, (.int .i64 1)]) w) (
    wIface P T_pcodec_writer t12 w fun t20 w =>
    wCallV P a2 [t20, t5] w fun _ w =>
    wNil P t12 w fun t23 w =>
    wFieldA P T_codec_writer t23 1 w fun t24 w =>
    wLoad P T_bool t24 w fun t25 w =>
    wIf t25 (
      wBuild P T_api_Sector [] w fun t26 w =>
      wStore P T_api_Sector t8 t26 w fun w =>
      wRes P T_api_Sector t8 w fun r8 =>
      k (.tuple #[r8, (.int .i64 1)]) w) (
      wNil P t12 w fun t29 w =>
      wFieldA P T_codec_writer t29 0 w fun t30 w =>
      wLoad P T_Luint8 t30 w fun t31 w =>
      wCall P n_seal_Make [a0, t31] w fun t32 w =>
      wExtract P t32 0 w fun t33 w =>
      wExtract P t32 1 w fun t34 w =>
      wStore P T_api_Sector t8 t33 w fun w =>
      wRes P T_api_Sector t8 w fun r8 =>
      k (.tuple #[r8, t34]) w))

theorem call_codec_write_LLcodec_Use (a0 a1 a2 a3 : Value) {w : World} {k : Value → World → Prop} (h : F_codec_write_LLcodec_Use a0 a1 a2 a3 w k) : wCall P n_codec_write_LLcodec_Use [a0, a1, a2, a3] w k :=
  call_of_den mixedP Try.func151 (by kernel_rfl) .z (by kernel_rfl) (Eq.mp (by kernel_rfl) h)

def F_codec_passUses (a0 a1 : Value) (w : World) (k : Value → World → Prop) : Prop :=
  wCall P n_codec_list_codec_Use [a0, a1, (.func (.func n_codec_passUse) #[] #[])] w fun _ w =>
  k (.tuple #[]) w

theorem call_codec_passUses (a0 a1 : Value) {w : World} {k : Value → World → Prop} (h : F_codec_passUses a0 a1 w k) : wCall P n_codec_passUses [a0, a1] w k :=
  call_of_den mixedP Try.func152 (by kernel_rfl) .z (by kernel_rfl) (Eq.mp (by kernel_rfl) h)

def F_codec_mayUses (a0 : Value) (w : World) (k : Value → World → Prop) : Prop :=
  wCall P n_codec_each_codec_Use [(.int .i64 15), (.func (.func n_codec_mayUses_c1) #[] #[])] w fun t3 w =>
  wCallV P t3 [a0] w fun t5 w =>
  k t5 w

theorem call_codec_mayUses (a0 : Value) {w : World} {k : Value → World → Prop} (h : F_codec_mayUses a0 w k) : wCall P n_codec_mayUses [a0] w k :=
  call_of_den mixedP Try.func153 (by kernel_rfl) .z (by kernel_rfl) (Eq.mp (by kernel_rfl) h)

def F_codec_read_LLcodec_Use (a0 a1 a2 a3 : Value) (w : World) (k : Value → World → Prop) : Prop :=
  wBox P T_api_Sector a1 w fun t5 w =>
  wAlloc P T_Lcodec_Use w fun t10 w =>
  wLoad P T_api_Sector t5 w fun t17 w =>
  wCall P n_seal_Open [t17] w fun t18 w =>
  wExtract P t18 0 w fun t19 w =>
  wExtract P t18 1 w fun t20 w =>
  wExtract P t18 2 w fun t21 w =>
  wBin P .neq T_api_Errno t21 (.int .i64 0) w fun t23 w =>
  wGrp t23 false (fun k27 =>
    wBin P .neq T_uint8 t19 a0 w fun t27 w =>
    k27 t27 w) w fun _ t27 w =>
  wPick t23 (.bool true) t27 w fun t28 w =>
  wIf t28 (
    k (.tuple #[(.slice none 0 0), (.int .i64 21)]) w) (
    wBuild P T_codec_reader [(0, t20)] w fun t31 w =>
    wBox P T_codec_reader t31 w fun t32 w =>
    wIface P T_pcodec_reader t32 w fun t35 w =>
    wCallV P a2 [t35, t10] w fun _ w =>
    wNil P t32 w fun t38 w =>
    wFieldA P T_codec_reader t38 2 w fun t39 w =>
    wLoad P T_bool t39 w fun t40 w =>
    wGrp t40 false (fun k48 =>
      wNil P t32 w fun t43 w =>
      wFieldA P T_codec_reader t43 1 w fun t44 w =>
      wLoad P T_int t44 w fun t45 w =>
      wLen P .len #[T_Luint8] [t20] w fun t47 w =>
      wBin P .neq T_int t45 t47 w fun t48 w =>
      k48 t48 w) w fun _ t48 w =>
    wPick t40 (.bool true) t48 w fun t49 w =>
    wGrp t49 false (fun k54 =>
      wLoad P T_Lcodec_Use t10 w fun t52 w =>
      wCallV P a3 [t52] w fun t53 w =>
      wUn P .not t53 w fun t54 w =>
      k54 t54 w) w fun _ t54 w =>
    wPick t49 (.bool true) t54 w fun t55 w =>
    wIf t55 (
      k (.tuple #[(.slice none 0 0), (.int .i64 21)]) w) (
      wLoad P T_Lcodec_Use t10 w fun t57 w =>
      k (.tuple #[t57, (.int .i64 0)]) w))

theorem call_codec_read_LLcodec_Use (a0 a1 a2 a3 : Value) {w : World} {k : Value → World → Prop} (h : F_codec_read_LLcodec_Use a0 a1 a2 a3 w k) : wCall P n_codec_read_LLcodec_Use [a0, a1, a2, a3] w k :=
  call_of_den mixedP Try.func155 (by kernel_rfl) (.s .z (.s .z (.s .z (.s (.s (.r (.ops [0, 1, 2] (.grp 2 false 27 [25, 26] (.ops [3, 4, 5] .nil) (.ops [6] .nil)))) .z) (.s .z (.s (.s .z (.s (.r (.ops [0, 1, 2, 3, 4] (.grp 4 false 48 [42, 43, 44, 45, 46, 47] (.ops [5, 6, 7, 8, 9, 10, 11] .nil) (.ops [12, 13] (.grp 13 false 54 [51, 52, 53] (.ops [14, 15, 16, 17] .nil) (.ops [18] .nil)))))) .z)) .z)))))) (by kernel_rfl) (Eq.mp (by kernel_rfl) h)

def F_codec_write_codec_Inode (a0 a1 a2 a3 : Value) (w : World) (k : Value → World → Prop) : Prop :=
  wBox P T_codec_Inode a1 w fun t5 w =>
  wAlloc P T_api_Sector w fun t8 w =>
  wBuild P T_codec_writer [] w fun t11 w =>
  wBox P T_codec_writer t11 w fun t12 w =>
  wLoad P T_codec_Inode t5 w fun t14 w =>
  wCallV P a3 [t14] w fun t15 w =>
  wUn P .not t15 w fun t16 w =>
  wIf t16 (
    wBuild P T_api_Sector [] w fun t17 w =>
    wStore P T_api_Sector t8 t17 w fun w =>
    wRes P T_api_Sector t8 w fun r8 =>
    k (.tuple #[r8, (.int .i64 1)]) w) (
    wIface P T_pcodec_writer t12 w fun t20 w =>
    wCallV P a2 [t20, t5] w fun _ w =>
    wNil P t12 w fun t23 w =>
    wFieldA P T_codec_writer t23 1 w fun t24 w =>
    wLoad P T_bool t24 w fun t25 w =>
    wIf t25 (
      wBuild P T_api_Sector [] w fun t26 w =>
      wStore P T_api_Sector t8 t26 w fun w =>
      wRes P T_api_Sector t8 w fun r8 =>
      k (.tuple #[r8, (.int .i64 1)]) w) (
      wNil P t12 w fun t29 w =>
      wFieldA P T_codec_writer t29 0 w fun t30 w =>
      wLoad P T_Luint8 t30 w fun t31 w =>
      wCall P n_seal_Make [a0, t31] w fun t32 w =>
      wExtract P t32 0 w fun t33 w =>
      wExtract P t32 1 w fun t34 w =>
      wStore P T_api_Sector t8 t33 w fun w =>
      wRes P T_api_Sector t8 w fun r8 =>
      k (.tuple #[r8, t34]) w))

theorem call_codec_write_codec_Inode (a0 a1 a2 a3 : Value) {w : World} {k : Value → World → Prop} (h : F_codec_write_codec_Inode a0 a1 a2 a3 w k) : wCall P n_codec_write_codec_Inode [a0, a1, a2, a3] w k :=
  call_of_den mixedP Try.func162 (by kernel_rfl) .z (by kernel_rfl) (Eq.mp (by kernel_rfl) h)

def F_codec_passInode (a0 a1 : Value) (w : World) (k : Value → World → Prop) : Prop :=
  wDraw w fun w =>
  wNil P a1 w fun t7 w =>
  wFieldA P T_codec_Inode t7 0 w fun t8 w =>
  wFunc P (.method "drumlin/codec.word") [a0] [] w fun t9 w =>
  wNil P t9 w fun _ w =>
  wInvoke P a0 "drumlin/codec.word" [(.int .i64 2), t8] w fun _ w =>
  wDraw w fun w =>
  wNil P a1 w fun t15 w =>
  wFieldA P T_codec_Inode t15 1 w fun t16 w =>
  wFunc P (.method "drumlin/codec.word") [a0] [] w fun t17 w =>
  wNil P t17 w fun _ w =>
  wInvoke P a0 "drumlin/codec.word" [(.int .i64 4), t16] w fun _ w =>
  wDraw w fun w =>
  wNil P a1 w fun t23 w =>
  wFieldA P T_codec_Inode t23 2 w fun t24 w =>
  wFunc P (.method "drumlin/codec.int") [a0] [] w fun t25 w =>
  wNil P t25 w fun _ w =>
  wInvoke P a0 "drumlin/codec.int" [(.int .i64 1), t24] w fun _ w =>
  wDraw w fun w =>
  wNil P a1 w fun t31 w =>
  wFieldA P T_codec_Inode t31 3 w fun t32 w =>
  wFunc P (.method "drumlin/codec.int") [a0] [] w fun t33 w =>
  wNil P t33 w fun _ w =>
  wInvoke P a0 "drumlin/codec.int" [(.int .i64 4), t32] w fun _ w =>
  wDraw w fun w =>
  wNil P a1 w fun t39 w =>
  wFieldA P T_codec_Inode t39 4 w fun t40 w =>
  wFunc P (.method "drumlin/codec.word") [a0] [] w fun t41 w =>
  wNil P t41 w fun _ w =>
  wInvoke P a0 "drumlin/codec.word" [(.int .i64 4), t40] w fun _ w =>
  wJ0 (fun k1 =>
    wL1 (.int .i64 0) w (fun _ v45 w k2 =>
      wBin P .lss T_int v45 (.int .i64 8) w fun t46 w =>
      wIf t46 (
        wDraw w fun w =>
        wNil P a1 w fun t51 w =>
        wFieldA P T_codec_Inode t51 5 w fun t52 w =>
        wIndexA P T_A8int t52 v45 w fun t53 w =>
        wFunc P (.method "drumlin/codec.int") [a0] [] w fun t54 w =>
        wNil P t54 w fun _ w =>
        wInvoke P a0 "drumlin/codec.int" [(.int .i64 4), t53] w fun _ w =>
        wBin P .add T_int v45 (.int .i64 1) w fun t58 w =>
        k2 t58 w) (
        k1 w))) fun _ w =>
  wDraw w fun w =>
  wNil P a1 w fun t61 w =>
  wFieldA P T_codec_Inode t61 6 w fun t62 w =>
  wFunc P (.method "drumlin/codec.int") [a0] [] w fun t63 w =>
  wNil P t63 w fun _ w =>
  wInvoke P a0 "drumlin/codec.int" [(.int .i64 4), t62] w fun _ w =>
  wDraw w fun w =>
  wNil P a1 w fun t69 w =>
  wFieldA P T_codec_Inode t69 7 w fun t70 w =>
  wFunc P (.method "drumlin/codec.int") [a0] [] w fun t71 w =>
  wNil P t71 w fun _ w =>
  wInvoke P a0 "drumlin/codec.int" [(.int .i64 4), t70] w fun _ w =>
  k (.tuple #[]) w

theorem call_codec_passInode (a0 a1 : Value) {w : World} {k : Value → World → Prop} (h : F_codec_passInode a0 a1 w k) : wCall P n_codec_passInode [a0, a1] w k :=
  call_of_den mixedP Try.func163 (by kernel_rfl) (.s (.r (.ops [0, 1, 2, 3] (.eff 4 [] (.ops [5, 6] (.eff 7 [] .nil))))) (.s (.r (.ops [0, 1, 2, 3] (.eff 4 [] (.ops [5, 6] (.eff 7 [] .nil))))) (.s (.r (.ops [0, 1, 2, 3] (.eff 4 [] (.ops [5, 6] (.eff 7 [] .nil))))) (.s (.r (.ops [0, 1, 2, 3] (.eff 4 [] (.ops [5, 6] (.eff 7 [] .nil))))) (.s (.r (.ops [0, 1, 2, 3] (.eff 4 [] (.ops [5, 6] (.eff 7 [] .nil))))) (.j [] [0, 1] (.s .z (.b (.l [45] [0, 1] (.s .z (.s .z (.s (.b (.s .z (.r (.ops [0, 1, 2, 3, 4, 5] (.eff 6 [] (.ops [7, 8] (.eff 9 [] .nil))))))) .z)))))) (.s (.r (.ops [0, 1, 2, 3] (.eff 4 [] (.ops [5, 6] (.eff 7 [] .nil))))) (.r (.ops [0, 1, 2, 3] (.eff 4 [] (.ops [5, 6] (.eff 7 [] .nil)))))))))))) (by kernel_rfl) (Eq.mp (by kernel_rfl) h)

def F_codec_mayInode (a0 : Value) (w : World) (k : Value → World → Prop) : Prop :=
  wBox P T_codec_Inode a0 w fun t1 w =>
  wFieldA P T_codec_Inode t1 2 w fun t3 w =>
  wLoad P T_int t3 w fun t4 w =>
  wCall P n_codec_among [t4, (.int .i64 1), (.int .i64 2)] w fun t5 w =>
  k t5 w

theorem call_codec_mayInode (a0 : Value) {w : World} {k : Value → World → Prop} (h : F_codec_mayInode a0 w k) : wCall P n_codec_mayInode [a0] w k :=
  call_of_den mixedP Try.func164 (by kernel_rfl) .z (by kernel_rfl) (Eq.mp (by kernel_rfl) h)

def F_codec_read_codec_Inode (a0 a1 a2 a3 : Value) (w : World) (k : Value → World → Prop) : Prop :=
  wBox P T_api_Sector a1 w fun t5 w =>
  wAlloc P T_codec_Inode w fun t8 w =>
  wAlloc P T_codec_Inode w fun t10 w =>
  wAlloc P T_codec_Inode w fun t11 w =>
  wLoad P T_api_Sector t5 w fun t17 w =>
  wCall P n_seal_Open [t17] w fun t18 w =>
  wExtract P t18 0 w fun t19 w =>
  wExtract P t18 1 w fun t20 w =>
  wExtract P t18 2 w fun t21 w =>
  wBin P .neq T_api_Errno t21 (.int .i64 0) w fun t23 w =>
  wGrp t23 false (fun k27 =>
    wBin P .neq T_uint8 t19 a0 w fun t27 w =>
    k27 t27 w) w fun _ t27 w =>
  wPick t23 (.bool true) t27 w fun t28 w =>
  wIf t28 (
    wLoad P T_codec_Inode t11 w fun t29 w =>
    wStore P T_codec_Inode t8 t29 w fun w =>
    wRes P T_codec_Inode t8 w fun r8 =>
    k (.tuple #[r8, (.int .i64 21)]) w) (
    wBuild P T_codec_reader [(0, t20)] w fun t31 w =>
    wBox P T_codec_reader t31 w fun t32 w =>
    wIface P T_pcodec_reader t32 w fun t35 w =>
    wCallV P a2 [t35, t10] w fun _ w =>
    wNil P t32 w fun t38 w =>
    wFieldA P T_codec_reader t38 2 w fun t39 w =>
    wLoad P T_bool t39 w fun t40 w =>
    wGrp t40 false (fun k48 =>
      wNil P t32 w fun t43 w =>
      wFieldA P T_codec_reader t43 1 w fun t44 w =>
      wLoad P T_int t44 w fun t45 w =>
      wLen P .len #[T_Luint8] [t20] w fun t47 w =>
      wBin P .neq T_int t45 t47 w fun t48 w =>
      k48 t48 w) w fun _ t48 w =>
    wPick t40 (.bool true) t48 w fun t49 w =>
    wGrp t49 false (fun k54 =>
      wLoad P T_codec_Inode t10 w fun t52 w =>
      wCallV P a3 [t52] w fun t53 w =>
      wUn P .not t53 w fun t54 w =>
      k54 t54 w) w fun _ t54 w =>
    wPick t49 (.bool true) t54 w fun t55 w =>
    wIf t55 (
      wLoad P T_codec_Inode t11 w fun t56 w =>
      wStore P T_codec_Inode t8 t56 w fun w =>
      wRes P T_codec_Inode t8 w fun r8 =>
      k (.tuple #[r8, (.int .i64 21)]) w) (
      wLoad P T_codec_Inode t10 w fun t57 w =>
      wStore P T_codec_Inode t8 t57 w fun w =>
      wRes P T_codec_Inode t8 w fun r8 =>
      k (.tuple #[r8, (.int .i64 0)]) w))

theorem call_codec_read_codec_Inode (a0 a1 a2 a3 : Value) {w : World} {k : Value → World → Prop} (h : F_codec_read_codec_Inode a0 a1 a2 a3 w k) : wCall P n_codec_read_codec_Inode [a0, a1, a2, a3] w k :=
  call_of_den mixedP Try.func167 (by kernel_rfl) (.s .z (.s .z (.s .z (.s (.s (.r (.ops [0, 1, 2] (.grp 2 false 27 [25, 26] (.ops [3, 4, 5] .nil) (.ops [6] .nil)))) .z) (.s .z (.s (.s .z (.s (.r (.ops [0, 1, 2, 3, 4] (.grp 4 false 48 [42, 43, 44, 45, 46, 47] (.ops [5, 6, 7, 8, 9, 10, 11] .nil) (.ops [12, 13] (.grp 13 false 54 [51, 52, 53] (.ops [14, 15, 16, 17] .nil) (.ops [18] .nil)))))) .z)) .z)))))) (by kernel_rfl) (Eq.mp (by kernel_rfl) h)

def F_codec_write_codec_Header (a0 a1 a2 a3 : Value) (w : World) (k : Value → World → Prop) : Prop :=
  wBox P T_codec_Header a1 w fun t5 w =>
  wAlloc P T_api_Sector w fun t8 w =>
  wBuild P T_codec_writer [] w fun t11 w =>
  wBox P T_codec_writer t11 w fun t12 w =>
  wLoad P T_codec_Header t5 w fun t14 w =>
  wCallV P a3 [t14] w fun t15 w =>
  wUn P .not t15 w fun t16 w =>
  wIf t16 (
    wBuild P T_api_Sector [] w fun t17 w =>
    wStore P T_api_Sector t8 t17 w fun w =>
    wRes P T_api_Sector t8 w fun r8 =>
    k (.tuple #[r8, (.int .i64 1)]) w) (
    wIface P T_pcodec_writer t12 w fun t20 w =>
    wCallV P a2 [t20, t5] w fun _ w =>
    wNil P t12 w fun t23 w =>
    wFieldA P T_codec_writer t23 1 w fun t24 w =>
    wLoad P T_bool t24 w fun t25 w =>
    wIf t25 (
      wBuild P T_api_Sector [] w fun t26 w =>
      wStore P T_api_Sector t8 t26 w fun w =>
      wRes P T_api_Sector t8 w fun r8 =>
      k (.tuple #[r8, (.int .i64 1)]) w) (
      wNil P t12 w fun t29 w =>
      wFieldA P T_codec_writer t29 0 w fun t30 w =>
      wLoad P T_Luint8 t30 w fun t31 w =>
      wCall P n_seal_Make [a0, t31] w fun t32 w =>
      wExtract P t32 0 w fun t33 w =>
      wExtract P t32 1 w fun t34 w =>
      wStore P T_api_Sector t8 t33 w fun w =>
      wRes P T_api_Sector t8 w fun r8 =>
      k (.tuple #[r8, t34]) w))

theorem call_codec_write_codec_Header (a0 a1 a2 a3 : Value) {w : World} {k : Value → World → Prop} (h : F_codec_write_codec_Header a0 a1 a2 a3 w k) : wCall P n_codec_write_codec_Header [a0, a1, a2, a3] w k :=
  call_of_den mixedP Try.func170 (by kernel_rfl) .z (by kernel_rfl) (Eq.mp (by kernel_rfl) h)

def F_codec_passHeader (a0 a1 : Value) (w : World) (k : Value → World → Prop) : Prop :=
  wDraw w fun w =>
  wNil P a1 w fun t6 w =>
  wFieldA P T_codec_Header t6 0 w fun t7 w =>
  wFunc P (.method "drumlin/codec.wide") [a0] [] w fun t8 w =>
  wNil P t8 w fun _ w =>
  wInvoke P a0 "drumlin/codec.wide" [(.int .i64 8), t7] w fun _ w =>
  wDraw w fun w =>
  wNil P a1 w fun t14 w =>
  wFieldA P T_codec_Header t14 1 w fun t15 w =>
  wFunc P (.method "drumlin/codec.wide") [a0] [] w fun t16 w =>
  wNil P t16 w fun _ w =>
  wInvoke P a0 "drumlin/codec.wide" [(.int .i64 8), t15] w fun _ w =>
  wDraw w fun w =>
  wNil P a1 w fun t22 w =>
  wFieldA P T_codec_Header t22 2 w fun t23 w =>
  wFunc P (.method "drumlin/codec.int") [a0] [] w fun t24 w =>
  wNil P t24 w fun _ w =>
  wInvoke P a0 "drumlin/codec.int" [(.int .i64 2), t23] w fun _ w =>
  wDraw w fun w =>
  wNil P a1 w fun t30 w =>
  wFieldA P T_codec_Header t30 3 w fun t31 w =>
  wFunc P (.method "drumlin/codec.int") [a0] [] w fun t32 w =>
  wNil P t32 w fun _ w =>
  wInvoke P a0 "drumlin/codec.int" [(.int .i64 2), t31] w fun _ w =>
  wDraw w fun w =>
  wNil P a1 w fun t38 w =>
  wFieldA P T_codec_Header t38 4 w fun t39 w =>
  wFunc P (.method "drumlin/codec.int") [a0] [] w fun t40 w =>
  wNil P t40 w fun _ w =>
  wInvoke P a0 "drumlin/codec.int" [(.int .i64 2), t39] w fun _ w =>
  wDraw w fun w =>
  wNil P a1 w fun t46 w =>
  wFieldA P T_codec_Header t46 5 w fun t47 w =>
  wFunc P (.method "drumlin/codec.word") [a0] [] w fun t48 w =>
  wNil P t48 w fun _ w =>
  wInvoke P a0 "drumlin/codec.word" [(.int .i64 4), t47] w fun _ w =>
  k (.tuple #[]) w

theorem call_codec_passHeader (a0 a1 : Value) {w : World} {k : Value → World → Prop} (h : F_codec_passHeader a0 a1 w k) : wCall P n_codec_passHeader [a0, a1] w k :=
  call_of_den mixedP Try.func171 (by kernel_rfl) (.s (.r (.ops [0, 1, 2, 3] (.eff 4 [] (.ops [5, 6] (.eff 7 [] .nil))))) (.s (.r (.ops [0, 1, 2, 3] (.eff 4 [] (.ops [5, 6] (.eff 7 [] .nil))))) (.s (.r (.ops [0, 1, 2, 3] (.eff 4 [] (.ops [5, 6] (.eff 7 [] .nil))))) (.s (.r (.ops [0, 1, 2, 3] (.eff 4 [] (.ops [5, 6] (.eff 7 [] .nil))))) (.s (.r (.ops [0, 1, 2, 3] (.eff 4 [] (.ops [5, 6] (.eff 7 [] .nil))))) (.r (.ops [0, 1, 2, 3] (.eff 4 [] (.ops [5, 6] (.eff 7 [] .nil)))))))))) (by kernel_rfl) (Eq.mp (by kernel_rfl) h)

def F_codec_mayHeader (a0 : Value) (w : World) (k : Value → World → Prop) : Prop :=
  wBox P T_codec_Header a0 w fun _ w =>
  k (.bool true) w

theorem call_codec_mayHeader (a0 : Value) {w : World} {k : Value → World → Prop} (h : F_codec_mayHeader a0 w k) : wCall P n_codec_mayHeader [a0] w k :=
  call_of_den mixedP Try.func172 (by kernel_rfl) .z (by kernel_rfl) (Eq.mp (by kernel_rfl) h)

def F_codec_read_codec_Header (a0 a1 a2 a3 : Value) (w : World) (k : Value → World → Prop) : Prop :=
  wBox P T_api_Sector a1 w fun t5 w =>
  wAlloc P T_codec_Header w fun t8 w =>
  wAlloc P T_codec_Header w fun t10 w =>
  wAlloc P T_codec_Header w fun t11 w =>
  wLoad P T_api_Sector t5 w fun t17 w =>
  wCall P n_seal_Open [t17] w fun t18 w =>
  wExtract P t18 0 w fun t19 w =>
  wExtract P t18 1 w fun t20 w =>
  wExtract P t18 2 w fun t21 w =>
  wBin P .neq T_api_Errno t21 (.int .i64 0) w fun t23 w =>
  wGrp t23 false (fun k27 =>
    wBin P .neq T_uint8 t19 a0 w fun t27 w =>
    k27 t27 w) w fun _ t27 w =>
  wPick t23 (.bool true) t27 w fun t28 w =>
  wIf t28 (
    wLoad P T_codec_Header t11 w fun t29 w =>
    wStore P T_codec_Header t8 t29 w fun w =>
    wRes P T_codec_Header t8 w fun r8 =>
    k (.tuple #[r8, (.int .i64 21)]) w) (
    wBuild P T_codec_reader [(0, t20)] w fun t31 w =>
    wBox P T_codec_reader t31 w fun t32 w =>
    wIface P T_pcodec_reader t32 w fun t35 w =>
    wCallV P a2 [t35, t10] w fun _ w =>
    wNil P t32 w fun t38 w =>
    wFieldA P T_codec_reader t38 2 w fun t39 w =>
    wLoad P T_bool t39 w fun t40 w =>
    wGrp t40 false (fun k48 =>
      wNil P t32 w fun t43 w =>
      wFieldA P T_codec_reader t43 1 w fun t44 w =>
      wLoad P T_int t44 w fun t45 w =>
      wLen P .len #[T_Luint8] [t20] w fun t47 w =>
      wBin P .neq T_int t45 t47 w fun t48 w =>
      k48 t48 w) w fun _ t48 w =>
    wPick t40 (.bool true) t48 w fun t49 w =>
    wGrp t49 false (fun k54 =>
      wLoad P T_codec_Header t10 w fun t52 w =>
      wCallV P a3 [t52] w fun t53 w =>
      wUn P .not t53 w fun t54 w =>
      k54 t54 w) w fun _ t54 w =>
    wPick t49 (.bool true) t54 w fun t55 w =>
    wIf t55 (
      wLoad P T_codec_Header t11 w fun t56 w =>
      wStore P T_codec_Header t8 t56 w fun w =>
      wRes P T_codec_Header t8 w fun r8 =>
      k (.tuple #[r8, (.int .i64 21)]) w) (
      wLoad P T_codec_Header t10 w fun t57 w =>
      wStore P T_codec_Header t8 t57 w fun w =>
      wRes P T_codec_Header t8 w fun r8 =>
      k (.tuple #[r8, (.int .i64 0)]) w))

theorem call_codec_read_codec_Header (a0 a1 a2 a3 : Value) {w : World} {k : Value → World → Prop} (h : F_codec_read_codec_Header a0 a1 a2 a3 w k) : wCall P n_codec_read_codec_Header [a0, a1, a2, a3] w k :=
  call_of_den mixedP Try.func175 (by kernel_rfl) (.s .z (.s .z (.s .z (.s (.s (.r (.ops [0, 1, 2] (.grp 2 false 27 [25, 26] (.ops [3, 4, 5] .nil) (.ops [6] .nil)))) .z) (.s .z (.s (.s .z (.s (.r (.ops [0, 1, 2, 3, 4] (.grp 4 false 48 [42, 43, 44, 45, 46, 47] (.ops [5, 6, 7, 8, 9, 10, 11] .nil) (.ops [12, 13] (.grp 13 false 54 [51, 52, 53] (.ops [14, 15, 16, 17] .nil) (.ops [18] .nil)))))) .z)) .z)))))) (by kernel_rfl) (Eq.mp (by kernel_rfl) h)

def F_codec_among (a0 a1 a2 : Value) (w : World) (k : Value → World → Prop) : Prop :=
  wBin P .geq T_int a0 a1 w fun t9 w =>
  wGrp t9 true (fun k13 =>
    wBin P .leq T_int a0 a2 w fun t13 w =>
    k13 t13 w) w fun _ t13 w =>
  wPick t9 t13 (.bool false) w fun t14 w =>
  k t14 w

theorem call_codec_among (a0 a1 a2 : Value) {w : World} {k : Value → World → Prop} (h : F_codec_among a0 a1 a2 w k) : wCall P n_codec_among [a0, a1, a2] w k :=
  call_of_den mixedP Try.func178 (by kernel_rfl) (.s .z (.s (.r (.ops [0, 1, 2, 3] (.grp 3 true 13 [11, 12] (.ops [4, 5, 6] .nil) (.ops [7, 8] .nil)))) .z)) (by kernel_rfl) (Eq.mp (by kernel_rfl) h)

def F_codec_write_LLcodec_Slot (a0 a1 a2 a3 : Value) (w : World) (k : Value → World → Prop) : Prop :=
  wBox P T_Lcodec_Slot a1 w fun t5 w =>
  wAlloc P T_api_Sector w fun t8 w =>
  wBuild P T_codec_writer [] w fun t11 w =>
  wBox P T_codec_writer t11 w fun t12 w =>
  wLoad P T_Lcodec_Slot t5 w fun t14 w =>
  wCallV P a3 [t14] w fun t15 w =>
  wUn P .not t15 w fun t16 w =>
  wIf t16 (
    wBuild P T_api_Sector [] w fun t17 w =>
    wStore P T_api_Sector t8 t17 w fun w =>
    wRes P T_api_Sector t8 w fun r8 =>
    k (.tuple #[r8, (.int .i64 1)]) w) (
    wIface P T_pcodec_writer t12 w fun t20 w =>
    wCallV P a2 [t20, t5] w fun _ w =>
    wNil P t12 w fun t23 w =>
    wFieldA P T_codec_writer t23 1 w fun t24 w =>
    wLoad P T_bool t24 w fun t25 w =>
    wIf t25 (
      wBuild P T_api_Sector [] w fun t26 w =>
      wStore P T_api_Sector t8 t26 w fun w =>
      wRes P T_api_Sector t8 w fun r8 =>
      k (.tuple #[r8, (.int .i64 1)]) w) (
      wNil P t12 w fun t29 w =>
      wFieldA P T_codec_writer t29 0 w fun t30 w =>
      wLoad P T_Luint8 t30 w fun t31 w =>
      wCall P n_seal_Make [a0, t31] w fun t32 w =>
      wExtract P t32 0 w fun t33 w =>
      wExtract P t32 1 w fun t34 w =>
      wStore P T_api_Sector t8 t33 w fun w =>
      wRes P T_api_Sector t8 w fun r8 =>
      k (.tuple #[r8, t34]) w))

theorem call_codec_write_LLcodec_Slot (a0 a1 a2 a3 : Value) {w : World} {k : Value → World → Prop} (h : F_codec_write_LLcodec_Slot a0 a1 a2 a3 w k) : wCall P n_codec_write_LLcodec_Slot [a0, a1, a2, a3] w k :=
  call_of_den mixedP Try.func183 (by kernel_rfl) .z (by kernel_rfl) (Eq.mp (by kernel_rfl) h)

def F_codec_passSlots (a0 a1 : Value) (w : World) (k : Value → World → Prop) : Prop :=
  wCall P n_codec_list_codec_Slot [a0, a1, (.func (.func n_codec_passSlot) #[] #[])] w fun _ w =>
  k (.tuple #[]) w

theorem call_codec_passSlots (a0 a1 : Value) {w : World} {k : Value → World → Prop} (h : F_codec_passSlots a0 a1 w k) : wCall P n_codec_passSlots [a0, a1] w k :=
  call_of_den mixedP Try.func184 (by kernel_rfl) .z (by kernel_rfl) (Eq.mp (by kernel_rfl) h)

def F_codec_maySlots (a0 : Value) (w : World) (k : Value → World → Prop) : Prop :=
  wCall P n_codec_each_codec_Slot [(.int .i64 10), (.func (.func n_codec_maySlots_c1) #[] #[])] w fun t3 w =>
  wCallV P t3 [a0] w fun t5 w =>
  k t5 w

theorem call_codec_maySlots (a0 : Value) {w : World} {k : Value → World → Prop} (h : F_codec_maySlots a0 w k) : wCall P n_codec_maySlots [a0] w k :=
  call_of_den mixedP Try.func185 (by kernel_rfl) .z (by kernel_rfl) (Eq.mp (by kernel_rfl) h)

def F_codec_read_LLcodec_Slot (a0 a1 a2 a3 : Value) (w : World) (k : Value → World → Prop) : Prop :=
  wBox P T_api_Sector a1 w fun t5 w =>
  wAlloc P T_Lcodec_Slot w fun t10 w =>
  wLoad P T_api_Sector t5 w fun t17 w =>
  wCall P n_seal_Open [t17] w fun t18 w =>
  wExtract P t18 0 w fun t19 w =>
  wExtract P t18 1 w fun t20 w =>
  wExtract P t18 2 w fun t21 w =>
  wBin P .neq T_api_Errno t21 (.int .i64 0) w fun t23 w =>
  wGrp t23 false (fun k27 =>
    wBin P .neq T_uint8 t19 a0 w fun t27 w =>
    k27 t27 w) w fun _ t27 w =>
  wPick t23 (.bool true) t27 w fun t28 w =>
  wIf t28 (
    k (.tuple #[(.slice none 0 0), (.int .i64 21)]) w) (
    wBuild P T_codec_reader [(0, t20)] w fun t31 w =>
    wBox P T_codec_reader t31 w fun t32 w =>
    wIface P T_pcodec_reader t32 w fun t35 w =>
    wCallV P a2 [t35, t10] w fun _ w =>
    wNil P t32 w fun t38 w =>
    wFieldA P T_codec_reader t38 2 w fun t39 w =>
    wLoad P T_bool t39 w fun t40 w =>
    wGrp t40 false (fun k48 =>
      wNil P t32 w fun t43 w =>
      wFieldA P T_codec_reader t43 1 w fun t44 w =>
      wLoad P T_int t44 w fun t45 w =>
      wLen P .len #[T_Luint8] [t20] w fun t47 w =>
      wBin P .neq T_int t45 t47 w fun t48 w =>
      k48 t48 w) w fun _ t48 w =>
    wPick t40 (.bool true) t48 w fun t49 w =>
    wGrp t49 false (fun k54 =>
      wLoad P T_Lcodec_Slot t10 w fun t52 w =>
      wCallV P a3 [t52] w fun t53 w =>
      wUn P .not t53 w fun t54 w =>
      k54 t54 w) w fun _ t54 w =>
    wPick t49 (.bool true) t54 w fun t55 w =>
    wIf t55 (
      k (.tuple #[(.slice none 0 0), (.int .i64 21)]) w) (
      wLoad P T_Lcodec_Slot t10 w fun t57 w =>
      k (.tuple #[t57, (.int .i64 0)]) w))

theorem call_codec_read_LLcodec_Slot (a0 a1 a2 a3 : Value) {w : World} {k : Value → World → Prop} (h : F_codec_read_LLcodec_Slot a0 a1 a2 a3 w k) : wCall P n_codec_read_LLcodec_Slot [a0, a1, a2, a3] w k :=
  call_of_den mixedP Try.func186 (by kernel_rfl) (.s .z (.s .z (.s .z (.s (.s (.r (.ops [0, 1, 2] (.grp 2 false 27 [25, 26] (.ops [3, 4, 5] .nil) (.ops [6] .nil)))) .z) (.s .z (.s (.s .z (.s (.r (.ops [0, 1, 2, 3, 4] (.grp 4 false 48 [42, 43, 44, 45, 46, 47] (.ops [5, 6, 7, 8, 9, 10, 11] .nil) (.ops [12, 13] (.grp 13 false 54 [51, 52, 53] (.ops [14, 15, 16, 17] .nil) (.ops [18] .nil)))))) .z)) .z)))))) (by kernel_rfl) (Eq.mp (by kernel_rfl) h)

def F_codec_write_LLcodec_Record (a0 a1 a2 a3 : Value) (w : World) (k : Value → World → Prop) : Prop :=
  wBox P T_Lcodec_Record a1 w fun t5 w =>
  wAlloc P T_api_Sector w fun t8 w =>
  wBuild P T_codec_writer [] w fun t11 w =>
  wBox P T_codec_writer t11 w fun t12 w =>
  wLoad P T_Lcodec_Record t5 w fun t14 w =>
  wCallV P a3 [t14] w fun t15 w =>
  wUn P .not t15 w fun t16 w =>
  wIf t16 (
    wBuild P T_api_Sector [] w fun t17 w =>
    wStore P T_api_Sector t8 t17 w fun w =>
    wRes P T_api_Sector t8 w fun r8 =>
    k (.tuple #[r8, (.int .i64 1)]) w) (
    wIface P T_pcodec_writer t12 w fun t20 w =>
    wCallV P a2 [t20, t5] w fun _ w =>
    wNil P t12 w fun t23 w =>
    wFieldA P T_codec_writer t23 1 w fun t24 w =>
    wLoad P T_bool t24 w fun t25 w =>
    wIf t25 (
      wBuild P T_api_Sector [] w fun t26 w =>
      wStore P T_api_Sector t8 t26 w fun w =>
      wRes P T_api_Sector t8 w fun r8 =>
      k (.tuple #[r8, (.int .i64 1)]) w) (
      wNil P t12 w fun t29 w =>
      wFieldA P T_codec_writer t29 0 w fun t30 w =>
      wLoad P T_Luint8 t30 w fun t31 w =>
      wCall P n_seal_Make [a0, t31] w fun t32 w =>
      wExtract P t32 0 w fun t33 w =>
      wExtract P t32 1 w fun t34 w =>
      wStore P T_api_Sector t8 t33 w fun w =>
      wRes P T_api_Sector t8 w fun r8 =>
      k (.tuple #[r8, t34]) w))

theorem call_codec_write_LLcodec_Record (a0 a1 a2 a3 : Value) {w : World} {k : Value → World → Prop} (h : F_codec_write_LLcodec_Record a0 a1 a2 a3 w k) : wCall P n_codec_write_LLcodec_Record [a0, a1, a2, a3] w k :=
  call_of_den mixedP Try.func187 (by kernel_rfl) .z (by kernel_rfl) (Eq.mp (by kernel_rfl) h)

def F_codec_passRecords (a0 a1 : Value) (w : World) (k : Value → World → Prop) : Prop :=
  wCall P n_codec_list_codec_Record [a0, a1, (.func (.func n_codec_passRecord) #[] #[])] w fun _ w =>
  k (.tuple #[]) w

theorem call_codec_passRecords (a0 a1 : Value) {w : World} {k : Value → World → Prop} (h : F_codec_passRecords a0 a1 w k) : wCall P n_codec_passRecords [a0, a1] w k :=
  call_of_den mixedP Try.func188 (by kernel_rfl) .z (by kernel_rfl) (Eq.mp (by kernel_rfl) h)

def F_codec_mayRecords (a0 : Value) (w : World) (k : Value → World → Prop) : Prop :=
  wCall P n_codec_each_codec_Record [(.int .i64 13), (.func (.func n_codec_mayRecords_c1) #[] #[])] w fun t3 w =>
  wCallV P t3 [a0] w fun t5 w =>
  k t5 w

theorem call_codec_mayRecords (a0 : Value) {w : World} {k : Value → World → Prop} (h : F_codec_mayRecords a0 w k) : wCall P n_codec_mayRecords [a0] w k :=
  call_of_den mixedP Try.func189 (by kernel_rfl) .z (by kernel_rfl) (Eq.mp (by kernel_rfl) h)

def F_codec_read_LLcodec_Record (a0 a1 a2 a3 : Value) (w : World) (k : Value → World → Prop) : Prop :=
  wBox P T_api_Sector a1 w fun t5 w =>
  wAlloc P T_Lcodec_Record w fun t10 w =>
  wLoad P T_api_Sector t5 w fun t17 w =>
  wCall P n_seal_Open [t17] w fun t18 w =>
  wExtract P t18 0 w fun t19 w =>
  wExtract P t18 1 w fun t20 w =>
  wExtract P t18 2 w fun t21 w =>
  wBin P .neq T_api_Errno t21 (.int .i64 0) w fun t23 w =>
  wGrp t23 false (fun k27 =>
    wBin P .neq T_uint8 t19 a0 w fun t27 w =>
    k27 t27 w) w fun _ t27 w =>
  wPick t23 (.bool true) t27 w fun t28 w =>
  wIf t28 (
    k (.tuple #[(.slice none 0 0), (.int .i64 21)]) w) (
    wBuild P T_codec_reader [(0, t20)] w fun t31 w =>
    wBox P T_codec_reader t31 w fun t32 w =>
    wIface P T_pcodec_reader t32 w fun t35 w =>
    wCallV P a2 [t35, t10] w fun _ w =>
    wNil P t32 w fun t38 w =>
    wFieldA P T_codec_reader t38 2 w fun t39 w =>
    wLoad P T_bool t39 w fun t40 w =>
    wGrp t40 false (fun k48 =>
      wNil P t32 w fun t43 w =>
      wFieldA P T_codec_reader t43 1 w fun t44 w =>
      wLoad P T_int t44 w fun t45 w =>
      wLen P .len #[T_Luint8] [t20] w fun t47 w =>
      wBin P .neq T_int t45 t47 w fun t48 w =>
      k48 t48 w) w fun _ t48 w =>
    wPick t40 (.bool true) t48 w fun t49 w =>
    wGrp t49 false (fun k54 =>
      wLoad P T_Lcodec_Record t10 w fun t52 w =>
      wCallV P a3 [t52] w fun t53 w =>
      wUn P .not t53 w fun t54 w =>
      k54 t54 w) w fun _ t54 w =>
    wPick t49 (.bool true) t54 w fun t55 w =>
    wIf t55 (
      k (.tuple #[(.slice none 0 0), (.int .i64 21)]) w) (
      wLoad P T_Lcodec_Record t10 w fun t57 w =>
      k (.tuple #[t57, (.int .i64 0)]) w))

theorem call_codec_read_LLcodec_Record (a0 a1 a2 a3 : Value) {w : World} {k : Value → World → Prop} (h : F_codec_read_LLcodec_Record a0 a1 a2 a3 w k) : wCall P n_codec_read_LLcodec_Record [a0, a1, a2, a3] w k :=
  call_of_den mixedP Try.func190 (by kernel_rfl) (.s .z (.s .z (.s .z (.s (.s (.r (.ops [0, 1, 2] (.grp 2 false 27 [25, 26] (.ops [3, 4, 5] .nil) (.ops [6] .nil)))) .z) (.s .z (.s (.s .z (.s (.r (.ops [0, 1, 2, 3, 4] (.grp 4 false 48 [42, 43, 44, 45, 46, 47] (.ops [5, 6, 7, 8, 9, 10, 11] .nil) (.ops [12, 13] (.grp 13 false 54 [51, 52, 53] (.ops [14, 15, 16, 17] .nil) (.ops [18] .nil)))))) .z)) .z)))))) (by kernel_rfl) (Eq.mp (by kernel_rfl) h)

def F_codec_write_codec_Summary (a0 a1 a2 a3 : Value) (w : World) (k : Value → World → Prop) : Prop :=
  wBox P T_codec_Summary a1 w fun t5 w =>
  wAlloc P T_api_Sector w fun t8 w =>
  wBuild P T_codec_writer [] w fun t11 w =>
  wBox P T_codec_writer t11 w fun t12 w =>
  wLoad P T_codec_Summary t5 w fun t14 w =>
  wCallV P a3 [t14] w fun t15 w =>
  wUn P .not t15 w fun t16 w =>
  wIf t16 (
    wBuild P T_api_Sector [] w fun t17 w =>
    wStore P T_api_Sector t8 t17 w fun w =>
    wRes P T_api_Sector t8 w fun r8 =>
    k (.tuple #[r8, (.int .i64 1)]) w) (
    wIface P T_pcodec_writer t12 w fun t20 w =>
    wCallV P a2 [t20, t5] w fun _ w =>
    wNil P t12 w fun t23 w =>
    wFieldA P T_codec_writer t23 1 w fun t24 w =>
    wLoad P T_bool t24 w fun t25 w =>
    wIf t25 (
      wBuild P T_api_Sector [] w fun t26 w =>
      wStore P T_api_Sector t8 t26 w fun w =>
      wRes P T_api_Sector t8 w fun r8 =>
      k (.tuple #[r8, (.int .i64 1)]) w) (
      wNil P t12 w fun t29 w =>
      wFieldA P T_codec_writer t29 0 w fun t30 w =>
      wLoad P T_Luint8 t30 w fun t31 w =>
      wCall P n_seal_Make [a0, t31] w fun t32 w =>
      wExtract P t32 0 w fun t33 w =>
      wExtract P t32 1 w fun t34 w =>
      wStore P T_api_Sector t8 t33 w fun w =>
      wRes P T_api_Sector t8 w fun r8 =>
      k (.tuple #[r8, t34]) w))

theorem call_codec_write_codec_Summary (a0 a1 a2 a3 : Value) {w : World} {k : Value → World → Prop} (h : F_codec_write_codec_Summary a0 a1 a2 a3 w k) : wCall P n_codec_write_codec_Summary [a0, a1, a2, a3] w k :=
  call_of_den mixedP Try.func191 (by kernel_rfl) .z (by kernel_rfl) (Eq.mp (by kernel_rfl) h)

def F_codec_passSummary (a0 a1 : Value) (w : World) (k : Value → World → Prop) : Prop :=
  wDraw w fun w =>
  wNil P a1 w fun t7 w =>
  wFieldA P T_codec_Summary t7 0 w fun t8 w =>
  wFunc P (.method "drumlin/codec.wide") [a0] [] w fun t9 w =>
  wNil P t9 w fun _ w =>
  wInvoke P a0 "drumlin/codec.wide" [(.int .i64 8), t8] w fun _ w =>
  wDraw w fun w =>
  wNil P a1 w fun t15 w =>
  wFieldA P T_codec_Summary t15 1 w fun t16 w =>
  wFunc P (.method "drumlin/codec.wide") [a0] [] w fun t17 w =>
  wNil P t17 w fun _ w =>
  wInvoke P a0 "drumlin/codec.wide" [(.int .i64 8), t16] w fun _ w =>
  wNil P a1 w fun t23 w =>
  wFieldA P T_codec_Summary t23 2 w fun t24 w =>
  wCall P n_codec_flag [a0, t24] w fun _ w =>
  wNil P a1 w fun t27 w =>
  wFieldA P T_codec_Summary t27 5 w fun t28 w =>
  wLoad P T_Lcodec_Entry t28 w fun t29 w =>
  wLen P .len #[T_Lcodec_Entry] [t29] w fun t30 w =>
  wAlloc P T_int w fun t4 w =>
  wStore P T_int t4 t30 w fun w =>
  wInvoke P a0 "drumlin/codec.int" [(.int .i64 1), t4] w fun _ w =>
  wDraw w fun w =>
  wNil P a1 w fun t35 w =>
  wFieldA P T_codec_Summary t35 3 w fun t36 w =>
  wFunc P (.method "drumlin/codec.int") [a0] [] w fun t37 w =>
  wNil P t37 w fun _ w =>
  wInvoke P a0 "drumlin/codec.int" [(.int .i64 2), t36] w fun _ w =>
  wDraw w fun w =>
  wNil P a1 w fun t43 w =>
  wFieldA P T_codec_Summary t43 4 w fun t44 w =>
  wFunc P (.method "drumlin/codec.word") [a0] [] w fun t45 w =>
  wNil P t45 w fun _ w =>
  wInvoke P a0 "drumlin/codec.word" [(.int .i64 4), t44] w fun _ w =>
  wNil P a1 w fun t51 w =>
  wFieldA P T_codec_Summary t51 5 w fun t52 w =>
  wCall P n_codec_list_codec_Entry [a0, t52, (.func (.func n_codec_passEntry) #[] #[])] w fun _ w =>
  k (.tuple #[]) w

theorem call_codec_passSummary (a0 a1 : Value) {w : World} {k : Value → World → Prop} (h : F_codec_passSummary a0 a1 w k) : wCall P n_codec_passSummary [a0, a1] w k :=
  call_of_den mixedP Try.func192 (by kernel_rfl) (.s (.r (.ops [0, 1, 2, 3] (.eff 4 [] (.ops [5, 6] (.eff 7 [] .nil))))) (.s (.r (.ops [0, 1, 2, 3] (.eff 4 [] (.ops [5, 6] (.eff 7 [] .nil))))) (.s .z (.s .z (.s .z (.s (.r (.ops [0, 1, 2, 3] (.eff 4 [] (.ops [5, 6] (.eff 7 [] .nil))))) (.s (.r (.ops [0, 1, 2, 3] (.eff 4 [] (.ops [5, 6] (.eff 7 [] .nil))))) .z))))))) (by kernel_rfl) (Eq.mp (by kernel_rfl) h)

def F_codec_maySummary (a0 : Value) (w : World) (k : Value → World → Prop) : Prop :=
  wBox P T_codec_Summary a0 w fun t1 w =>
  wDraw w fun w =>
  wFieldA P T_codec_Summary t1 5 w fun t4 w =>
  wLoad P T_Lcodec_Entry t4 w fun t5 w =>
  wCall P n_codec_each_codec_Entry [(.int .i64 8), (.func (.func n_codec_maySummary_c1) #[] #[])] w fun t3 w =>
  wKeep P [(T_Lcodec_Entry, t4, t5)] w ∧ wCallV P t3 [t5] w fun t6 w =>
  k t6 w

theorem call_codec_maySummary (a0 : Value) {w : World} {k : Value → World → Prop} (h : F_codec_maySummary a0 w k) : wCall P n_codec_maySummary [a0] w k :=
  call_of_den mixedP Try.func193 (by kernel_rfl) (.s .z (.s (.r (.ops [1, 2] (.eff 0 [2] (.eff 3 [] (.ops [4] .nil))))) .z)) (by kernel_rfl) (Eq.mp (by kernel_rfl) h)

def F_codec_read_codec_Summary (a0 a1 a2 a3 : Value) (w : World) (k : Value → World → Prop) : Prop :=
  wBox P T_api_Sector a1 w fun t5 w =>
  wAlloc P T_codec_Summary w fun t8 w =>
  wAlloc P T_codec_Summary w fun t10 w =>
  wAlloc P T_codec_Summary w fun t11 w =>
  wLoad P T_api_Sector t5 w fun t17 w =>
  wCall P n_seal_Open [t17] w fun t18 w =>
  wExtract P t18 0 w fun t19 w =>
  wExtract P t18 1 w fun t20 w =>
  wExtract P t18 2 w fun t21 w =>
  wBin P .neq T_api_Errno t21 (.int .i64 0) w fun t23 w =>
  wGrp t23 false (fun k27 =>
    wBin P .neq T_uint8 t19 a0 w fun t27 w =>
    k27 t27 w) w fun _ t27 w =>
  wPick t23 (.bool true) t27 w fun t28 w =>
  wIf t28 (
    wLoad P T_codec_Summary t11 w fun t29 w =>
    wStore P T_codec_Summary t8 t29 w fun w =>
    wRes P T_codec_Summary t8 w fun r8 =>
    k (.tuple #[r8, (.int .i64 21)]) w) (
    wBuild P T_codec_reader [(0, t20)] w fun t31 w =>
    wBox P T_codec_reader t31 w fun t32 w =>
    wIface P T_pcodec_reader t32 w fun t35 w =>
    wCallV P a2 [t35, t10] w fun _ w =>
    wNil P t32 w fun t38 w =>
    wFieldA P T_codec_reader t38 2 w fun t39 w =>
    wLoad P T_bool t39 w fun t40 w =>
    wGrp t40 false (fun k48 =>
      wNil P t32 w fun t43 w =>
      wFieldA P T_codec_reader t43 1 w fun t44 w =>
      wLoad P T_int t44 w fun t45 w =>
      wLen P .len #[T_Luint8] [t20] w fun t47 w =>
      wBin P .neq T_int t45 t47 w fun t48 w =>
      k48 t48 w) w fun _ t48 w =>
    wPick t40 (.bool true) t48 w fun t49 w =>
    wGrp t49 false (fun k54 =>
      wLoad P T_codec_Summary t10 w fun t52 w =>
      wCallV P a3 [t52] w fun t53 w =>
      wUn P .not t53 w fun t54 w =>
      k54 t54 w) w fun _ t54 w =>
    wPick t49 (.bool true) t54 w fun t55 w =>
    wIf t55 (
      wLoad P T_codec_Summary t11 w fun t56 w =>
      wStore P T_codec_Summary t8 t56 w fun w =>
      wRes P T_codec_Summary t8 w fun r8 =>
      k (.tuple #[r8, (.int .i64 21)]) w) (
      wLoad P T_codec_Summary t10 w fun t57 w =>
      wStore P T_codec_Summary t8 t57 w fun w =>
      wRes P T_codec_Summary t8 w fun r8 =>
      k (.tuple #[r8, (.int .i64 0)]) w))

theorem call_codec_read_codec_Summary (a0 a1 a2 a3 : Value) {w : World} {k : Value → World → Prop} (h : F_codec_read_codec_Summary a0 a1 a2 a3 w k) : wCall P n_codec_read_codec_Summary [a0, a1, a2, a3] w k :=
  call_of_den mixedP Try.func194 (by kernel_rfl) (.s .z (.s .z (.s .z (.s (.s (.r (.ops [0, 1, 2] (.grp 2 false 27 [25, 26] (.ops [3, 4, 5] .nil) (.ops [6] .nil)))) .z) (.s .z (.s (.s .z (.s (.r (.ops [0, 1, 2, 3, 4] (.grp 4 false 48 [42, 43, 44, 45, 46, 47] (.ops [5, 6, 7, 8, 9, 10, 11] .nil) (.ops [12, 13] (.grp 13 false 54 [51, 52, 53] (.ops [14, 15, 16, 17] .nil) (.ops [18] .nil)))))) .z)) .z)))))) (by kernel_rfl) (Eq.mp (by kernel_rfl) h)

def F_codec_list_codec_Use (a0 a1 a2 : Value) (w : World) (k : Value → World → Prop) : Prop :=
  wJ0 (fun k1 =>
    wNil P a1 w fun t9 w =>
    wLoad P T_Lcodec_Use t9 w fun t10 w =>
    wLen P .len #[T_Lcodec_Use] [t10] w fun t11 w =>
    wL1 (.int .i64 0) w (fun _ v12 w k2 =>
      wBin P .lss T_int v12 t11 w fun t13 w =>
      wIf t13 (
        wNil P a1 w fun t18 w =>
        wLoad P T_Lcodec_Use t18 w fun t19 w =>
        wIndexA P T_Lcodec_Use t19 v12 w fun t21 w =>
        wCallV P a2 [a0, t21] w fun _ w =>
        wBin P .add T_int v12 (.int .i64 1) w fun t23 w =>
        k2 t23 w) (
        k1 w))) fun _ w =>
  wL0 w (fun _ w k1 =>
    wInvoke P a0 "drumlin/codec.more" [] w fun t25 w =>
    wIf t25 (
      wAlloc P T_codec_Use w fun t7 w =>
      wCallV P a2 [a0, t7] w fun _ w =>
      wDraw w fun w =>
      wNil P a1 w fun t31 w =>
      wLoad P T_Lcodec_Use t31 w fun t32 w =>
      wLoad P T_codec_Use t7 w fun t33 w =>
      wBuildS P T_Lcodec_Use 1 [(0, t33)] w fun t34 w =>
      wKeep P [(T_Lcodec_Use, t31, t32)] w ∧ wBuiltin P .append #[T_Lcodec_Use, T_Lcodec_Use] [t32, t34] w fun t35 w =>
      wNil P a1 w fun t36 w =>
      wStore P T_Lcodec_Use t36 t35 w fun w =>
      k1 w) (
      k (.tuple #[]) w))

theorem call_codec_list_codec_Use (a0 a1 a2 : Value) {w : World} {k : Value → World → Prop} (h : F_codec_list_codec_Use a0 a1 a2 w k) : wCall P n_codec_list_codec_Use [a0, a1, a2] w k :=
  call_of_den mixedP Try.func236 (by kernel_rfl) (.j [] [0, 1, 2] (.s .z (.b (.l [12] [0, 1, 2, 11] .z))) (.b (.l [] [0, 1, 2] (.s .z (.b (.s .z (.s .z (.r (.ops [0, 1, 2, 3, 4] (.eff 5 [3] (.eff 6 [] (.ops [7] (.eff 8 [] .nil))))))))))))) (by kernel_rfl) (Eq.mp (by kernel_rfl) h)

def F_codec_passUse (a0 a1 : Value) (w : World) (k : Value → World → Prop) : Prop :=
  wDraw w fun w =>
  wNil P a1 w fun t6 w =>
  wFieldA P T_codec_Use t6 0 w fun t7 w =>
  wFunc P (.method "drumlin/codec.int") [a0] [] w fun t8 w =>
  wNil P t8 w fun _ w =>
  wInvoke P a0 "drumlin/codec.int" [(.int .i64 2), t7] w fun _ w =>
  wDraw w fun w =>
  wNil P a1 w fun t14 w =>
  wFieldA P T_codec_Use t14 1 w fun t15 w =>
  wFunc P (.method "drumlin/codec.int") [a0] [] w fun t16 w =>
  wNil P t16 w fun _ w =>
  wInvoke P a0 "drumlin/codec.int" [(.int .i64 1), t15] w fun _ w =>
  wDraw w fun w =>
  wNil P a1 w fun t22 w =>
  wFieldA P T_codec_Use t22 2 w fun t23 w =>
  wFunc P (.method "drumlin/codec.word") [a0] [] w fun t24 w =>
  wNil P t24 w fun _ w =>
  wInvoke P a0 "drumlin/codec.word" [(.int .i64 4), t23] w fun _ w =>
  k (.tuple #[]) w

theorem call_codec_passUse (a0 a1 : Value) {w : World} {k : Value → World → Prop} (h : F_codec_passUse a0 a1 w k) : wCall P n_codec_passUse [a0, a1] w k :=
  call_of_den mixedP Try.func237 (by kernel_rfl) (.s (.r (.ops [0, 1, 2, 3] (.eff 4 [] (.ops [5, 6] (.eff 7 [] .nil))))) (.s (.r (.ops [0, 1, 2, 3] (.eff 4 [] (.ops [5, 6] (.eff 7 [] .nil))))) (.r (.ops [0, 1, 2, 3] (.eff 4 [] (.ops [5, 6] (.eff 7 [] .nil))))))) (by kernel_rfl) (Eq.mp (by kernel_rfl) h)

def F_codec_each_codec_Use (a0 a1 : Value) (w : World) (k : Value → World → Prop) : Prop :=
  wBox P T_int a0 w fun t2 w =>
  wBox P T_func_codec_Use__bool a1 w fun t3 w =>
  wFunc P (.func n_codec_each_codec_Use_c1) [] [t3, t2] w fun t5 w =>
  k t5 w

theorem call_codec_each_codec_Use (a0 a1 : Value) {w : World} {k : Value → World → Prop} (h : F_codec_each_codec_Use a0 a1 w k) : wCall P n_codec_each_codec_Use [a0, a1] w k :=
  call_of_den mixedP Try.func238 (by kernel_rfl) .z (by kernel_rfl) (Eq.mp (by kernel_rfl) h)

def F_codec_mayUses_c1 (a0 : Value) (w : World) (k : Value → World → Prop) : Prop :=
  wBox P T_codec_Use a0 w fun t1 w =>
  wFieldA P T_codec_Use t1 1 w fun t3 w =>
  wLoad P T_int t3 w fun t4 w =>
  wCall P n_codec_among [t4, (.int .i64 0), (.int .i64 3)] w fun t5 w =>
  k t5 w

theorem call_codec_mayUses_c1 (a0 : Value) {w : World} {k : Value → World → Prop} (h : F_codec_mayUses_c1 a0 w k) : wCall P n_codec_mayUses_c1 [a0] w k :=
  call_of_den mixedP Try.func239 (by kernel_rfl) .z (by kernel_rfl) (Eq.mp (by kernel_rfl) h)

def F_codec_list_codec_Slot (a0 a1 a2 : Value) (w : World) (k : Value → World → Prop) : Prop :=
  wJ0 (fun k1 =>
    wNil P a1 w fun t9 w =>
    wLoad P T_Lcodec_Slot t9 w fun t10 w =>
    wLen P .len #[T_Lcodec_Slot] [t10] w fun t11 w =>
    wL1 (.int .i64 0) w (fun _ v12 w k2 =>
      wBin P .lss T_int v12 t11 w fun t13 w =>
      wIf t13 (
        wNil P a1 w fun t18 w =>
        wLoad P T_Lcodec_Slot t18 w fun t19 w =>
        wIndexA P T_Lcodec_Slot t19 v12 w fun t21 w =>
        wCallV P a2 [a0, t21] w fun _ w =>
        wBin P .add T_int v12 (.int .i64 1) w fun t23 w =>
        k2 t23 w) (
        k1 w))) fun _ w =>
  wL0 w (fun _ w k1 =>
    wInvoke P a0 "drumlin/codec.more" [] w fun t25 w =>
    wIf t25 (
      wAlloc P T_codec_Slot w fun t7 w =>
      wCallV P a2 [a0, t7] w fun _ w =>
      wDraw w fun w =>
      wNil P a1 w fun t31 w =>
      wLoad P T_Lcodec_Slot t31 w fun t32 w =>
      wLoad P T_codec_Slot t7 w fun t33 w =>
      wBuildS P T_Lcodec_Slot 1 [(0, t33)] w fun t34 w =>
      wKeep P [(T_Lcodec_Slot, t31, t32)] w ∧ wBuiltin P .append #[T_Lcodec_Slot, T_Lcodec_Slot] [t32, t34] w fun t35 w =>
      wNil P a1 w fun t36 w =>
      wStore P T_Lcodec_Slot t36 t35 w fun w =>
      k1 w) (
      k (.tuple #[]) w))

theorem call_codec_list_codec_Slot (a0 a1 a2 : Value) {w : World} {k : Value → World → Prop} (h : F_codec_list_codec_Slot a0 a1 a2 w k) : wCall P n_codec_list_codec_Slot [a0, a1, a2] w k :=
  call_of_den mixedP Try.func246 (by kernel_rfl) (.j [] [0, 1, 2] (.s .z (.b (.l [12] [0, 1, 2, 11] .z))) (.b (.l [] [0, 1, 2] (.s .z (.b (.s .z (.s .z (.r (.ops [0, 1, 2, 3, 4] (.eff 5 [3] (.eff 6 [] (.ops [7] (.eff 8 [] .nil))))))))))))) (by kernel_rfl) (Eq.mp (by kernel_rfl) h)

def F_codec_passSlot (a0 a1 : Value) (w : World) (k : Value → World → Prop) : Prop :=
  wDraw w fun w =>
  wNil P a1 w fun t6 w =>
  wFieldA P T_codec_Slot t6 0 w fun t7 w =>
  wFunc P (.method "drumlin/codec.int") [a0] [] w fun t8 w =>
  wNil P t8 w fun _ w =>
  wInvoke P a0 "drumlin/codec.int" [(.int .i64 4), t7] w fun _ w =>
  wDraw w fun w =>
  wNil P a1 w fun t14 w =>
  wFieldA P T_codec_Slot t14 1 w fun t15 w =>
  wFunc P (.method "drumlin/codec.word") [a0] [] w fun t16 w =>
  wNil P t16 w fun _ w =>
  wInvoke P a0 "drumlin/codec.word" [(.int .i64 4), t15] w fun _ w =>
  wDraw w fun w =>
  wNil P a1 w fun t22 w =>
  wFieldA P T_codec_Slot t22 2 w fun t23 w =>
  wFunc P (.method "drumlin/codec.int") [a0] [] w fun t24 w =>
  wNil P t24 w fun _ w =>
  wInvoke P a0 "drumlin/codec.int" [(.int .i64 2), t23] w fun _ w =>
  wDraw w fun w =>
  wNil P a1 w fun t30 w =>
  wFieldA P T_codec_Slot t30 3 w fun t31 w =>
  wFunc P (.method "drumlin/codec.int") [a0] [] w fun t32 w =>
  wNil P t32 w fun _ w =>
  wInvoke P a0 "drumlin/codec.int" [(.int .i64 1), t31] w fun _ w =>
  k (.tuple #[]) w

theorem call_codec_passSlot (a0 a1 : Value) {w : World} {k : Value → World → Prop} (h : F_codec_passSlot a0 a1 w k) : wCall P n_codec_passSlot [a0, a1] w k :=
  call_of_den mixedP Try.func247 (by kernel_rfl) (.s (.r (.ops [0, 1, 2, 3] (.eff 4 [] (.ops [5, 6] (.eff 7 [] .nil))))) (.s (.r (.ops [0, 1, 2, 3] (.eff 4 [] (.ops [5, 6] (.eff 7 [] .nil))))) (.s (.r (.ops [0, 1, 2, 3] (.eff 4 [] (.ops [5, 6] (.eff 7 [] .nil))))) (.r (.ops [0, 1, 2, 3] (.eff 4 [] (.ops [5, 6] (.eff 7 [] .nil)))))))) (by kernel_rfl) (Eq.mp (by kernel_rfl) h)

def F_codec_each_codec_Slot (a0 a1 : Value) (w : World) (k : Value → World → Prop) : Prop :=
  wBox P T_int a0 w fun t2 w =>
  wBox P T_func_codec_Slot__bool a1 w fun t3 w =>
  wFunc P (.func n_codec_each_codec_Slot_c1) [] [t3, t2] w fun t5 w =>
  k t5 w

theorem call_codec_each_codec_Slot (a0 a1 : Value) {w : World} {k : Value → World → Prop} (h : F_codec_each_codec_Slot a0 a1 w k) : wCall P n_codec_each_codec_Slot [a0, a1] w k :=
  call_of_den mixedP Try.func248 (by kernel_rfl) .z (by kernel_rfl) (Eq.mp (by kernel_rfl) h)

def F_codec_maySlots_c1 (a0 : Value) (w : World) (k : Value → World → Prop) : Prop :=
  wBox P T_codec_Slot a0 w fun t1 w =>
  wFieldA P T_codec_Slot t1 3 w fun t3 w =>
  wLoad P T_int t3 w fun t4 w =>
  wCall P n_codec_among [t4, (.int .i64 0), (.int .i64 2)] w fun t5 w =>
  k t5 w

theorem call_codec_maySlots_c1 (a0 : Value) {w : World} {k : Value → World → Prop} (h : F_codec_maySlots_c1 a0 w k) : wCall P n_codec_maySlots_c1 [a0] w k :=
  call_of_den mixedP Try.func249 (by kernel_rfl) .z (by kernel_rfl) (Eq.mp (by kernel_rfl) h)

def F_codec_list_codec_Record (a0 a1 a2 : Value) (w : World) (k : Value → World → Prop) : Prop :=
  wJ0 (fun k1 =>
    wNil P a1 w fun t9 w =>
    wLoad P T_Lcodec_Record t9 w fun t10 w =>
    wLen P .len #[T_Lcodec_Record] [t10] w fun t11 w =>
    wL1 (.int .i64 0) w (fun _ v12 w k2 =>
      wBin P .lss T_int v12 t11 w fun t13 w =>
      wIf t13 (
        wNil P a1 w fun t18 w =>
        wLoad P T_Lcodec_Record t18 w fun t19 w =>
        wIndexA P T_Lcodec_Record t19 v12 w fun t21 w =>
        wCallV P a2 [a0, t21] w fun _ w =>
        wBin P .add T_int v12 (.int .i64 1) w fun t23 w =>
        k2 t23 w) (
        k1 w))) fun _ w =>
  wL0 w (fun _ w k1 =>
    wInvoke P a0 "drumlin/codec.more" [] w fun t25 w =>
    wIf t25 (
      wAlloc P T_codec_Record w fun t7 w =>
      wCallV P a2 [a0, t7] w fun _ w =>
      wDraw w fun w =>
      wNil P a1 w fun t31 w =>
      wLoad P T_Lcodec_Record t31 w fun t32 w =>
      wLoad P T_codec_Record t7 w fun t33 w =>
      wBuildS P T_Lcodec_Record 1 [(0, t33)] w fun t34 w =>
      wKeep P [(T_Lcodec_Record, t31, t32)] w ∧ wBuiltin P .append #[T_Lcodec_Record, T_Lcodec_Record] [t32, t34] w fun t35 w =>
      wNil P a1 w fun t36 w =>
      wStore P T_Lcodec_Record t36 t35 w fun w =>
      k1 w) (
      k (.tuple #[]) w))

theorem call_codec_list_codec_Record (a0 a1 a2 : Value) {w : World} {k : Value → World → Prop} (h : F_codec_list_codec_Record a0 a1 a2 w k) : wCall P n_codec_list_codec_Record [a0, a1, a2] w k :=
  call_of_den mixedP Try.func250 (by kernel_rfl) (.j [] [0, 1, 2] (.s .z (.b (.l [12] [0, 1, 2, 11] .z))) (.b (.l [] [0, 1, 2] (.s .z (.b (.s .z (.s .z (.r (.ops [0, 1, 2, 3, 4] (.eff 5 [3] (.eff 6 [] (.ops [7] (.eff 8 [] .nil))))))))))))) (by kernel_rfl) (Eq.mp (by kernel_rfl) h)

def F_codec_passRecord (a0 a1 : Value) (w : World) (k : Value → World → Prop) : Prop :=
  wDraw w fun w =>
  wNil P a1 w fun t6 w =>
  wFieldA P T_codec_Record t6 0 w fun t7 w =>
  wFunc P (.method "drumlin/codec.word") [a0] [] w fun t8 w =>
  wNil P t8 w fun _ w =>
  wInvoke P a0 "drumlin/codec.word" [(.int .i64 2), t7] w fun _ w =>
  wDraw w fun w =>
  wNil P a1 w fun t14 w =>
  wFieldA P T_codec_Record t14 1 w fun t15 w =>
  wFunc P (.method "drumlin/codec.word") [a0] [] w fun t16 w =>
  wNil P t16 w fun _ w =>
  wInvoke P a0 "drumlin/codec.word" [(.int .i64 4), t15] w fun _ w =>
  wDraw w fun w =>
  wNil P a1 w fun t22 w =>
  wFieldA P T_codec_Record t22 2 w fun t23 w =>
  wFunc P (.method "drumlin/codec.int") [a0] [] w fun t24 w =>
  wNil P t24 w fun _ w =>
  wInvoke P a0 "drumlin/codec.int" [(.int .i64 2), t23] w fun _ w =>
  wDraw w fun w =>
  wNil P a1 w fun t30 w =>
  wFieldA P T_codec_Record t30 3 w fun t31 w =>
  wFunc P (.method "drumlin/codec.int") [a0] [] w fun t32 w =>
  wNil P t32 w fun _ w =>
  wInvoke P a0 "drumlin/codec.int" [(.int .i64 1), t31] w fun _ w =>
  k (.tuple #[]) w

theorem call_codec_passRecord (a0 a1 : Value) {w : World} {k : Value → World → Prop} (h : F_codec_passRecord a0 a1 w k) : wCall P n_codec_passRecord [a0, a1] w k :=
  call_of_den mixedP Try.func251 (by kernel_rfl) (.s (.r (.ops [0, 1, 2, 3] (.eff 4 [] (.ops [5, 6] (.eff 7 [] .nil))))) (.s (.r (.ops [0, 1, 2, 3] (.eff 4 [] (.ops [5, 6] (.eff 7 [] .nil))))) (.s (.r (.ops [0, 1, 2, 3] (.eff 4 [] (.ops [5, 6] (.eff 7 [] .nil))))) (.r (.ops [0, 1, 2, 3] (.eff 4 [] (.ops [5, 6] (.eff 7 [] .nil)))))))) (by kernel_rfl) (Eq.mp (by kernel_rfl) h)

def F_codec_each_codec_Record (a0 a1 : Value) (w : World) (k : Value → World → Prop) : Prop :=
  wBox P T_int a0 w fun t2 w =>
  wBox P T_func_codec_Record__bool a1 w fun t3 w =>
  wFunc P (.func n_codec_each_codec_Record_c1) [] [t3, t2] w fun t5 w =>
  k t5 w

theorem call_codec_each_codec_Record (a0 a1 : Value) {w : World} {k : Value → World → Prop} (h : F_codec_each_codec_Record a0 a1 w k) : wCall P n_codec_each_codec_Record [a0, a1] w k :=
  call_of_den mixedP Try.func252 (by kernel_rfl) .z (by kernel_rfl) (Eq.mp (by kernel_rfl) h)

def F_codec_mayRecords_c1 (a0 : Value) (w : World) (k : Value → World → Prop) : Prop :=
  wBox P T_codec_Record a0 w fun t1 w =>
  wFieldA P T_codec_Record t1 3 w fun t3 w =>
  wLoad P T_int t3 w fun t4 w =>
  wCall P n_codec_among [t4, (.int .i64 0), (.int .i64 2)] w fun t5 w =>
  k t5 w

theorem call_codec_mayRecords_c1 (a0 : Value) {w : World} {k : Value → World → Prop} (h : F_codec_mayRecords_c1 a0 w k) : wCall P n_codec_mayRecords_c1 [a0] w k :=
  call_of_den mixedP Try.func253 (by kernel_rfl) .z (by kernel_rfl) (Eq.mp (by kernel_rfl) h)

def F_codec_flag (a0 a1 : Value) (w : World) (k : Value → World → Prop) : Prop :=
  wAlloc P T_int w fun t4 w =>
  wStore P T_int t4 (.int .i64 0) w fun w =>
  wJ0 (fun k1 =>
    wNil P a1 w fun t6 w =>
    wLoad P T_bool t6 w fun t7 w =>
    wIf t7 (
      wStore P T_int t4 (.int .i64 1) w fun w =>
      k1 w) (
      k1 w)) fun _ w =>
  wInvoke P a0 "drumlin/codec.int" [(.int .i64 1), t4] w fun _ w =>
  wLoad P T_int t4 w fun t11 w =>
  wBin P .eql T_int t11 (.int .i64 1) w fun t12 w =>
  wNil P a1 w fun t13 w =>
  wStore P T_bool t13 t12 w fun w =>
  k (.tuple #[]) w

theorem call_codec_flag (a0 a1 : Value) {w : World} {k : Value → World → Prop} (h : F_codec_flag a0 a1 w k) : wCall P n_codec_flag [a0, a1] w k :=
  call_of_den mixedP Try.func254 (by kernel_rfl) (.s .z (.j [] [0, 1, 4] .z .z)) (by kernel_rfl) (Eq.mp (by kernel_rfl) h)

def F_codec_list_codec_Entry (a0 a1 a2 : Value) (w : World) (k : Value → World → Prop) : Prop :=
  wJ0 (fun k1 =>
    wNil P a1 w fun t9 w =>
    wLoad P T_Lcodec_Entry t9 w fun t10 w =>
    wLen P .len #[T_Lcodec_Entry] [t10] w fun t11 w =>
    wL1 (.int .i64 0) w (fun _ v12 w k2 =>
      wBin P .lss T_int v12 t11 w fun t13 w =>
      wIf t13 (
        wNil P a1 w fun t18 w =>
        wLoad P T_Lcodec_Entry t18 w fun t19 w =>
        wIndexA P T_Lcodec_Entry t19 v12 w fun t21 w =>
        wCallV P a2 [a0, t21] w fun _ w =>
        wBin P .add T_int v12 (.int .i64 1) w fun t23 w =>
        k2 t23 w) (
        k1 w))) fun _ w =>
  wL0 w (fun _ w k1 =>
    wInvoke P a0 "drumlin/codec.more" [] w fun t25 w =>
    wIf t25 (
      wAlloc P T_codec_Entry w fun t7 w =>
      wCallV P a2 [a0, t7] w fun _ w =>
      wDraw w fun w =>
      wNil P a1 w fun t31 w =>
      wLoad P T_Lcodec_Entry t31 w fun t32 w =>
      wLoad P T_codec_Entry t7 w fun t33 w =>
      wBuildS P T_Lcodec_Entry 1 [(0, t33)] w fun t34 w =>
      wKeep P [(T_Lcodec_Entry, t31, t32)] w ∧ wBuiltin P .append #[T_Lcodec_Entry, T_Lcodec_Entry] [t32, t34] w fun t35 w =>
      wNil P a1 w fun t36 w =>
      wStore P T_Lcodec_Entry t36 t35 w fun w =>
      k1 w) (
      k (.tuple #[]) w))

theorem call_codec_list_codec_Entry (a0 a1 a2 : Value) {w : World} {k : Value → World → Prop} (h : F_codec_list_codec_Entry a0 a1 a2 w k) : wCall P n_codec_list_codec_Entry [a0, a1, a2] w k :=
  call_of_den mixedP Try.func255 (by kernel_rfl) (.j [] [0, 1, 2] (.s .z (.b (.l [12] [0, 1, 2, 11] .z))) (.b (.l [] [0, 1, 2] (.s .z (.b (.s .z (.s .z (.r (.ops [0, 1, 2, 3, 4] (.eff 5 [3] (.eff 6 [] (.ops [7] (.eff 8 [] .nil))))))))))))) (by kernel_rfl) (Eq.mp (by kernel_rfl) h)

def F_codec_passEntry (a0 a1 : Value) (w : World) (k : Value → World → Prop) : Prop :=
  wDraw w fun w =>
  wNil P a1 w fun t6 w =>
  wFieldA P T_codec_Entry t6 0 w fun t7 w =>
  wFunc P (.method "drumlin/codec.int") [a0] [] w fun t8 w =>
  wNil P t8 w fun _ w =>
  wInvoke P a0 "drumlin/codec.int" [(.int .i64 1), t7] w fun _ w =>
  wDraw w fun w =>
  wNil P a1 w fun t14 w =>
  wFieldA P T_codec_Entry t14 1 w fun t15 w =>
  wFunc P (.method "drumlin/codec.word") [a0] [] w fun t16 w =>
  wNil P t16 w fun _ w =>
  wInvoke P a0 "drumlin/codec.word" [(.int .i64 2), t15] w fun _ w =>
  wDraw w fun w =>
  wNil P a1 w fun t22 w =>
  wFieldA P T_codec_Entry t22 2 w fun t23 w =>
  wFunc P (.method "drumlin/codec.word") [a0] [] w fun t24 w =>
  wNil P t24 w fun _ w =>
  wInvoke P a0 "drumlin/codec.word" [(.int .i64 4), t23] w fun _ w =>
  wDraw w fun w =>
  wNil P a1 w fun t30 w =>
  wFieldA P T_codec_Entry t30 3 w fun t31 w =>
  wFunc P (.method "drumlin/codec.int") [a0] [] w fun t32 w =>
  wNil P t32 w fun _ w =>
  wInvoke P a0 "drumlin/codec.int" [(.int .i64 2), t31] w fun _ w =>
  k (.tuple #[]) w

theorem call_codec_passEntry (a0 a1 : Value) {w : World} {k : Value → World → Prop} (h : F_codec_passEntry a0 a1 w k) : wCall P n_codec_passEntry [a0, a1] w k :=
  call_of_den mixedP Try.func256 (by kernel_rfl) (.s (.r (.ops [0, 1, 2, 3] (.eff 4 [] (.ops [5, 6] (.eff 7 [] .nil))))) (.s (.r (.ops [0, 1, 2, 3] (.eff 4 [] (.ops [5, 6] (.eff 7 [] .nil))))) (.s (.r (.ops [0, 1, 2, 3] (.eff 4 [] (.ops [5, 6] (.eff 7 [] .nil))))) (.r (.ops [0, 1, 2, 3] (.eff 4 [] (.ops [5, 6] (.eff 7 [] .nil)))))))) (by kernel_rfl) (Eq.mp (by kernel_rfl) h)

def F_codec_each_codec_Entry (a0 a1 : Value) (w : World) (k : Value → World → Prop) : Prop :=
  wBox P T_int a0 w fun t2 w =>
  wBox P T_func_codec_Entry__bool a1 w fun t3 w =>
  wFunc P (.func n_codec_each_codec_Entry_c1) [] [t3, t2] w fun t5 w =>
  k t5 w

theorem call_codec_each_codec_Entry (a0 a1 : Value) {w : World} {k : Value → World → Prop} (h : F_codec_each_codec_Entry a0 a1 w k) : wCall P n_codec_each_codec_Entry [a0, a1] w k :=
  call_of_den mixedP Try.func257 (by kernel_rfl) .z (by kernel_rfl) (Eq.mp (by kernel_rfl) h)

def F_codec_maySummary_c1 (a0 : Value) (w : World) (k : Value → World → Prop) : Prop :=
  wBox P T_codec_Entry a0 w fun t1 w =>
  wFieldA P T_codec_Entry t1 0 w fun t3 w =>
  wLoad P T_int t3 w fun t4 w =>
  wCall P n_codec_among [t4, (.int .i64 1), (.int .i64 6)] w fun t5 w =>
  k t5 w

theorem call_codec_maySummary_c1 (a0 : Value) {w : World} {k : Value → World → Prop} (h : F_codec_maySummary_c1 a0 w k) : wCall P n_codec_maySummary_c1 [a0] w k :=
  call_of_den mixedP Try.func258 (by kernel_rfl) .z (by kernel_rfl) (Eq.mp (by kernel_rfl) h)

def F_codec_each_codec_Use_c1 (a0 a1 a2 : Value) (w : World) (k : Value → World → Prop) : Prop :=
  wJ0 (fun k1 =>
    wLen P .len #[T_Lcodec_Use] [a0] w fun t8 w =>
    wL1 (.int .i64 0) w (fun _ v9 w k2 =>
      wBin P .lss T_int v9 t8 w fun t10 w =>
      wIf t10 (
        wIndexA P T_Lcodec_Use a0 v9 w fun t11 w =>
        wLoad P T_codec_Use t11 w fun t12 w =>
        wAlloc P T_codec_Use w fun t6 w =>
        wStore P T_codec_Use t6 t12 w fun w =>
        wLoad P T_func_codec_Use__bool a1 w fun t13 w =>
        wLoad P T_codec_Use t6 w fun t14 w =>
        wCallV P t13 [t14] w fun t15 w =>
        wUn P .not t15 w fun t16 w =>
        wIf t16 (
          k (.bool false) w) (
          wBin P .add T_int v9 (.int .i64 1) w fun t17 w =>
          k2 t17 w)) (
        k1 w))) fun _ w =>
  wLen P .len #[T_Lcodec_Use] [a0] w fun t19 w =>
  wLoad P T_int a2 w fun t20 w =>
  wBin P .leq T_int t19 t20 w fun t21 w =>
  k t21 w

theorem call_codec_each_codec_Use_c1 (a0 a1 a2 : Value) {w : World} {k : Value → World → Prop} (h : F_codec_each_codec_Use_c1 a0 a1 a2 w k) : wCall P n_codec_each_codec_Use_c1 [a0, a1, a2] w k :=
  call_of_den mixedP Try.func280 (by kernel_rfl) (.s .z (.j [] [0, 2] (.s .z (.b (.l [9] [0, 1, 2, 7, 8] .z))) .z)) (by kernel_rfl) (Eq.mp (by kernel_rfl) h)

def F_codec_each_codec_Slot_c1 (a0 a1 a2 : Value) (w : World) (k : Value → World → Prop) : Prop :=
  wJ0 (fun k1 =>
    wLen P .len #[T_Lcodec_Slot] [a0] w fun t8 w =>
    wL1 (.int .i64 0) w (fun _ v9 w k2 =>
      wBin P .lss T_int v9 t8 w fun t10 w =>
      wIf t10 (
        wIndexA P T_Lcodec_Slot a0 v9 w fun t11 w =>
        wLoad P T_codec_Slot t11 w fun t12 w =>
        wAlloc P T_codec_Slot w fun t6 w =>
        wStore P T_codec_Slot t6 t12 w fun w =>
        wLoad P T_func_codec_Slot__bool a1 w fun t13 w =>
        wLoad P T_codec_Slot t6 w fun t14 w =>
        wCallV P t13 [t14] w fun t15 w =>
        wUn P .not t15 w fun t16 w =>
        wIf t16 (
          k (.bool false) w) (
          wBin P .add T_int v9 (.int .i64 1) w fun t17 w =>
          k2 t17 w)) (
        k1 w))) fun _ w =>
  wLen P .len #[T_Lcodec_Slot] [a0] w fun t19 w =>
  wLoad P T_int a2 w fun t20 w =>
  wBin P .leq T_int t19 t20 w fun t21 w =>
  k t21 w

theorem call_codec_each_codec_Slot_c1 (a0 a1 a2 : Value) {w : World} {k : Value → World → Prop} (h : F_codec_each_codec_Slot_c1 a0 a1 a2 w k) : wCall P n_codec_each_codec_Slot_c1 [a0, a1, a2] w k :=
  call_of_den mixedP Try.func285 (by kernel_rfl) (.s .z (.j [] [0, 2] (.s .z (.b (.l [9] [0, 1, 2, 7, 8] .z))) .z)) (by kernel_rfl) (Eq.mp (by kernel_rfl) h)

def F_codec_each_codec_Record_c1 (a0 a1 a2 : Value) (w : World) (k : Value → World → Prop) : Prop :=
  wJ0 (fun k1 =>
    wLen P .len #[T_Lcodec_Record] [a0] w fun t8 w =>
    wL1 (.int .i64 0) w (fun _ v9 w k2 =>
      wBin P .lss T_int v9 t8 w fun t10 w =>
      wIf t10 (
        wIndexA P T_Lcodec_Record a0 v9 w fun t11 w =>
        wLoad P T_codec_Record t11 w fun t12 w =>
        wAlloc P T_codec_Record w fun t6 w =>
        wStore P T_codec_Record t6 t12 w fun w =>
        wLoad P T_func_codec_Record__bool a1 w fun t13 w =>
        wLoad P T_codec_Record t6 w fun t14 w =>
        wCallV P t13 [t14] w fun t15 w =>
        wUn P .not t15 w fun t16 w =>
        wIf t16 (
          k (.bool false) w) (
          wBin P .add T_int v9 (.int .i64 1) w fun t17 w =>
          k2 t17 w)) (
        k1 w))) fun _ w =>
  wLen P .len #[T_Lcodec_Record] [a0] w fun t19 w =>
  wLoad P T_int a2 w fun t20 w =>
  wBin P .leq T_int t19 t20 w fun t21 w =>
  k t21 w

theorem call_codec_each_codec_Record_c1 (a0 a1 a2 : Value) {w : World} {k : Value → World → Prop} (h : F_codec_each_codec_Record_c1 a0 a1 a2 w k) : wCall P n_codec_each_codec_Record_c1 [a0, a1, a2] w k :=
  call_of_den mixedP Try.func286 (by kernel_rfl) (.s .z (.j [] [0, 2] (.s .z (.b (.l [9] [0, 1, 2, 7, 8] .z))) .z)) (by kernel_rfl) (Eq.mp (by kernel_rfl) h)

def F_codec_each_codec_Entry_c1 (a0 a1 a2 : Value) (w : World) (k : Value → World → Prop) : Prop :=
  wJ0 (fun k1 =>
    wLen P .len #[T_Lcodec_Entry] [a0] w fun t8 w =>
    wL1 (.int .i64 0) w (fun _ v9 w k2 =>
      wBin P .lss T_int v9 t8 w fun t10 w =>
      wIf t10 (
        wIndexA P T_Lcodec_Entry a0 v9 w fun t11 w =>
        wLoad P T_codec_Entry t11 w fun t12 w =>
        wAlloc P T_codec_Entry w fun t6 w =>
        wStore P T_codec_Entry t6 t12 w fun w =>
        wLoad P T_func_codec_Entry__bool a1 w fun t13 w =>
        wLoad P T_codec_Entry t6 w fun t14 w =>
        wCallV P t13 [t14] w fun t15 w =>
        wUn P .not t15 w fun t16 w =>
        wIf t16 (
          k (.bool false) w) (
          wBin P .add T_int v9 (.int .i64 1) w fun t17 w =>
          k2 t17 w)) (
        k1 w))) fun _ w =>
  wLen P .len #[T_Lcodec_Entry] [a0] w fun t19 w =>
  wLoad P T_int a2 w fun t20 w =>
  wBin P .leq T_int t19 t20 w fun t21 w =>
  k t21 w

theorem call_codec_each_codec_Entry_c1 (a0 a1 a2 : Value) {w : World} {k : Value → World → Prop} (h : F_codec_each_codec_Entry_c1 a0 a1 a2 w k) : wCall P n_codec_each_codec_Entry_c1 [a0, a1, a2] w k :=
  call_of_den mixedP Try.func287 (by kernel_rfl) (.s .z (.j [] [0, 2] (.s .z (.b (.l [9] [0, 1, 2, 7, 8] .z))) .z)) (by kernel_rfl) (Eq.mp (by kernel_rfl) h)

def F_codec_writer_int (a0 a1 a2 : Value) (w : World) (k : Value → World → Prop) : Prop :=
  wNil P a2 w fun t8 w =>
  wLoad P T_int t8 w fun t9 w =>
  wLen P .max #[T_int, T_int] [t9, (.int .i64 0)] w fun t10 w =>
  wConv P T_int T_uint64 t10 w fun t11 w =>
  wAlloc P T_uint64 w fun t6 w =>
  wStore P T_uint64 t6 t11 w fun w =>
  wNil P a0 w fun t14 w =>
  wFieldA P T_codec_writer t14 1 w fun t15 w =>
  wLoad P T_bool t15 w fun t16 w =>
  wGrp t16 false (fun k21 =>
    wNil P a2 w fun t19 w =>
    wLoad P T_int t19 w fun t20 w =>
    wBin P .lss T_int t20 (.int .i64 0) w fun t21 w =>
    k21 t21 w) w fun _ t21 w =>
  wPick t16 (.bool true) t21 w fun t22 w =>
  wNil P a0 w fun t23 w =>
  wFieldA P T_codec_writer t23 1 w fun t24 w =>
  wStore P T_bool t24 t22 w fun w =>
  wCall P n_codec_writer_wide [a0, a1, t6] w fun _ w =>
  k (.tuple #[]) w

theorem call_codec_writer_int (a0 a1 a2 : Value) {w : World} {k : Value → World → Prop} (h : F_codec_writer_int a0 a1 a2 w k) : wCall P n_codec_writer_int [a0, a1, a2] w k :=
  call_of_den mixedP Try.func315 (by kernel_rfl) (.s .z (.s (.r (.ops [0, 1, 2, 3, 4, 5] (.grp 5 false 21 [18, 19, 20] (.ops [6, 7, 8, 9] .nil) (.ops [10, 11, 12, 13] .nil)))) .z)) (by kernel_rfl) (Eq.mp (by kernel_rfl) h)

def F_codec_writer_more (a0 : Value) (w : World) (k : Value → World → Prop) : Prop :=
  k (.bool false) w

theorem call_codec_writer_more (a0 : Value) {w : World} {k : Value → World → Prop} (h : F_codec_writer_more a0 w k) : wCall P n_codec_writer_more [a0] w k :=
  call_of_den mixedP Try.func316 (by kernel_rfl) .z (by kernel_rfl) (Eq.mp (by kernel_rfl) h)

def F_codec_writer_wide (a0 a1 a2 : Value) (w : World) (k : Value → World → Prop) : Prop :=
  wMake P T_Luint8 a1 a1 w fun t8 w =>
  wJ0 (fun k1 =>
    wNil P a2 w fun t12 w =>
    wLoad P T_uint64 t12 w fun t13 w =>
    wCall P n_num_Put [t8, (.int .i64 0), a1, t13] w fun t14 w =>
    wBin P .neq T_api_Errno t14 (.int .i64 0) w fun t15 w =>
    wIf t15 (
      wNil P a0 w fun t17 w =>
      wFieldA P T_codec_writer t17 1 w fun t18 w =>
      wStore P T_bool t18 (.bool true) w fun w =>
      k1 w) (
      k1 w)) fun _ w =>
  wNil P a0 w fun t21 w =>
  wFieldA P T_codec_writer t21 0 w fun t22 w =>
  wLoad P T_Luint8 t22 w fun t23 w =>
  wBuiltin P .append #[T_Luint8, T_Luint8] [t23, t8] w fun t25 w =>
  wNil P a0 w fun t26 w =>
  wFieldA P T_codec_writer t26 0 w fun t27 w =>
  wStore P T_Luint8 t27 t25 w fun w =>
  k (.tuple #[]) w

theorem call_codec_writer_wide (a0 a1 a2 : Value) {w : World} {k : Value → World → Prop} (h : F_codec_writer_wide a0 a1 a2 w k) : wCall P n_codec_writer_wide [a0, a1, a2] w k :=
  call_of_den mixedP Try.func317 (by kernel_rfl) (.s .z (.j [] [0, 6] .z .z)) (by kernel_rfl) (Eq.mp (by kernel_rfl) h)

def F_codec_writer_word (a0 a1 a2 : Value) (w : World) (k : Value → World → Prop) : Prop :=
  wNil P a2 w fun t8 w =>
  wLoad P T_uint32 t8 w fun t9 w =>
  wConv P T_uint32 T_uint64 t9 w fun t10 w =>
  wAlloc P T_uint64 w fun t6 w =>
  wStore P T_uint64 t6 t10 w fun w =>
  wCall P n_codec_writer_wide [a0, a1, t6] w fun _ w =>
  k (.tuple #[]) w

theorem call_codec_writer_word (a0 a1 a2 : Value) {w : World} {k : Value → World → Prop} (h : F_codec_writer_word a0 a1 a2 w k) : wCall P n_codec_writer_word [a0, a1, a2] w k :=
  call_of_den mixedP Try.func318 (by kernel_rfl) .z (by kernel_rfl) (Eq.mp (by kernel_rfl) h)

def F_codec_reader_int (a0 a1 a2 : Value) (w : World) (k : Value → World → Prop) : Prop :=
  wAlloc P T_uint64 w fun t6 w =>
  wCall P n_codec_reader_wide [a0, a1, t6] w fun _ w =>
  wLoad P T_uint64 t6 w fun t11 w =>
  wConv P T_uint64 T_int t11 w fun t12 w =>
  wNil P a2 w fun t13 w =>
  wStore P T_int t13 t12 w fun w =>
  k (.tuple #[]) w

theorem call_codec_reader_int (a0 a1 a2 : Value) {w : World} {k : Value → World → Prop} (h : F_codec_reader_int a0 a1 a2 w k) : wCall P n_codec_reader_int [a0, a1, a2] w k :=
  call_of_den mixedP Try.func319 (by kernel_rfl) .z (by kernel_rfl) (Eq.mp (by kernel_rfl) h)

def F_codec_reader_more (a0 : Value) (w : World) (k : Value → World → Prop) : Prop :=
  wDraw w fun w =>
  wNil P a0 w fun t4 w =>
  wFieldA P T_codec_reader t4 2 w fun t5 w =>
  wLoad P T_bool t5 w fun t6 w =>
  wUn P .not t6 w fun t7 w =>
  wGrp t7 true (fun k18 =>
    wNil P a0 w fun t10 w =>
    wFieldA P T_codec_reader t10 1 w fun t11 w =>
    wLoad P T_int t11 w fun t12 w =>
    wNil P a0 w fun t14 w =>
    wFieldA P T_codec_reader t14 0 w fun t15 w =>
    wLoad P T_Luint8 t15 w fun t16 w =>
    wLen P .len #[T_Luint8] [t16] w fun t17 w =>
    wBin P .lss T_int t12 t17 w fun t18 w =>
    k18 t18 w) w fun _ t18 w =>
  wPick t7 t18 (.bool false) w fun t19 w =>
  k t19 w

theorem call_codec_reader_more (a0 : Value) {w : World} {k : Value → World → Prop} (h : F_codec_reader_more a0 w k) : wCall P n_codec_reader_more [a0] w k :=
  call_of_den mixedP Try.func320 (by kernel_rfl) (.s .z (.s (.r (.ops [0, 1, 2, 3, 4, 5] (.grp 5 true 18 [9, 10, 11, 12, 13, 14, 15, 16, 17] (.ops [6, 7, 8, 9, 10, 11, 12, 13, 14, 15] .nil) (.ops [16, 17] .nil)))) .z)) (by kernel_rfl) (Eq.mp (by kernel_rfl) h)

def F_codec_reader_wide (a0 a1 a2 : Value) (w : World) (k : Value → World → Prop) : Prop :=
  wDraw w fun w =>
  wNil P a0 w fun t10 w =>
  wFieldA P T_codec_reader t10 0 w fun t11 w =>
  wLoad P T_Luint8 t11 w fun t12 w =>
  wNil P a0 w fun t14 w =>
  wFieldA P T_codec_reader t14 1 w fun t15 w =>
  wLoad P T_int t15 w fun t16 w =>
  wCall P n_num_Get [t12, t16, a1] w fun t18 w =>
  wExtract P t18 0 w fun t19 w =>
  wExtract P t18 1 w fun t20 w =>
  wNil P a2 w fun t23 w =>
  wStore P T_uint64 t23 t19 w fun w =>
  wNil P a0 w fun t26 w =>
  wFieldA P T_codec_reader t26 2 w fun t27 w =>
  wLoad P T_bool t27 w fun t28 w =>
  wGrp t28 false (fun k31 =>
    wBin P .neq T_api_Errno t20 (.int .i64 0) w fun t31 w =>
    k31 t31 w) w fun _ t31 w =>
  wPick t28 (.bool true) t31 w fun t32 w =>
  wNil P a0 w fun t33 w =>
  wFieldA P T_codec_reader t33 2 w fun t34 w =>
  wStore P T_bool t34 t32 w fun w =>
  wNil P a0 w fun t36 w =>
  wFieldA P T_codec_reader t36 1 w fun t37 w =>
  wLoad P T_int t37 w fun t38 w =>
  wBin P .add T_int t38 a1 w fun t40 w =>
  wNil P a0 w fun t41 w =>
  wFieldA P T_codec_reader t41 1 w fun t42 w =>
  wStore P T_int t42 t40 w fun w =>
  k (.tuple #[]) w

theorem call_codec_reader_wide (a0 a1 a2 : Value) {w : World} {k : Value → World → Prop} (h : F_codec_reader_wide a0 a1 a2 w k) : wCall P n_codec_reader_wide [a0, a1, a2] w k :=
  call_of_den mixedP Try.func321 (by kernel_rfl) (.s (.r (.ops [0, 1, 2, 3, 4, 5, 6, 7, 8] (.eff 9 [] (.ops [10, 11, 12, 13, 14] .nil)))) (.s .z (.s (.r (.ops [0, 1, 2, 3, 4, 5] (.grp 5 false 31 [30] (.ops [6, 7] .nil) (.ops [8, 9, 10, 11] .nil)))) .z))) (by kernel_rfl) (Eq.mp (by kernel_rfl) h)

def F_codec_reader_word (a0 a1 a2 : Value) (w : World) (k : Value → World → Prop) : Prop :=
  wAlloc P T_uint64 w fun t6 w =>
  wCall P n_codec_reader_wide [a0, a1, t6] w fun _ w =>
  wLoad P T_uint64 t6 w fun t11 w =>
  wConv P T_uint64 T_uint32 t11 w fun t12 w =>
  wNil P a2 w fun t13 w =>
  wStore P T_uint32 t13 t12 w fun w =>
  k (.tuple #[]) w

theorem call_codec_reader_word (a0 a1 a2 : Value) {w : World} {k : Value → World → Prop} (h : F_codec_reader_word a0 a1 a2 w k) : wCall P n_codec_reader_word [a0, a1, a2] w k :=
  call_of_den mixedP Try.func322 (by kernel_rfl) .z (by kernel_rfl) (Eq.mp (by kernel_rfl) h)

end Go.Dn
end
section
/-! Texts of functions, printed by mkg.py. -/
set_option maxRecDepth 100000
set_option linter.unusedVariables false
namespace Go.Dn
open Go Go.Proofs
def F_num_Writer_Num (a0 a1 a2 : Value) (w : World) (k : Value → World → Prop) : Prop :=
  wJ0 (fun k1 =>
    wNil P a0 w fun t7 w =>
    wFieldA P T_num_Writer t7 2 w fun t8 w =>
    wLoad P T_api_Errno t8 w fun t9 w =>
    wBin P .eql T_api_Errno t9 (.int .i64 0) w fun t10 w =>
    wIf t10 (
      wDraw w fun w =>
      wNil P a0 w fun t13 w =>
      wFieldA P T_num_Writer t13 0 w fun t14 w =>
      wSlice P T_api_Sector t14 none none none w fun t15 w =>
      wNil P a0 w fun t17 w =>
      wFieldA P T_num_Writer t17 1 w fun t18 w =>
      wLoad P T_int t18 w fun t19 w =>
      wCall P n_num_Put [t15, t19, a1, a2] w fun t22 w =>
      wNil P a0 w fun t23 w =>
      wFieldA P T_num_Writer t23 2 w fun t24 w =>
      wStore P T_api_Errno t24 t22 w fun w =>
      k1 w) (
      k1 w)) fun _ w =>
  wNil P a0 w fun t26 w =>
  wFieldA P T_num_Writer t26 2 w fun t27 w =>
  wLoad P T_api_Errno t27 w fun t28 w =>
  wBin P .eql T_api_Errno t28 (.int .i64 0) w fun t29 w =>
  wIf t29 (
    wNil P a0 w fun t31 w =>
    wFieldA P T_num_Writer t31 1 w fun t32 w =>
    wLoad P T_int t32 w fun t33 w =>
    wBin P .add T_int t33 a1 w fun t35 w =>
    wNil P a0 w fun t36 w =>
    wFieldA P T_num_Writer t36 1 w fun t37 w =>
    wStore P T_int t37 t35 w fun w =>
    k (.tuple #[]) w) (
    k (.tuple #[]) w)

theorem call_num_Writer_Num (a0 a1 a2 : Value) {w : World} {k : Value → World → Prop} (h : F_num_Writer_Num a0 a1 a2 w k) : wCall P n_num_Writer_Num [a0, a1, a2] w k :=
  call_of_den mixedP Try.func179 (by kernel_rfl) (.j [] [0, 1] (.s .z (.s (.r (.ops [0, 1, 2, 3, 4, 5, 6, 7, 8, 9, 10] (.eff 11 [] (.ops [12, 13] (.eff 14 [] .nil))))) .z)) .z) (by kernel_rfl) (Eq.mp (by kernel_rfl) h)

def F_num_Writer_Sector (a0 : Value) (w : World) (k : Value → World → Prop) : Prop :=
  wAlloc P T_api_Sector w fun t2 w =>
  wNil P a0 w fun t5 w =>
  wFieldA P T_num_Writer t5 2 w fun t6 w =>
  wLoad P T_api_Errno t6 w fun t7 w =>
  wBin P .neq T_api_Errno t7 (.int .i64 0) w fun t8 w =>
  wIf t8 (
    wDraw w fun w =>
    wBuild P T_api_Sector [] w fun t9 w =>
    wNil P a0 w fun t11 w =>
    wFieldA P T_num_Writer t11 2 w fun t12 w =>
    wLoad P T_api_Errno t12 w fun t13 w =>
    wStore P T_api_Sector t2 t9 w fun w =>
    wKeep P [(T_api_Errno, t12, t13)] w ∧ wRes P T_api_Sector t2 w fun r2 =>
    k (.tuple #[r2, t13]) w) (
    wNil P a0 w fun t15 w =>
    wFieldA P T_num_Writer t15 0 w fun t16 w =>
    wLoad P T_api_Sector t16 w fun t17 w =>
    wStore P T_api_Sector t2 t17 w fun w =>
    wRes P T_api_Sector t2 w fun r2 =>
    k (.tuple #[r2, (.int .i64 0)]) w)

theorem call_num_Writer_Sector (a0 : Value) {w : World} {k : Value → World → Prop} (h : F_num_Writer_Sector a0 w k) : wCall P n_num_Writer_Sector [a0] w k :=
  call_of_den mixedP Try.func180 (by kernel_rfl) (.s .z (.s (.s .z (.s (.s (.r (.ops [0, 1, 2, 3, 4] (.eff 5 [4] (.ops [6] .nil)))) .z) .z)) .z)) (by kernel_rfl) (Eq.mp (by kernel_rfl) h)

def F_num_Read (a0 : Value) (w : World) (k : Value → World → Prop) : Prop :=
  wBox P T_api_Sector a0 w fun t1 w =>
  wLoad P T_api_Sector t1 w fun t3 w =>
  wBuild P T_num_Reader [(0, t3)] w fun t4 w =>
  wBox P T_num_Reader t4 w fun t5 w =>
  k t5 w

theorem call_num_Read (a0 : Value) {w : World} {k : Value → World → Prop} (h : F_num_Read a0 w k) : wCall P n_num_Read [a0] w k :=
  call_of_den mixedP Try.func181 (by kernel_rfl) .z (by kernel_rfl) (Eq.mp (by kernel_rfl) h)

def F_num_Reader_Num (a0 a1 : Value) (w : World) (k : Value → World → Prop) : Prop :=
  wNil P a0 w fun t8 w =>
  wFieldA P T_num_Reader t8 2 w fun t9 w =>
  wLoad P T_api_Errno t9 w fun t10 w =>
  wBin P .neq T_api_Errno t10 (.int .i64 0) w fun t11 w =>
  wIf t11 (
    k (.int .u64 0) w) (
    wDraw w fun w =>
    wNil P a0 w fun t14 w =>
    wFieldA P T_num_Reader t14 0 w fun t15 w =>
    wSlice P T_api_Sector t15 none none none w fun t16 w =>
    wNil P a0 w fun t18 w =>
    wFieldA P T_num_Reader t18 1 w fun t19 w =>
    wLoad P T_int t19 w fun t20 w =>
    wCall P n_num_Get [t16, t20, a1] w fun t22 w =>
    wExtract P t22 0 w fun t23 w =>
    wExtract P t22 1 w fun t24 w =>
    wNil P a0 w fun t27 w =>
    wFieldA P T_num_Reader t27 2 w fun t28 w =>
    wStore P T_api_Errno t28 t24 w fun w =>
    wBin P .eql T_api_Errno t24 (.int .i64 0) w fun t30 w =>
    wIf t30 (
      wNil P a0 w fun t32 w =>
      wFieldA P T_num_Reader t32 1 w fun t33 w =>
      wLoad P T_int t33 w fun t34 w =>
      wBin P .add T_int t34 a1 w fun t36 w =>
      wNil P a0 w fun t37 w =>
      wFieldA P T_num_Reader t37 1 w fun t38 w =>
      wStore P T_int t38 t36 w fun w =>
      k t23 w) (
      k t23 w))

theorem call_num_Reader_Num (a0 a1 : Value) {w : World} {k : Value → World → Prop} (h : F_num_Reader_Num a0 a1 w k) : wCall P n_num_Reader_Num [a0, a1] w k :=
  call_of_den mixedP Try.func182 (by kernel_rfl) (.s .z (.s .z (.s (.r (.ops [0, 1, 2, 3, 4, 5, 6, 7, 8] (.eff 9 [] (.ops [10, 11, 12, 13, 14] .nil)))) .z))) (by kernel_rfl) (Eq.mp (by kernel_rfl) h)

def F_num_Put (a0 a1 a2 a3 : Value) (w : World) (k : Value → World → Prop) : Prop :=
  wCall P n_num_fits [a0, a1, a2] w fun t13 w =>
  wUn P .not t13 w fun t14 w =>
  wGrp t14 false (fun k24 =>
    wBin P .lss T_int a2 (.int .i64 8) w fun t17 w =>
    wGrp t17 true (fun k23 =>
      wBin P .mul T_int (.int .i64 8) a2 w fun t21 w =>
      wBin P .shr T_uint64 a3 t21 w fun t22 w =>
      wBin P .neq T_uint64 t22 (.int .u64 0) w fun t23 w =>
      k23 t23 w) w fun _ t23 w =>
    wPick t17 t23 (.bool false) w fun t24 w =>
    k24 t24 w) w fun _ t24 w =>
  wPick t14 (.bool true) t24 w fun t25 w =>
  wIf t25 (
    k (.int .i64 1) w) (
    wL1 (.int .i64 0) w (fun _ v27 w k2 =>
      wBin P .lss T_int v27 a2 w fun t28 w =>
      wIf t28 (
        wBin P .add T_int a1 v27 w fun t33 w =>
        wBin P .mul T_int (.int .i64 8) v27 w fun t36 w =>
        wBin P .shr T_uint64 a3 t36 w fun t37 w =>
        wConv P T_uint64 T_uint8 t37 w fun t38 w =>
        wIndexA P T_Luint8 a0 t33 w fun t39 w =>
        wStore P T_uint8 t39 t38 w fun w =>
        wBin P .add T_int v27 (.int .i64 1) w fun t40 w =>
        k2 t40 w) (
        k (.int .i64 0) w)))

theorem call_num_Put (a0 a1 a2 a3 : Value) {w : World} {k : Value → World → Prop} (h : F_num_Put a0 a1 a2 a3 w k) : wCall P n_num_Put [a0, a1, a2, a3] w k :=
  call_of_den mixedP Try.func244 (by kernel_rfl) (.s .z (.s (.s (.r (.ops [0, 1, 2, 3, 4, 5] (.grp 5 false 24 [16, 17, 18, 19, 20, 21, 22, 23] (.ops [6, 7, 8] (.grp 8 true 23 [19, 20, 21, 22] (.ops [9, 10, 11, 12, 13] .nil) (.ops [14] .nil))) (.ops [15] .nil)))) .z) (.s (.s .z (.b (.l [27] [0, 1, 3, 26] .z))) .z))) (by kernel_rfl) (Eq.mp (by kernel_rfl) h)

def F_num_Get (a0 a1 a2 : Value) (w : World) (k : Value → World → Prop) : Prop :=
  wCall P n_num_fits [a0, a1, a2] w fun t13 w =>
  wUn P .not t13 w fun t14 w =>
  wIf t14 (
    k (.tuple #[(.int .u64 0), (.int .i64 1)]) w) (
    wL2 (.int .u64 0) (.int .i64 0) w (fun _ v8 v16 w k2 =>
      wBin P .lss T_int v16 a2 w fun t17 w =>
      wIf t17 (
        wBin P .add T_int a1 v16 w fun t23 w =>
        wIndexA P T_Luint8 a0 t23 w fun t24 w =>
        wLoad P T_uint8 t24 w fun t25 w =>
        wConv P T_uint8 T_uint64 t25 w fun t26 w =>
        wBin P .mul T_int (.int .i64 8) v16 w fun t28 w =>
        wBin P .shl T_uint64 t26 t28 w fun t29 w =>
        wBin P .or T_uint64 v8 t29 w fun t30 w =>
        wBin P .add T_int v16 (.int .i64 1) w fun t31 w =>
        k2 t30 t31 w) (
        k (.tuple #[v8, (.int .i64 0)]) w)))

theorem call_num_Get (a0 a1 a2 : Value) {w : World} {k : Value → World → Prop} (h : F_num_Get a0 a1 a2 w k) : wCall P n_num_Get [a0, a1, a2] w k :=
  call_of_den mixedP Try.func245 (by kernel_rfl) (.s .z (.s .z (.s .z (.s (.s .z (.b (.l [8, 16] [0, 1, 15] .z))) .z)))) (by kernel_rfl) (Eq.mp (by kernel_rfl) h)

def F_num_Writer_Bytes (a0 a1 a2 : Value) (w : World) (k : Value → World → Prop) : Prop :=
  wJ0 (fun k1 =>
    wNil P a0 w fun t7 w =>
    wFieldA P T_num_Writer t7 2 w fun t8 w =>
    wLoad P T_api_Errno t8 w fun t9 w =>
    wBin P .eql T_api_Errno t9 (.int .i64 0) w fun t10 w =>
    wGrp t10 true (fun k24 =>
      wLen P .len #[T_Luint8] [a2] w fun t14 w =>
      wBin P .lss T_int a1 t14 w fun t15 w =>
      wGrp t15 false (fun k23 =>
        wNil P a0 w fun t19 w =>
        wFieldA P T_num_Writer t19 1 w fun t20 w =>
        wLoad P T_int t20 w fun t21 w =>
        wBin P .sub T_int (.int .i64 128) t21 w fun t22 w =>
        wBin P .gtr T_int a1 t22 w fun t23 w =>
        k23 t23 w) w fun _ t23 w =>
      wPick t15 (.bool true) t23 w fun t24 w =>
      k24 t24 w) w fun _ t24 w =>
    wPick t10 t24 (.bool false) w fun t25 w =>
    wIf t25 (
      wNil P a0 w fun t27 w =>
      wFieldA P T_num_Writer t27 2 w fun t28 w =>
      wStore P T_api_Errno t28 (.int .i64 1) w fun w =>
      k1 w) (
      k1 w)) fun _ w =>
  wNil P a0 w fun t30 w =>
  wFieldA P T_num_Writer t30 2 w fun t31 w =>
  wLoad P T_api_Errno t31 w fun t32 w =>
  wBin P .eql T_api_Errno t32 (.int .i64 0) w fun t33 w =>
  wIf t33 (
    wDraw w fun w =>
    wNil P a0 w fun t35 w =>
    wFieldA P T_num_Writer t35 0 w fun t36 w =>
    wNil P a0 w fun t38 w =>
    wFieldA P T_num_Writer t38 1 w fun t39 w =>
    wLoad P T_int t39 w fun t40 w =>
    wSlice P T_api_Sector t36 (some t40) none none w fun t41 w =>
    wBuiltin P .copy #[T_Luint8, T_Luint8] [t41, a2] w fun _ w =>
    wNil P a0 w fun t45 w =>
    wFieldA P T_num_Writer t45 1 w fun t46 w =>
    wLoad P T_int t46 w fun t47 w =>
    wBin P .add T_int t47 a1 w fun t49 w =>
    wNil P a0 w fun t50 w =>
    wFieldA P T_num_Writer t50 1 w fun t51 w =>
    wStore P T_int t51 t49 w fun w =>
    k (.tuple #[]) w) (
    k (.tuple #[]) w)

theorem call_num_Writer_Bytes (a0 a1 a2 : Value) {w : World} {k : Value → World → Prop} (h : F_num_Writer_Bytes a0 a1 a2 w k) : wCall P n_num_Writer_Bytes [a0, a1, a2] w k :=
  call_of_den mixedP Try.func278 (by kernel_rfl) (.j [] [0, 1, 2] (.s (.r (.ops [0, 1, 2, 3, 4, 5] (.grp 5 true 24 [12, 13, 14, 15, 16, 17, 18, 19, 20, 21, 22, 23] (.ops [6, 7, 8, 9, 10] (.grp 10 false 23 [17, 18, 19, 20, 21, 22] (.ops [11, 12, 13, 14, 15, 16, 17] .nil) (.ops [18] .nil))) (.ops [19] .nil)))) .z) (.s .z (.s (.s (.r (.ops [0, 1, 2, 3, 4, 5, 6, 7, 8] (.eff 9 [] .nil))) .z) .z))) (by kernel_rfl) (Eq.mp (by kernel_rfl) h)

def F_num_Reader_Bytes (a0 a1 : Value) (w : World) (k : Value → World → Prop) : Prop :=
  wJ0 (fun k1 =>
    wNil P a0 w fun t6 w =>
    wFieldA P T_num_Reader t6 2 w fun t7 w =>
    wLoad P T_api_Errno t7 w fun t8 w =>
    wBin P .eql T_api_Errno t8 (.int .i64 0) w fun t9 w =>
    wGrp t9 true (fun k18 =>
      wBin P .lss T_int a1 (.int .i64 0) w fun t12 w =>
      wGrp t12 false (fun k17 =>
        wCall P n_num_Reader_Left [a0] w fun t16 w =>
        wBin P .gtr T_int a1 t16 w fun t17 w =>
        k17 t17 w) w fun _ t17 w =>
      wPick t12 (.bool true) t17 w fun t18 w =>
      k18 t18 w) w fun _ t18 w =>
    wPick t9 t18 (.bool false) w fun t19 w =>
    wIf t19 (
      wNil P a0 w fun t21 w =>
      wFieldA P T_num_Reader t21 2 w fun t22 w =>
      wStore P T_api_Errno t22 (.int .i64 1) w fun w =>
      k1 w) (
      k1 w)) fun _ w =>
  wNil P a0 w fun t24 w =>
  wFieldA P T_num_Reader t24 2 w fun t25 w =>
  wLoad P T_api_Errno t25 w fun t26 w =>
  wBin P .neq T_api_Errno t26 (.int .i64 0) w fun t27 w =>
  wIf t27 (
    k (.slice none 0 0) w) (
    wNil P a0 w fun t29 w =>
    wFieldA P T_num_Reader t29 1 w fun t30 w =>
    wLoad P T_int t30 w fun t31 w =>
    wBin P .add T_int t31 a1 w fun t33 w =>
    wNil P a0 w fun t34 w =>
    wFieldA P T_num_Reader t34 1 w fun t35 w =>
    wStore P T_int t35 t33 w fun w =>
    wDraw w fun w =>
    wNil P a0 w fun t37 w =>
    wFieldA P T_num_Reader t37 0 w fun t38 w =>
    wNil P a0 w fun t40 w =>
    wFieldA P T_num_Reader t40 1 w fun t41 w =>
    wLoad P T_int t41 w fun t42 w =>
    wBin P .sub T_int t42 a1 w fun t44 w =>
    wNil P a0 w fun t46 w =>
    wFieldA P T_num_Reader t46 1 w fun t47 w =>
    wLoad P T_int t47 w fun t48 w =>
    wSlice P T_api_Sector t38 (some t44) (some t48) none w fun t49 w =>
    wBuiltin P .append #[T_Luint8, T_Luint8] [(.slice none 0 0), t49] w fun t50 w =>
    k t50 w)

theorem call_num_Reader_Bytes (a0 a1 : Value) {w : World} {k : Value → World → Prop} (h : F_num_Reader_Bytes a0 a1 w k) : wCall P n_num_Reader_Bytes [a0, a1] w k :=
  call_of_den mixedP Try.func281 (by kernel_rfl) (.s .z (.j [] [0, 1] (.s (.r (.ops [0, 1, 2, 3, 4, 5] (.grp 5 true 18 [11, 12, 13, 14, 15, 16, 17] (.ops [6, 7, 8] (.grp 8 false 17 [14, 15, 16] (.ops [9, 10, 11, 12] .nil) (.ops [13] .nil))) (.ops [14] .nil)))) .z) (.s .z (.s .z (.s (.r (.ops [0, 1, 2, 3, 4, 5, 6, 7, 8, 9, 10, 11, 12, 13] (.eff 14 [] (.ops [15] .nil)))) .z))))) (by kernel_rfl) (Eq.mp (by kernel_rfl) h)

def F_num_fits (a0 a1 a2 : Value) (w : World) (k : Value → World → Prop) : Prop :=
  wBin P .geq T_int a2 (.int .i64 1) w fun t8 w =>
  wGrp t8 true (fun k11 =>
    wBin P .leq T_int a2 (.int .i64 8) w fun t11 w =>
    k11 t11 w) w fun _ t11 w =>
  wPick t8 t11 (.bool false) w fun t12 w =>
  wGrp t12 true (fun k15 =>
    wBin P .geq T_int a1 (.int .i64 0) w fun t15 w =>
    k15 t15 w) w fun _ t15 w =>
  wPick t12 t15 (.bool false) w fun t16 w =>
  wGrp t16 true (fun k21 =>
    wLen P .len #[T_Luint8] [a0] w fun t20 w =>
    wBin P .leq T_int a1 t20 w fun t21 w =>
    k21 t21 w) w fun _ t21 w =>
  wPick t16 t21 (.bool false) w fun t22 w =>
  wGrp t22 true (fun k29 =>
    wLen P .len #[T_Luint8] [a0] w fun t25 w =>
    wBin P .sub T_int t25 a1 w fun t27 w =>
    wBin P .geq T_int t27 a2 w fun t29 w =>
    k29 t29 w) w fun _ t29 w =>
  wPick t22 t29 (.bool false) w fun t30 w =>
  k t30 w

theorem call_num_fits (a0 a1 a2 : Value) {w : World} {k : Value → World → Prop} (h : F_num_fits a0 a1 a2 w k) : wCall P n_num_fits [a0, a1, a2] w k :=
  call_of_den mixedP Try.func284 (by kernel_rfl) (.s .z (.s (.r (.ops [0, 1, 2] (.grp 2 true 11 [10] (.ops [3, 4] .nil) (.ops [5, 6] (.grp 6 true 15 [14] (.ops [7, 8] .nil) (.ops [9, 10] (.grp 10 true 21 [18, 19, 20] (.ops [11, 12, 13, 14] .nil) (.ops [15, 16] (.grp 16 true 29 [24, 25, 26, 27, 28] (.ops [17, 18, 19, 20, 21, 22] .nil) (.ops [23, 24] .nil)))))))))) .z)) (by kernel_rfl) (Eq.mp (by kernel_rfl) h)

def F_num_Reader_Left (a0 : Value) (w : World) (k : Value → World → Prop) : Prop :=
  wNil P a0 w fun t4 w =>
  wFieldA P T_num_Reader t4 1 w fun t5 w =>
  wLoad P T_int t5 w fun t6 w =>
  wBin P .sub T_int (.int .i64 128) t6 w fun t7 w =>
  k t7 w

theorem call_num_Reader_Left (a0 : Value) {w : World} {k : Value → World → Prop} (h : F_num_Reader_Left a0 w k) : wCall P n_num_Reader_Left [a0] w k :=
  call_of_den mixedP Try.func294 (by kernel_rfl) .z (by kernel_rfl) (Eq.mp (by kernel_rfl) h)

end Go.Dn
end
