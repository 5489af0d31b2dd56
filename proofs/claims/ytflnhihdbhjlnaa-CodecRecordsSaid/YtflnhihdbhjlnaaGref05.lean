import Derived.Test.YtflnhihdbhjlnaaGn
/-! Texts of functions, printed by mkg.py. -/
set_option maxRecDepth 100000
set_option linter.unusedVariables false
namespace Go.Dn
open Go Go.Proofs
def F_ref05_WriteInode (a0 : Value) (w : World) (k : Value → World → Prop) : Prop :=
  wBox P T_ref05_Inode a0 w fun t1 w =>
  wAlloc P T_A128uint8 w fun t2 w =>
  wFieldA P T_ref05_Inode t1 2 w fun t4 w =>
  wLoad P T_int t4 w fun t5 w =>
  wBin P .lss T_int t5 (.int .i64 1) w fun t6 w =>
  wGrp t6 false (fun k10 =>
    wFieldA P T_ref05_Inode t1 2 w fun t8 w =>
    wLoad P T_int t8 w fun t9 w =>
    wBin P .gtr T_int t9 (.int .i64 2) w fun t10 w =>
    k10 t10 w) w fun _ t10 w =>
  wPick t6 (.bool true) t10 w fun t11 w =>
  wIf t11 (
    wBuild P T_A128uint8 [] w fun t12 w =>
    wStore P T_A128uint8 t2 t12 w fun w =>
    wRes P T_A128uint8 t2 w fun r2 =>
    k (.tuple #[r2, (.bool false)]) w) (
    wLoad P T_ref05_Inode t1 w fun t13 w =>
    wCall P n_ref05_InodeFields [t13] w fun t14 w =>
    wCall P n_ref05_Sealed [(.int .u8 2), t14] w fun t15 w =>
    wExtract P t15 0 w fun t16 w =>
    wExtract P t15 1 w fun t17 w =>
    wStore P T_A128uint8 t2 t16 w fun w =>
    wRes P T_A128uint8 t2 w fun r2 =>
    k (.tuple #[r2, t17]) w)

theorem call_ref05_WriteInode (a0 : Value) {w : World} {k : Value → World → Prop} (h : F_ref05_WriteInode a0 w k) : wCall P n_ref05_WriteInode [a0] w k :=
  call_of_den mixedP Try.func57 (by kernel_rfl) (.s .z (.s (.s (.r (.ops [0, 1, 2, 3] (.grp 3 false 10 [8, 9] (.ops [4, 5, 6] .nil) (.ops [7] .nil)))) .z) .z)) (by kernel_rfl) (Eq.mp (by kernel_rfl) h)

def F_ref05_ReadInode (a0 : Value) (w : World) (k : Value → World → Prop) : Prop :=
  wBox P T_A128uint8 a0 w fun t1 w =>
  wAlloc P T_ref05_Inode w fun t2 w =>
  wLoad P T_A128uint8 t1 w fun t9 w =>
  wBuildS P T_Lint 15 [(0, (.int .i64 2)), (1, (.int .i64 4)), (2, (.int .i64 1)), (3, (.int .i64 4)), (4, (.int .i64 4)), (5, (.int .i64 4)), (6, (.int .i64 4)), (7, (.int .i64 4)), (8, (.int .i64 4)), (9, (.int .i64 4)), (10, (.int .i64 4)), (11, (.int .i64 4)), (12, (.int .i64 4)), (13, (.int .i64 4)), (14, (.int .i64 4))] w fun t10 w =>
  wCall P n_ref05_Opened [(.int .u8 2), t9, t10] w fun t11 w =>
  wExtract P t11 0 w fun t12 w =>
  wExtract P t11 1 w fun t13 w =>
  wUn P .not t13 w fun t15 w =>
  wGrp t15 false (fun k19 =>
    wLen P .len #[T_Lint64] [t12] w fun t18 w =>
    wBin P .neq T_int t18 (.int .i64 15) w fun t19 w =>
    k19 t19 w) w fun _ t19 w =>
  wPick t15 (.bool true) t19 w fun t20 w =>
  wGrp t20 false (fun k25 =>
    wIndexA P T_Lint64 t12 (.int .i64 2) w fun t23 w =>
    wLoad P T_int64 t23 w fun t24 w =>
    wBin P .lss T_int64 t24 (.int .i64 1) w fun t25 w =>
    k25 t25 w) w fun _ t25 w =>
  wPick t20 (.bool true) t25 w fun t26 w =>
  wGrp t26 false (fun k31 =>
    wIndexA P T_Lint64 t12 (.int .i64 2) w fun t29 w =>
    wLoad P T_int64 t29 w fun t30 w =>
    wBin P .gtr T_int64 t30 (.int .i64 2) w fun t31 w =>
    k31 t31 w) w fun _ t31 w =>
  wPick t26 (.bool true) t31 w fun t32 w =>
  wIf t32 (
    wBuild P T_ref05_Inode [] w fun t33 w =>
    wStore P T_ref05_Inode t2 t33 w fun w =>
    wRes P T_ref05_Inode t2 w fun r2 =>
    k (.tuple #[r2, (.bool false)]) w) (
    wDraw w fun w =>
    wIndexA P T_Lint64 t12 (.int .i64 0) w fun t35 w =>
    wLoad P T_int64 t35 w fun t36 w =>
    wConv P T_int64 T_uint32 t36 w fun t37 w =>
    wIndexA P T_Lint64 t12 (.int .i64 1) w fun t39 w =>
    wLoad P T_int64 t39 w fun t40 w =>
    wConv P T_int64 T_uint32 t40 w fun t41 w =>
    wIndexA P T_Lint64 t12 (.int .i64 2) w fun t43 w =>
    wLoad P T_int64 t43 w fun t44 w =>
    wIndexA P T_Lint64 t12 (.int .i64 3) w fun t46 w =>
    wLoad P T_int64 t46 w fun t47 w =>
    wIndexA P T_Lint64 t12 (.int .i64 4) w fun t49 w =>
    wLoad P T_int64 t49 w fun t50 w =>
    wConv P T_int64 T_uint32 t50 w fun t51 w =>
    wIndexA P T_Lint64 t12 (.int .i64 13) w fun t53 w =>
    wLoad P T_int64 t53 w fun t54 w =>
    wIndexA P T_Lint64 t12 (.int .i64 14) w fun t56 w =>
    wLoad P T_int64 t56 w fun t57 w =>
    wBuild P T_ref05_Inode [(0, t37), (1, t41), (2, t44), (3, t47), (4, t51), (6, t54), (7, t57)] w fun t58 w =>
    wAlloc P T_ref05_Inode w fun t6 w =>
    wKeep P [(T_int64, t35, t36), (T_int64, t39, t40), (T_int64, t43, t44), (T_int64, t46, t47), (T_int64, t49, t50), (T_int64, t53, t54), (T_int64, t56, t57)] w ∧ wStore P T_ref05_Inode t6 t58 w fun w =>
    wJ0 (fun k2 =>
      wL1 (.int .i64 0) w (fun _ v7 w k3 =>
        wBin P .lss T_int v7 (.int .i64 8) w fun t60 w =>
        wIf t60 (
          wBin P .add T_int (.int .i64 5) v7 w fun t66 w =>
          wIndexA P T_Lint64 t12 t66 w fun t67 w =>
          wLoad P T_int64 t67 w fun t68 w =>
          wFieldA P T_ref05_Inode t6 5 w fun t69 w =>
          wIndexA P T_A8int t69 v7 w fun t70 w =>
          wStore P T_int t70 t68 w fun w =>
          wBin P .add T_int v7 (.int .i64 1) w fun t62 w =>
          k3 t62 w) (
          k2 w))) fun _ w =>
    wLoad P T_ref05_Inode t6 w fun t71 w =>
    wStore P T_ref05_Inode t2 t71 w fun w =>
    wRes P T_ref05_Inode t2 w fun r2 =>
    k (.tuple #[r2, (.bool true)]) w)

theorem call_ref05_ReadInode (a0 : Value) {w : World} {k : Value → World → Prop} (h : F_ref05_ReadInode a0 w k) : wCall P n_ref05_ReadInode [a0] w k :=
  call_of_den mixedP Try.func60 (by kernel_rfl) (.s .z (.s .z (.s (.s (.r (.ops [0, 1, 2] (.grp 2 false 19 [17, 18] (.ops [3, 4, 5] .nil) (.ops [6, 7] (.grp 7 false 25 [22, 23, 24] (.ops [8, 9, 10, 11] .nil) (.ops [12, 13] (.grp 13 false 31 [28, 29, 30] (.ops [14, 15, 16, 17] .nil) (.ops [18] .nil)))))))) .z) (.s (.r (.ops [0, 1, 2, 3, 4, 5, 6, 7, 8, 9, 10, 11, 12, 13, 14, 15, 16, 17, 18, 19, 20, 21, 22, 23, 24] (.eff 25 [2, 6, 10, 13, 16, 20, 23] (.eff 26 [] .nil)))) (.j [] [2, 6] (.s .z (.b (.l [7] [2, 4, 6] .z))) .z))))) (by kernel_rfl) (Eq.mp (by kernel_rfl) h)

def F_ref05_WriteHeader (a0 : Value) (w : World) (k : Value → World → Prop) : Prop :=
  wBox P T_ref05_Header a0 w fun t1 w =>
  wAlloc P T_A128uint8 w fun t2 w =>
  wFieldA P T_ref05_Header t1 2 w fun t5 w =>
  wLoad P T_int t5 w fun t6 w =>
  wBin P .lss T_int t6 (.int .i64 0) w fun t7 w =>
  wGrp t7 false (fun k11 =>
    wFieldA P T_ref05_Header t1 2 w fun t9 w =>
    wLoad P T_int t9 w fun t10 w =>
    wBin P .gtr T_int t10 (.int .i64 65535) w fun t11 w =>
    k11 t11 w) w fun _ t11 w =>
  wPick t7 (.bool true) t11 w fun t12 w =>
  wGrp t12 false (fun k16 =>
    wFieldA P T_ref05_Header t1 3 w fun t14 w =>
    wLoad P T_int t14 w fun t15 w =>
    wBin P .lss T_int t15 (.int .i64 0) w fun t16 w =>
    k16 t16 w) w fun _ t16 w =>
  wPick t12 (.bool true) t16 w fun t17 w =>
  wGrp t17 false (fun k21 =>
    wFieldA P T_ref05_Header t1 3 w fun t19 w =>
    wLoad P T_int t19 w fun t20 w =>
    wBin P .gtr T_int t20 (.int .i64 65535) w fun t21 w =>
    k21 t21 w) w fun _ t21 w =>
  wPick t17 (.bool true) t21 w fun t22 w =>
  wGrp t22 false (fun k26 =>
    wFieldA P T_ref05_Header t1 4 w fun t24 w =>
    wLoad P T_int t24 w fun t25 w =>
    wBin P .lss T_int t25 (.int .i64 0) w fun t26 w =>
    k26 t26 w) w fun _ t26 w =>
  wPick t22 (.bool true) t26 w fun t27 w =>
  wGrp t27 false (fun k31 =>
    wFieldA P T_ref05_Header t1 4 w fun t29 w =>
    wLoad P T_int t29 w fun t30 w =>
    wBin P .gtr T_int t30 (.int .i64 65535) w fun t31 w =>
    k31 t31 w) w fun _ t31 w =>
  wPick t27 (.bool true) t31 w fun t32 w =>
  wIf t32 (
    wBuild P T_A128uint8 [] w fun t33 w =>
    wStore P T_A128uint8 t2 t33 w fun w =>
    wRes P T_A128uint8 t2 w fun r2 =>
    k (.tuple #[r2, (.bool false)]) w) (
    wDraw w fun w =>
    wFieldA P T_ref05_Header t1 0 w fun t34 w =>
    wLoad P T_uint64 t34 w fun t35 w =>
    wFieldA P T_ref05_Header t1 1 w fun t37 w =>
    wLoad P T_uint64 t37 w fun t38 w =>
    wCall P n_ref01_Low [t35, (.int .i64 8)] w fun t36 w =>
    wKeep P [(T_uint64, t37, t38)] w ∧ wCall P n_ref01_Low [t38, (.int .i64 8)] w fun t39 w =>
    wBuiltin P .append #[T_Luint8, T_Luint8] [t36, t39] w fun t40 w =>
    wFieldA P T_ref05_Header t1 2 w fun t42 w =>
    wLoad P T_int t42 w fun t43 w =>
    wConv P T_int T_uint64 t43 w fun t44 w =>
    wCall P n_ref01_Low [t44, (.int .i64 2)] w fun t45 w =>
    wBuiltin P .append #[T_Luint8, T_Luint8] [t40, t45] w fun t46 w =>
    wFieldA P T_ref05_Header t1 3 w fun t48 w =>
    wLoad P T_int t48 w fun t49 w =>
    wConv P T_int T_uint64 t49 w fun t50 w =>
    wCall P n_ref01_Low [t50, (.int .i64 2)] w fun t51 w =>
    wBuiltin P .append #[T_Luint8, T_Luint8] [t46, t51] w fun t52 w =>
    wFieldA P T_ref05_Header t1 4 w fun t54 w =>
    wLoad P T_int t54 w fun t55 w =>
    wConv P T_int T_uint64 t55 w fun t56 w =>
    wCall P n_ref01_Low [t56, (.int .i64 2)] w fun t57 w =>
    wBuiltin P .append #[T_Luint8, T_Luint8] [t52, t57] w fun t58 w =>
    wFieldA P T_ref05_Header t1 5 w fun t60 w =>
    wLoad P T_uint32 t60 w fun t61 w =>
    wConv P T_uint32 T_uint64 t61 w fun t62 w =>
    wCall P n_ref01_Low [t62, (.int .i64 4)] w fun t63 w =>
    wBuiltin P .append #[T_Luint8, T_Luint8] [t58, t63] w fun t64 w =>
    wCall P n_ref02_Make [(.int .u8 6), t64] w fun t65 w =>
    wExtract P t65 0 w fun t66 w =>
    wExtract P t65 1 w fun t67 w =>
    wStore P T_A128uint8 t2 t66 w fun w =>
    wRes P T_A128uint8 t2 w fun r2 =>
    k (.tuple #[r2, t67]) w)

theorem call_ref05_WriteHeader (a0 : Value) {w : World} {k : Value → World → Prop} (h : F_ref05_WriteHeader a0 w k) : wCall P n_ref05_WriteHeader [a0] w k :=
  call_of_den mixedP Try.func62 (by kernel_rfl) (.s .z (.s (.s (.r (.ops [0, 1, 2, 3] (.grp 3 false 11 [9, 10] (.ops [4, 5, 6] .nil) (.ops [7, 8] (.grp 8 false 16 [14, 15] (.ops [9, 10, 11] .nil) (.ops [12, 13] (.grp 13 false 21 [19, 20] (.ops [14, 15, 16] .nil) (.ops [17, 18] (.grp 18 false 26 [24, 25] (.ops [19, 20, 21] .nil) (.ops [22, 23] (.grp 23 false 31 [29, 30] (.ops [24, 25, 26] .nil) (.ops [27] .nil)))))))))))) .z) (.s (.r (.ops [0, 1, 3, 4] (.eff 2 [4] (.eff 5 [] (.eff 6 [] (.ops [7] .nil)))))) .z))) (by kernel_rfl) (Eq.mp (by kernel_rfl) h)

def F_ref05_ReadHeader (a0 : Value) (w : World) (k : Value → World → Prop) : Prop :=
  wBox P T_A128uint8 a0 w fun t1 w =>
  wAlloc P T_ref05_Header w fun t2 w =>
  wLoad P T_A128uint8 t1 w fun t8 w =>
  wCall P n_ref02_Open [t8] w fun t9 w =>
  wExtract P t9 0 w fun t10 w =>
  wExtract P t9 1 w fun t11 w =>
  wExtract P t9 2 w fun t12 w =>
  wUn P .not t12 w fun t14 w =>
  wGrp t14 false (fun k17 =>
    wBin P .neq T_uint8 t10 (.int .u8 6) w fun t17 w =>
    k17 t17 w) w fun _ t17 w =>
  wPick t14 (.bool true) t17 w fun t18 w =>
  wGrp t18 false (fun k22 =>
    wLen P .len #[T_Luint8] [t11] w fun t21 w =>
    wBin P .neq T_int t21 (.int .i64 26) w fun t22 w =>
    k22 t22 w) w fun _ t22 w =>
  wPick t18 (.bool true) t22 w fun t23 w =>
  wIf t23 (
    wBuild P T_ref05_Header [] w fun t24 w =>
    wStore P T_ref05_Header t2 t24 w fun w =>
    wRes P T_ref05_Header t2 w fun r2 =>
    k (.tuple #[r2, (.bool false)]) w) (
    wDraw w fun w =>
    wSlice P T_Luint8 t11 none (some (.int .i64 8)) none w fun t26 w =>
    wSlice P T_Luint8 t11 (some (.int .i64 8)) (some (.int .i64 16)) none w fun t29 w =>
    wSlice P T_Luint8 t11 (some (.int .i64 16)) (some (.int .i64 18)) none w fun t32 w =>
    wSlice P T_Luint8 t11 (some (.int .i64 18)) (some (.int .i64 20)) none w fun t36 w =>
    wSlice P T_Luint8 t11 (some (.int .i64 20)) (some (.int .i64 22)) none w fun t40 w =>
    wSlice P T_Luint8 t11 (some (.int .i64 22)) none none w fun t44 w =>
    wCall P n_ref01_Num [t26] w fun t27 w =>
    wCall P n_ref01_Num [t29] w fun t30 w =>
    wCall P n_ref01_Num [t32] w fun t33 w =>
    wConv P T_uint64 T_int t33 w fun t34 w =>
    wCall P n_ref01_Num [t36] w fun t37 w =>
    wConv P T_uint64 T_int t37 w fun t38 w =>
    wCall P n_ref01_Num [t40] w fun t41 w =>
    wConv P T_uint64 T_int t41 w fun t42 w =>
    wCall P n_ref01_Num [t44] w fun t45 w =>
    wConv P T_uint64 T_uint32 t45 w fun t46 w =>
    wBuild P T_ref05_Header [(0, t27), (1, t30), (2, t34), (3, t38), (4, t42), (5, t46)] w fun t47 w =>
    wStore P T_ref05_Header t2 t47 w fun w =>
    wRes P T_ref05_Header t2 w fun r2 =>
    k (.tuple #[r2, (.bool true)]) w)

theorem call_ref05_ReadHeader (a0 : Value) {w : World} {k : Value → World → Prop} (h : F_ref05_ReadHeader a0 w k) : wCall P n_ref05_ReadHeader [a0] w k :=
  call_of_den mixedP Try.func64 (by kernel_rfl) (.s .z (.s .z (.s (.s (.r (.ops [0, 1, 2] (.grp 2 false 17 [16] (.ops [3, 4] .nil) (.ops [5, 6] (.grp 6 false 22 [20, 21] (.ops [7, 8, 9] .nil) (.ops [10] .nil)))))) .z) (.s (.r (.ops [0, 1, 3, 4, 6, 7, 10, 11, 14, 15, 18, 19] (.eff 2 [] (.eff 5 [] (.eff 8 [] (.ops [9] (.eff 12 [] (.ops [13] (.eff 16 [] (.ops [17] (.eff 20 [] (.ops [21, 22] (.eff 23 [] (.ops [24] .nil)))))))))))))) .z)))) (by kernel_rfl) (Eq.mp (by kernel_rfl) h)

def F_ref05_WritePointers (a0 : Value) (w : World) (k : Value → World → Prop) : Prop :=
  wBox P T_A32int a0 w fun t1 w =>
  wAlloc P T_A128uint8 w fun t2 w =>
  wJ1 (fun k1 =>
    wL2 (.slice none 0 0) (.int .i64 0) w (fun _ v4 v5 w k2 =>
      wBin P .lss T_int v5 (.int .i64 32) w fun t7 w =>
      wIf t7 (
        wIndexA P T_A32int t1 v5 w fun t11 w =>
        wLoad P T_int t11 w fun t12 w =>
        wBin P .lss T_int t12 (.int .i64 0) w fun t13 w =>
        wGrp t13 false (fun k18 =>
          wIndexA P T_A32int t1 v5 w fun t16 w =>
          wLoad P T_int t16 w fun t17 w =>
          wBin P .gtr T_int t17 (.int .i64 65535) w fun t18 w =>
          k18 t18 w) w fun _ t18 w =>
        wPick t13 (.bool true) t18 w fun t19 w =>
        wIf t19 (
          wBuild P T_A128uint8 [] w fun t20 w =>
          wStore P T_A128uint8 t2 t20 w fun w =>
          wRes P T_A128uint8 t2 w fun r2 =>
          k (.tuple #[r2, (.bool false)]) w) (
          wIndexA P T_A32int t1 v5 w fun t23 w =>
          wLoad P T_int t23 w fun t24 w =>
          wConv P T_int T_uint64 t24 w fun t25 w =>
          wCall P n_ref01_Low [t25, (.int .i64 4)] w fun t26 w =>
          wBuiltin P .append #[T_Luint8, T_Luint8] [v4, t26] w fun t27 w =>
          wBin P .add T_int v5 (.int .i64 1) w fun t9 w =>
          k2 t27 t9 w)) (
        k1 v4 w))) fun _ v4 w =>
  wCall P n_ref01_Full [v4] w fun t29 w =>
  wStore P T_A128uint8 t2 t29 w fun w =>
  wRes P T_A128uint8 t2 w fun r2 =>
  k (.tuple #[r2, (.bool true)]) w

theorem call_ref05_WritePointers (a0 : Value) {w : World} {k : Value → World → Prop} (h : F_ref05_WritePointers a0 w k) : wCall P n_ref05_WritePointers [a0] w k :=
  call_of_den mixedP Try.func66 (by kernel_rfl) (.s .z (.s .z (.j [4] [2] (.s .z (.b (.l [4, 5] [1, 2] (.s .z (.s (.b (.s (.s (.r (.ops [0, 1, 2, 3, 4] (.grp 4 false 18 [15, 16, 17] (.ops [5, 6, 7, 8] .nil) (.ops [9] .nil)))) .z) .z)) .z))))) .z))) (by kernel_rfl) (Eq.mp (by kernel_rfl) h)

def F_ref05_ReadPointers (a0 : Value) (w : World) (k : Value → World → Prop) : Prop :=
  wBox P T_A128uint8 a0 w fun t1 w =>
  wAlloc P T_A32int w fun t2 w =>
  wAlloc P T_A32int w fun t4 w =>
  wJ0 (fun k1 =>
    wL1 (.int .i64 0) w (fun _ v5 w k2 =>
      wBin P .lss T_int v5 (.int .i64 32) w fun t8 w =>
      wIf t8 (
        wBin P .mul T_int (.int .i64 4) v5 w fun t12 w =>
        wBin P .mul T_int (.int .i64 4) v5 w fun t14 w =>
        wBin P .add T_int t14 (.int .i64 4) w fun t15 w =>
        wSlice P T_A128uint8 t1 (some t12) (some t15) none w fun t16 w =>
        wCall P n_ref01_Num [t16] w fun t17 w =>
        wBin P .gtr T_uint64 t17 (.int .u64 65535) w fun t19 w =>
        wIf t19 (
          wBuild P T_A32int [] w fun t20 w =>
          wStore P T_A32int t2 t20 w fun w =>
          wRes P T_A32int t2 w fun r2 =>
          k (.tuple #[r2, (.bool false)]) w) (
          wConv P T_uint64 T_int t17 w fun t23 w =>
          wIndexA P T_A32int t4 v5 w fun t24 w =>
          wStore P T_int t24 t23 w fun w =>
          wBin P .add T_int v5 (.int .i64 1) w fun t10 w =>
          k2 t10 w)) (
        k1 w))) fun _ w =>
  wLoad P T_A32int t4 w fun t25 w =>
  wStore P T_A32int t2 t25 w fun w =>
  wRes P T_A32int t2 w fun r2 =>
  k (.tuple #[r2, (.bool true)]) w

theorem call_ref05_ReadPointers (a0 : Value) {w : World} {k : Value → World → Prop} (h : F_ref05_ReadPointers a0 w k) : wCall P n_ref05_ReadPointers [a0] w k :=
  call_of_den mixedP Try.func69 (by kernel_rfl) (.s .z (.s .z (.j [] [2, 4] (.s .z (.b (.l [5] [1, 2, 4] .z))) .z))) (by kernel_rfl) (Eq.mp (by kernel_rfl) h)

def F_ref05_WriteUses (a0 : Value) (w : World) (k : Value → World → Prop) : Prop :=
  wAlloc P T_A128uint8 w fun t2 w =>
  wJ1 (fun k1 =>
    wL2 (.slice none 0 0) (.int .i64 0) w (fun _ v4 v5 w k2 =>
      wLen P .len #[T_Lref05_Use] [a0] w fun t9 w =>
      wBin P .lss T_int v5 t9 w fun t10 w =>
      wIf t10 (
        wIndexA P T_Lref05_Use a0 v5 w fun t15 w =>
        wLoad P T_ref05_Use t15 w fun t16 w =>
        wAlloc P T_ref05_Use w fun t6 w =>
        wStore P T_ref05_Use t6 t16 w fun w =>
        wFieldA P T_ref05_Use t6 1 w fun t17 w =>
        wLoad P T_int t17 w fun t18 w =>
        wBin P .lss T_int t18 (.int .i64 0) w fun t19 w =>
        wGrp t19 false (fun k23 =>
          wFieldA P T_ref05_Use t6 1 w fun t21 w =>
          wLoad P T_int t21 w fun t22 w =>
          wBin P .gtr T_int t22 (.int .i64 3) w fun t23 w =>
          k23 t23 w) w fun _ t23 w =>
        wPick t19 (.bool true) t23 w fun t24 w =>
        wIf t24 (
          wBuild P T_A128uint8 [] w fun t25 w =>
          wStore P T_A128uint8 t2 t25 w fun w =>
          wRes P T_A128uint8 t2 w fun r2 =>
          k (.tuple #[r2, (.bool false)]) w) (
          wFieldA P T_ref05_Use t6 0 w fun t27 w =>
          wLoad P T_int t27 w fun t28 w =>
          wBuild P T_ref05_Field [(0, (.int .i64 2)), (1, t28)] w fun t29 w =>
          wFieldA P T_ref05_Use t6 1 w fun t30 w =>
          wLoad P T_int t30 w fun t31 w =>
          wBuild P T_ref05_Field [(0, (.int .i64 1)), (1, t31)] w fun t32 w =>
          wFieldA P T_ref05_Use t6 2 w fun t33 w =>
          wLoad P T_uint32 t33 w fun t34 w =>
          wConv P T_uint32 T_int64 t34 w fun t35 w =>
          wBuild P T_ref05_Field [(0, (.int .i64 4)), (1, t35)] w fun t36 w =>
          wBuildS P T_Lref05_Field 3 [(0, t29), (1, t32), (2, t36)] w fun t37 w =>
          wBuiltin P .append #[T_Lref05_Field, T_Lref05_Field] [v4, t37] w fun t38 w =>
          wBin P .add T_int v5 (.int .i64 1) w fun t12 w =>
          k2 t38 t12 w)) (
        k1 v4 w))) fun _ v4 w =>
  wLen P .len #[T_Lref05_Use] [a0] w fun t40 w =>
  wBin P .gtr T_int t40 (.int .i64 15) w fun t41 w =>
  wIf t41 (
    wBuild P T_A128uint8 [] w fun t42 w =>
    wStore P T_A128uint8 t2 t42 w fun w =>
    wRes P T_A128uint8 t2 w fun r2 =>
    k (.tuple #[r2, (.bool false)]) w) (
    wCall P n_ref05_Sealed [(.int .u8 5), v4] w fun t44 w =>
    wExtract P t44 0 w fun t45 w =>
    wExtract P t44 1 w fun t46 w =>
    wStore P T_A128uint8 t2 t45 w fun w =>
    wRes P T_A128uint8 t2 w fun r2 =>
    k (.tuple #[r2, t46]) w)

theorem call_ref05_WriteUses (a0 : Value) {w : World} {k : Value → World → Prop} (h : F_ref05_WriteUses a0 w k) : wCall P n_ref05_WriteUses [a0] w k :=
  call_of_den mixedP Try.func70 (by kernel_rfl) (.s .z (.s .z (.j [4] [0, 2] (.s .z (.b (.l [4, 5] [0, 2] (.s .z (.s (.b (.s .z (.s (.s (.r (.ops [0, 1, 2, 3] (.grp 3 false 23 [21, 22] (.ops [4, 5, 6] .nil) (.ops [7] .nil)))) .z) .z))) .z))))) .z))) (by kernel_rfl) (Eq.mp (by kernel_rfl) h)

def F_ref05_ReadUses (a0 : Value) (w : World) (k : Value → World → Prop) : Prop :=
  wBox P T_A128uint8 a0 w fun t1 w =>
  wLoad P T_A128uint8 t1 w fun t9 w =>
  wBuildS P T_Lint 3 [(0, (.int .i64 2)), (1, (.int .i64 1)), (2, (.int .i64 4))] w fun t10 w =>
  wCall P n_ref05_Opened [(.int .u8 5), t9, t10] w fun t11 w =>
  wExtract P t11 0 w fun t12 w =>
  wExtract P t11 1 w fun t13 w =>
  wJ2 (fun k1 =>
    wL3 t13 (.slice none 0 0) (.int .i64 0) w (fun _ v5 v6 v7 w k2 =>
      wBin P .add T_int v7 (.int .i64 2) w fun t15 w =>
      wLen P .len #[T_Lint64] [t12] w fun t17 w =>
      wBin P .lss T_int t15 t17 w fun t18 w =>
      wIf t18 (
        wDraw w fun w =>
        wIndexA P T_Lint64 t12 v7 w fun t24 w =>
        wLoad P T_int64 t24 w fun t25 w =>
        wBin P .add T_int v7 (.int .i64 1) w fun t28 w =>
        wIndexA P T_Lint64 t12 t28 w fun t29 w =>
        wLoad P T_int64 t29 w fun t30 w =>
        wBin P .add T_int v7 (.int .i64 2) w fun t33 w =>
        wIndexA P T_Lint64 t12 t33 w fun t34 w =>
        wLoad P T_int64 t34 w fun t35 w =>
        wConv P T_int64 T_uint32 t35 w fun t36 w =>
        wBuild P T_ref05_Use [(0, t25), (1, t30), (2, t36)] w fun t37 w =>
        wBuildS P T_Lref05_Use 1 [(0, t37)] w fun t38 w =>
        wBuiltin P .append #[T_Lref05_Use, T_Lref05_Use] [v6, t38] w fun t39 w =>
        wGrp v5 true (fun k47 =>
          wBin P .add T_int v7 (.int .i64 1) w fun t44 w =>
          wIndexA P T_Lint64 t12 t44 w fun t45 w =>
          wLoad P T_int64 t45 w fun t46 w =>
          wBin P .leq T_int64 t46 (.int .i64 3) w fun t47 w =>
          k47 t47 w) w fun _ t47 w =>
        wPick v5 t47 (.bool false) w fun t48 w =>
        wBin P .add T_int v7 (.int .i64 3) w fun t20 w =>
        k2 t48 t39 t20 w) (
        k1 v5 v6 w))) fun _ v5 v6 w =>
  wUn P .not v5 w fun t50 w =>
  wGrp t50 false (fun k54 =>
    wLen P .len #[T_Lref05_Use] [v6] w fun t53 w =>
    wBin P .gtr T_int t53 (.int .i64 15) w fun t54 w =>
    k54 t54 w) w fun _ t54 w =>
  wPick t50 (.bool true) t54 w fun t55 w =>
  wIf t55 (
    k (.tuple #[(.slice none 0 0), (.bool false)]) w) (
    k (.tuple #[v6, (.bool true)]) w)

theorem call_ref05_ReadUses (a0 : Value) {w : World} {k : Value → World → Prop} (h : F_ref05_ReadUses a0 w k) : wCall P n_ref05_ReadUses [a0] w k :=
  call_of_den mixedP Try.func71 (by kernel_rfl) (.s .z (.s .z (.s .z (.j [5, 6] [] (.s .z (.b (.l [5, 6, 7] [4] (.s .z (.s (.b (.s (.r (.ops [0, 1, 2, 3, 4, 5, 6, 7, 8, 9, 10, 11, 12, 13, 14, 15, 16] (.eff 17 [] (.eff 18 [] (.ops [19] .nil))))) (.r (.ops [0, 1] (.grp 1 true 47 [42, 43, 44, 45, 46] (.ops [2, 3, 4, 5, 6, 7] .nil) (.ops [8, 9] .nil)))))) .z))))) (.s (.s (.r (.ops [0, 1, 2] (.grp 2 false 54 [52, 53] (.ops [3, 4, 5] .nil) (.ops [6] .nil)))) .z) .z))))) (by kernel_rfl) (Eq.mp (by kernel_rfl) h)

def F_ref05_WriteSlots (a0 : Value) (w : World) (k : Value → World → Prop) : Prop :=
  wAlloc P T_A128uint8 w fun t2 w =>
  wJ1 (fun k1 =>
    wL2 (.slice none 0 0) (.int .i64 0) w (fun _ v4 v5 w k2 =>
      wLen P .len #[T_Lref05_Slot] [a0] w fun t9 w =>
      wBin P .lss T_int v5 t9 w fun t10 w =>
      wIf t10 (
        wIndexA P T_Lref05_Slot a0 v5 w fun t15 w =>
        wLoad P T_ref05_Slot t15 w fun t16 w =>
        wAlloc P T_ref05_Slot w fun t6 w =>
        wStore P T_ref05_Slot t6 t16 w fun w =>
        wFieldA P T_ref05_Slot t6 3 w fun t17 w =>
        wLoad P T_int t17 w fun t18 w =>
        wBin P .lss T_int t18 (.int .i64 0) w fun t19 w =>
        wGrp t19 false (fun k23 =>
          wFieldA P T_ref05_Slot t6 3 w fun t21 w =>
          wLoad P T_int t21 w fun t22 w =>
          wBin P .gtr T_int t22 (.int .i64 2) w fun t23 w =>
          k23 t23 w) w fun _ t23 w =>
        wPick t19 (.bool true) t23 w fun t24 w =>
        wIf t24 (
          wBuild P T_A128uint8 [] w fun t25 w =>
          wStore P T_A128uint8 t2 t25 w fun w =>
          wRes P T_A128uint8 t2 w fun r2 =>
          k (.tuple #[r2, (.bool false)]) w) (
          wFieldA P T_ref05_Slot t6 0 w fun t27 w =>
          wLoad P T_int t27 w fun t28 w =>
          wBuild P T_ref05_Field [(0, (.int .i64 4)), (1, t28)] w fun t29 w =>
          wFieldA P T_ref05_Slot t6 1 w fun t30 w =>
          wLoad P T_uint32 t30 w fun t31 w =>
          wConv P T_uint32 T_int64 t31 w fun t32 w =>
          wBuild P T_ref05_Field [(0, (.int .i64 4)), (1, t32)] w fun t33 w =>
          wFieldA P T_ref05_Slot t6 2 w fun t34 w =>
          wLoad P T_int t34 w fun t35 w =>
          wBuild P T_ref05_Field [(0, (.int .i64 2)), (1, t35)] w fun t36 w =>
          wFieldA P T_ref05_Slot t6 3 w fun t37 w =>
          wLoad P T_int t37 w fun t38 w =>
          wBuild P T_ref05_Field [(0, (.int .i64 1)), (1, t38)] w fun t39 w =>
          wBuildS P T_Lref05_Field 4 [(0, t29), (1, t33), (2, t36), (3, t39)] w fun t40 w =>
          wBuiltin P .append #[T_Lref05_Field, T_Lref05_Field] [v4, t40] w fun t41 w =>
          wBin P .add T_int v5 (.int .i64 1) w fun t12 w =>
          k2 t41 t12 w)) (
        k1 v4 w))) fun _ v4 w =>
  wLen P .len #[T_Lref05_Slot] [a0] w fun t43 w =>
  wBin P .gtr T_int t43 (.int .i64 10) w fun t44 w =>
  wIf t44 (
    wBuild P T_A128uint8 [] w fun t45 w =>
    wStore P T_A128uint8 t2 t45 w fun w =>
    wRes P T_A128uint8 t2 w fun r2 =>
    k (.tuple #[r2, (.bool false)]) w) (
    wCall P n_ref05_Sealed [(.int .u8 4), v4] w fun t47 w =>
    wExtract P t47 0 w fun t48 w =>
    wExtract P t47 1 w fun t49 w =>
    wStore P T_A128uint8 t2 t48 w fun w =>
    wRes P T_A128uint8 t2 w fun r2 =>
    k (.tuple #[r2, t49]) w)

theorem call_ref05_WriteSlots (a0 : Value) {w : World} {k : Value → World → Prop} (h : F_ref05_WriteSlots a0 w k) : wCall P n_ref05_WriteSlots [a0] w k :=
  call_of_den mixedP Try.func75 (by kernel_rfl) (.s .z (.s .z (.j [4] [0, 2] (.s .z (.b (.l [4, 5] [0, 2] (.s .z (.s (.b (.s .z (.s (.s (.r (.ops [0, 1, 2, 3] (.grp 3 false 23 [21, 22] (.ops [4, 5, 6] .nil) (.ops [7] .nil)))) .z) .z))) .z))))) .z))) (by kernel_rfl) (Eq.mp (by kernel_rfl) h)

def F_ref05_ReadSlots (a0 : Value) (w : World) (k : Value → World → Prop) : Prop :=
  wBox P T_A128uint8 a0 w fun t1 w =>
  wLoad P T_A128uint8 t1 w fun t9 w =>
  wBuildS P T_Lint 4 [(0, (.int .i64 4)), (1, (.int .i64 4)), (2, (.int .i64 2)), (3, (.int .i64 1))] w fun t10 w =>
  wCall P n_ref05_Opened [(.int .u8 4), t9, t10] w fun t11 w =>
  wExtract P t11 0 w fun t12 w =>
  wExtract P t11 1 w fun t13 w =>
  wJ2 (fun k1 =>
    wL3 t13 (.slice none 0 0) (.int .i64 0) w (fun _ v5 v6 v7 w k2 =>
      wBin P .add T_int v7 (.int .i64 3) w fun t15 w =>
      wLen P .len #[T_Lint64] [t12] w fun t17 w =>
      wBin P .lss T_int t15 t17 w fun t18 w =>
      wIf t18 (
        wDraw w fun w =>
        wIndexA P T_Lint64 t12 v7 w fun t24 w =>
        wLoad P T_int64 t24 w fun t25 w =>
        wBin P .add T_int v7 (.int .i64 1) w fun t28 w =>
        wIndexA P T_Lint64 t12 t28 w fun t29 w =>
        wLoad P T_int64 t29 w fun t30 w =>
        wConv P T_int64 T_uint32 t30 w fun t31 w =>
        wBin P .add T_int v7 (.int .i64 2) w fun t34 w =>
        wIndexA P T_Lint64 t12 t34 w fun t35 w =>
        wLoad P T_int64 t35 w fun t36 w =>
        wBin P .add T_int v7 (.int .i64 3) w fun t39 w =>
        wIndexA P T_Lint64 t12 t39 w fun t40 w =>
        wLoad P T_int64 t40 w fun t41 w =>
        wBuild P T_ref05_Slot [(0, t25), (1, t31), (2, t36), (3, t41)] w fun t42 w =>
        wBuildS P T_Lref05_Slot 1 [(0, t42)] w fun t43 w =>
        wBuiltin P .append #[T_Lref05_Slot, T_Lref05_Slot] [v6, t43] w fun t44 w =>
        wGrp v5 true (fun k52 =>
          wBin P .add T_int v7 (.int .i64 3) w fun t49 w =>
          wIndexA P T_Lint64 t12 t49 w fun t50 w =>
          wLoad P T_int64 t50 w fun t51 w =>
          wBin P .leq T_int64 t51 (.int .i64 2) w fun t52 w =>
          k52 t52 w) w fun _ t52 w =>
        wPick v5 t52 (.bool false) w fun t53 w =>
        wBin P .add T_int v7 (.int .i64 4) w fun t20 w =>
        k2 t53 t44 t20 w) (
        k1 v5 v6 w))) fun _ v5 v6 w =>
  wUn P .not v5 w fun t55 w =>
  wGrp t55 false (fun k59 =>
    wLen P .len #[T_Lref05_Slot] [v6] w fun t58 w =>
    wBin P .gtr T_int t58 (.int .i64 10) w fun t59 w =>
    k59 t59 w) w fun _ t59 w =>
  wPick t55 (.bool true) t59 w fun t60 w =>
  wIf t60 (
    k (.tuple #[(.slice none 0 0), (.bool false)]) w) (
    k (.tuple #[v6, (.bool true)]) w)

theorem call_ref05_ReadSlots (a0 : Value) {w : World} {k : Value → World → Prop} (h : F_ref05_ReadSlots a0 w k) : wCall P n_ref05_ReadSlots [a0] w k :=
  call_of_den mixedP Try.func77 (by kernel_rfl) (.s .z (.s .z (.s .z (.j [5, 6] [] (.s .z (.b (.l [5, 6, 7] [4] (.s .z (.s (.b (.s (.r (.ops [0, 1, 2, 3, 4, 5, 6, 7, 8, 9, 10, 11, 12, 13, 14, 15, 16, 17, 18, 19, 20, 21] (.eff 22 [] (.eff 23 [] (.ops [24] .nil))))) (.r (.ops [0, 1] (.grp 1 true 52 [47, 48, 49, 50, 51] (.ops [2, 3, 4, 5, 6, 7] .nil) (.ops [8, 9] .nil)))))) .z))))) (.s (.s (.r (.ops [0, 1, 2] (.grp 2 false 59 [57, 58] (.ops [3, 4, 5] .nil) (.ops [6] .nil)))) .z) .z))))) (by kernel_rfl) (Eq.mp (by kernel_rfl) h)

def F_ref05_WriteRecords (a0 : Value) (w : World) (k : Value → World → Prop) : Prop :=
  wAlloc P T_A128uint8 w fun t2 w =>
  wJ1 (fun k1 =>
    wL2 (.slice none 0 0) (.int .i64 0) w (fun _ v4 v5 w k2 =>
      wLen P .len #[T_Lref05_Record] [a0] w fun t9 w =>
      wBin P .lss T_int v5 t9 w fun t10 w =>
      wIf t10 (
        wIndexA P T_Lref05_Record a0 v5 w fun t15 w =>
        wLoad P T_ref05_Record t15 w fun t16 w =>
        wAlloc P T_ref05_Record w fun t6 w =>
        wStore P T_ref05_Record t6 t16 w fun w =>
        wFieldA P T_ref05_Record t6 3 w fun t17 w =>
        wLoad P T_int t17 w fun t18 w =>
        wBin P .lss T_int t18 (.int .i64 0) w fun t19 w =>
        wGrp t19 false (fun k23 =>
          wFieldA P T_ref05_Record t6 3 w fun t21 w =>
          wLoad P T_int t21 w fun t22 w =>
          wBin P .gtr T_int t22 (.int .i64 2) w fun t23 w =>
          k23 t23 w) w fun _ t23 w =>
        wPick t19 (.bool true) t23 w fun t24 w =>
        wIf t24 (
          wBuild P T_A128uint8 [] w fun t25 w =>
          wStore P T_A128uint8 t2 t25 w fun w =>
          wRes P T_A128uint8 t2 w fun r2 =>
          k (.tuple #[r2, (.bool false)]) w) (
          wFieldA P T_ref05_Record t6 0 w fun t27 w =>
          wLoad P T_uint32 t27 w fun t28 w =>
          wConv P T_uint32 T_int64 t28 w fun t29 w =>
          wBuild P T_ref05_Field [(0, (.int .i64 2)), (1, t29)] w fun t30 w =>
          wFieldA P T_ref05_Record t6 1 w fun t31 w =>
          wLoad P T_uint32 t31 w fun t32 w =>
          wConv P T_uint32 T_int64 t32 w fun t33 w =>
          wBuild P T_ref05_Field [(0, (.int .i64 4)), (1, t33)] w fun t34 w =>
          wFieldA P T_ref05_Record t6 2 w fun t35 w =>
          wLoad P T_int t35 w fun t36 w =>
          wBuild P T_ref05_Field [(0, (.int .i64 2)), (1, t36)] w fun t37 w =>
          wFieldA P T_ref05_Record t6 3 w fun t38 w =>
          wLoad P T_int t38 w fun t39 w =>
          wBuild P T_ref05_Field [(0, (.int .i64 1)), (1, t39)] w fun t40 w =>
          wBuildS P T_Lref05_Field 4 [(0, t30), (1, t34), (2, t37), (3, t40)] w fun t41 w =>
          wBuiltin P .append #[T_Lref05_Field, T_Lref05_Field] [v4, t41] w fun t42 w =>
          wBin P .add T_int v5 (.int .i64 1) w fun t12 w =>
          k2 t42 t12 w)) (
        k1 v4 w))) fun _ v4 w =>
  wLen P .len #[T_Lref05_Record] [a0] w fun t44 w =>
  wBin P .gtr T_int t44 (.int .i64 13) w fun t45 w =>
  wIf t45 (
    wBuild P T_A128uint8 [] w fun t46 w =>
    wStore P T_A128uint8 t2 t46 w fun w =>
    wRes P T_A128uint8 t2 w fun r2 =>
    k (.tuple #[r2, (.bool false)]) w) (
    wCall P n_ref05_Sealed [(.int .u8 7), v4] w fun t48 w =>
    wExtract P t48 0 w fun t49 w =>
    wExtract P t48 1 w fun t50 w =>
    wStore P T_A128uint8 t2 t49 w fun w =>
    wRes P T_A128uint8 t2 w fun r2 =>
    k (.tuple #[r2, t50]) w)

theorem call_ref05_WriteRecords (a0 : Value) {w : World} {k : Value → World → Prop} (h : F_ref05_WriteRecords a0 w k) : wCall P n_ref05_WriteRecords [a0] w k :=
  call_of_den mixedP Try.func79 (by kernel_rfl) (.s .z (.s .z (.j [4] [0, 2] (.s .z (.b (.l [4, 5] [0, 2] (.s .z (.s (.b (.s .z (.s (.s (.r (.ops [0, 1, 2, 3] (.grp 3 false 23 [21, 22] (.ops [4, 5, 6] .nil) (.ops [7] .nil)))) .z) .z))) .z))))) .z))) (by kernel_rfl) (Eq.mp (by kernel_rfl) h)

def F_ref05_ReadRecords (a0 : Value) (w : World) (k : Value → World → Prop) : Prop :=
  wBox P T_A128uint8 a0 w fun t1 w =>
  wLoad P T_A128uint8 t1 w fun t9 w =>
  wBuildS P T_Lint 4 [(0, (.int .i64 2)), (1, (.int .i64 4)), (2, (.int .i64 2)), (3, (.int .i64 1))] w fun t10 w =>
  wCall P n_ref05_Opened [(.int .u8 7), t9, t10] w fun t11 w =>
  wExtract P t11 0 w fun t12 w =>
  wExtract P t11 1 w fun t13 w =>
  wJ2 (fun k1 =>
    wL3 t13 (.slice none 0 0) (.int .i64 0) w (fun _ v5 v6 v7 w k2 =>
      wBin P .add T_int v7 (.int .i64 3) w fun t15 w =>
      wLen P .len #[T_Lint64] [t12] w fun t17 w =>
      wBin P .lss T_int t15 t17 w fun t18 w =>
      wIf t18 (
        wDraw w fun w =>
        wIndexA P T_Lint64 t12 v7 w fun t24 w =>
        wLoad P T_int64 t24 w fun t25 w =>
        wConv P T_int64 T_uint32 t25 w fun t26 w =>
        wBin P .add T_int v7 (.int .i64 1) w fun t29 w =>
        wIndexA P T_Lint64 t12 t29 w fun t30 w =>
        wLoad P T_int64 t30 w fun t31 w =>
        wConv P T_int64 T_uint32 t31 w fun t32 w =>
        wBin P .add T_int v7 (.int .i64 2) w fun t35 w =>
        wIndexA P T_Lint64 t12 t35 w fun t36 w =>
        wLoad P T_int64 t36 w fun t37 w =>
        wBin P .add T_int v7 (.int .i64 3) w fun t40 w =>
        wIndexA P T_Lint64 t12 t40 w fun t41 w =>
        wLoad P T_int64 t41 w fun t42 w =>
        wBuild P T_ref05_Record [(0, t26), (1, t32), (2, t37), (3, t42)] w fun t43 w =>
        wBuildS P T_Lref05_Record 1 [(0, t43)] w fun t44 w =>
        wBuiltin P .append #[T_Lref05_Record, T_Lref05_Record] [v6, t44] w fun t45 w =>
        wGrp v5 true (fun k53 =>
          wBin P .add T_int v7 (.int .i64 3) w fun t50 w =>
          wIndexA P T_Lint64 t12 t50 w fun t51 w =>
          wLoad P T_int64 t51 w fun t52 w =>
          wBin P .leq T_int64 t52 (.int .i64 2) w fun t53 w =>
          k53 t53 w) w fun _ t53 w =>
        wPick v5 t53 (.bool false) w fun t54 w =>
        wBin P .add T_int v7 (.int .i64 4) w fun t20 w =>
        k2 t54 t45 t20 w) (
        k1 v5 v6 w))) fun _ v5 v6 w =>
  wUn P .not v5 w fun t56 w =>
  wGrp t56 false (fun k60 =>
    wLen P .len #[T_Lref05_Record] [v6] w fun t59 w =>
    wBin P .gtr T_int t59 (.int .i64 13) w fun t60 w =>
    k60 t60 w) w fun _ t60 w =>
  wPick t56 (.bool true) t60 w fun t61 w =>
  wIf t61 (
    k (.tuple #[(.slice none 0 0), (.bool false)]) w) (
    k (.tuple #[v6, (.bool true)]) w)

theorem call_ref05_ReadRecords (a0 : Value) {w : World} {k : Value → World → Prop} (h : F_ref05_ReadRecords a0 w k) : wCall P n_ref05_ReadRecords [a0] w k :=
  call_of_den mixedP Try.func81 (by kernel_rfl) (.s .z (.s .z (.s .z (.j [5, 6] [] (.s .z (.b (.l [5, 6, 7] [4] (.s .z (.s (.b (.s (.r (.ops [0, 1, 2, 3, 4, 5, 6, 7, 8, 9, 10, 11, 12, 13, 14, 15, 16, 17, 18, 19, 20, 21, 22] (.eff 23 [] (.eff 24 [] (.ops [25] .nil))))) (.r (.ops [0, 1] (.grp 1 true 53 [48, 49, 50, 51, 52] (.ops [2, 3, 4, 5, 6, 7] .nil) (.ops [8, 9] .nil)))))) .z))))) (.s (.s (.r (.ops [0, 1, 2] (.grp 2 false 60 [58, 59] (.ops [3, 4, 5] .nil) (.ops [6] .nil)))) .z) .z))))) (by kernel_rfl) (Eq.mp (by kernel_rfl) h)

def F_ref05_WriteSummary (a0 : Value) (w : World) (k : Value → World → Prop) : Prop :=
  wBox P T_ref05_Summary a0 w fun t1 w =>
  wAlloc P T_A128uint8 w fun t2 w =>
  wDraw w fun w =>
  wFieldA P T_ref05_Summary t1 0 w fun t8 w =>
  wLoad P T_uint64 t8 w fun t9 w =>
  wFieldA P T_ref05_Summary t1 1 w fun t11 w =>
  wLoad P T_uint64 t11 w fun t12 w =>
  wCall P n_ref01_Low [t9, (.int .i64 8)] w fun t10 w =>
  wKeep P [(T_uint64, t11, t12)] w ∧ wCall P n_ref01_Low [t12, (.int .i64 8)] w fun t13 w =>
  wBuiltin P .append #[T_Luint8, T_Luint8] [t10, t13] w fun t14 w =>
  wFieldA P T_ref05_Summary t1 5 w fun t15 w =>
  wLoad P T_Lref05_Entry t15 w fun t16 w =>
  wLen P .len #[T_Lref05_Entry] [t16] w fun t17 w =>
  wBin P .gtr T_int t17 (.int .i64 8) w fun t18 w =>
  wGrp t18 false (fun k22 =>
    wFieldA P T_ref05_Summary t1 3 w fun t20 w =>
    wLoad P T_int t20 w fun t21 w =>
    wBin P .lss T_int t21 (.int .i64 0) w fun t22 w =>
    k22 t22 w) w fun _ t22 w =>
  wPick t18 (.bool true) t22 w fun t23 w =>
  wGrp t23 false (fun k27 =>
    wFieldA P T_ref05_Summary t1 3 w fun t25 w =>
    wLoad P T_int t25 w fun t26 w =>
    wBin P .gtr T_int t26 (.int .i64 65535) w fun t27 w =>
    k27 t27 w) w fun _ t27 w =>
  wPick t23 (.bool true) t27 w fun t28 w =>
  wIf t28 (
    wBuild P T_A128uint8 [] w fun t29 w =>
    wStore P T_A128uint8 t2 t29 w fun w =>
    wRes P T_A128uint8 t2 w fun r2 =>
    k (.tuple #[r2, (.bool false)]) w) (
    wJ1 (fun k2 =>
      wFieldA P T_ref05_Summary t1 2 w fun t30 w =>
      wLoad P T_bool t30 w fun t31 w =>
      wIf t31 (
        k2 (.int .u8 1) w) (
        k2 (.int .u8 0) w)) fun _ v5 w =>
    wFieldA P T_ref05_Summary t1 5 w fun t34 w =>
    wLoad P T_Lref05_Entry t34 w fun t35 w =>
    wLen P .len #[T_Lref05_Entry] [t35] w fun t36 w =>
    wConv P T_int T_uint8 t36 w fun t37 w =>
    wBuildS P T_Luint8 2 [(0, v5), (1, t37)] w fun t38 w =>
    wBuiltin P .append #[T_Luint8, T_Luint8] [t14, t38] w fun t39 w =>
    wFieldA P T_ref05_Summary t1 3 w fun t41 w =>
    wLoad P T_int t41 w fun t42 w =>
    wConv P T_int T_uint64 t42 w fun t43 w =>
    wCall P n_ref01_Low [t43, (.int .i64 2)] w fun t44 w =>
    wBuiltin P .append #[T_Luint8, T_Luint8] [t39, t44] w fun t45 w =>
    wFieldA P T_ref05_Summary t1 4 w fun t47 w =>
    wLoad P T_uint32 t47 w fun t48 w =>
    wConv P T_uint32 T_uint64 t48 w fun t49 w =>
    wCall P n_ref01_Low [t49, (.int .i64 4)] w fun t50 w =>
    wBuiltin P .append #[T_Luint8, T_Luint8] [t45, t50] w fun t51 w =>
    wJ1 (fun k2 =>
      wL2 t51 (.int .i64 0) w (fun _ v4 v6 w k3 =>
        wFieldA P T_ref05_Summary t1 5 w fun t53 w =>
        wLoad P T_Lref05_Entry t53 w fun t54 w =>
        wLen P .len #[T_Lref05_Entry] [t54] w fun t55 w =>
        wBin P .lss T_int v6 t55 w fun t56 w =>
        wIf t56 (
          wFieldA P T_ref05_Summary t1 5 w fun t59 w =>
          wLoad P T_Lref05_Entry t59 w fun t60 w =>
          wIndexA P T_Lref05_Entry t60 v6 w fun t62 w =>
          wLoad P T_ref05_Entry t62 w fun t63 w =>
          wAlloc P T_ref05_Entry w fun t7 w =>
          wStore P T_ref05_Entry t7 t63 w fun w =>
          wFieldA P T_ref05_Entry t7 0 w fun t64 w =>
          wLoad P T_int t64 w fun t65 w =>
          wBin P .lss T_int t65 (.int .i64 1) w fun t66 w =>
          wGrp t66 false (fun k70 =>
            wFieldA P T_ref05_Entry t7 0 w fun t68 w =>
            wLoad P T_int t68 w fun t69 w =>
            wBin P .gtr T_int t69 (.int .i64 6) w fun t70 w =>
            k70 t70 w) w fun _ t70 w =>
          wPick t66 (.bool true) t70 w fun t71 w =>
          wGrp t71 false (fun k75 =>
            wFieldA P T_ref05_Entry t7 1 w fun t73 w =>
            wLoad P T_uint32 t73 w fun t74 w =>
            wBin P .gtr T_uint32 t74 (.int .u32 65535) w fun t75 w =>
            k75 t75 w) w fun _ t75 w =>
          wPick t71 (.bool true) t75 w fun t76 w =>
          wGrp t76 false (fun k80 =>
            wFieldA P T_ref05_Entry t7 3 w fun t78 w =>
            wLoad P T_int t78 w fun t79 w =>
            wBin P .lss T_int t79 (.int .i64 0) w fun t80 w =>
            k80 t80 w) w fun _ t80 w =>
          wPick t76 (.bool true) t80 w fun t81 w =>
          wGrp t81 false (fun k85 =>
            wFieldA P T_ref05_Entry t7 3 w fun t83 w =>
            wLoad P T_int t83 w fun t84 w =>
            wBin P .gtr T_int t84 (.int .i64 65535) w fun t85 w =>
            k85 t85 w) w fun _ t85 w =>
          wPick t81 (.bool true) t85 w fun t86 w =>
          wIf t86 (
            wBuild P T_A128uint8 [] w fun t87 w =>
            wStore P T_A128uint8 t2 t87 w fun w =>
            wRes P T_A128uint8 t2 w fun r2 =>
            k (.tuple #[r2, (.bool false)]) w) (
            wFieldA P T_ref05_Entry t7 0 w fun t89 w =>
            wLoad P T_int t89 w fun t90 w =>
            wConv P T_int T_uint8 t90 w fun t91 w =>
            wBuildS P T_Luint8 1 [(0, t91)] w fun t92 w =>
            wBuiltin P .append #[T_Luint8, T_Luint8] [v4, t92] w fun t93 w =>
            wFieldA P T_ref05_Entry t7 1 w fun t95 w =>
            wLoad P T_uint32 t95 w fun t96 w =>
            wConv P T_uint32 T_uint64 t96 w fun t97 w =>
            wCall P n_ref01_Low [t97, (.int .i64 2)] w fun t98 w =>
            wBuiltin P .append #[T_Luint8, T_Luint8] [t93, t98] w fun t99 w =>
            wFieldA P T_ref05_Entry t7 2 w fun t101 w =>
            wLoad P T_uint32 t101 w fun t102 w =>
            wConv P T_uint32 T_uint64 t102 w fun t103 w =>
            wCall P n_ref01_Low [t103, (.int .i64 4)] w fun t104 w =>
            wBuiltin P .append #[T_Luint8, T_Luint8] [t99, t104] w fun t105 w =>
            wFieldA P T_ref05_Entry t7 3 w fun t107 w =>
            wLoad P T_int t107 w fun t108 w =>
            wConv P T_int T_uint64 t108 w fun t109 w =>
            wCall P n_ref01_Low [t109, (.int .i64 2)] w fun t110 w =>
            wBuiltin P .append #[T_Luint8, T_Luint8] [t105, t110] w fun t111 w =>
            wBin P .add T_int v6 (.int .i64 1) w fun t58 w =>
            k3 t111 t58 w)) (
          k2 v4 w))) fun _ v4 w =>
    wCall P n_ref02_Make [(.int .u8 3), v4] w fun t113 w =>
    wExtract P t113 0 w fun t114 w =>
    wExtract P t113 1 w fun t115 w =>
    wStore P T_A128uint8 t2 t114 w fun w =>
    wRes P T_A128uint8 t2 w fun r2 =>
    k (.tuple #[r2, t115]) w)

theorem call_ref05_WriteSummary (a0 : Value) {w : World} {k : Value → World → Prop} (h : F_ref05_WriteSummary a0 w k) : wCall P n_ref05_WriteSummary [a0] w k :=
  call_of_den mixedP Try.func84 (by kernel_rfl) (.s .z (.s (.r (.ops [0, 1, 3, 4] (.eff 2 [4] (.eff 5 [] (.eff 6 [] (.ops [7] .nil)))))) (.s (.s (.r (.ops [0, 1, 2, 3, 4] (.grp 4 false 22 [20, 21] (.ops [5, 6, 7] .nil) (.ops [8, 9] (.grp 9 false 27 [25, 26] (.ops [10, 11, 12] .nil) (.ops [13] .nil)))))) .z) (.s .z (.j [5] [1, 2, 4] .z (.s .z (.s .z (.s .z (.j [4] [2] (.s .z (.b (.l [4, 6] [1, 2] (.s .z (.s (.b (.s .z (.s (.s (.r (.ops [0, 1, 2, 3] (.grp 3 false 70 [68, 69] (.ops [4, 5, 6] .nil) (.ops [7, 8] (.grp 8 false 75 [73, 74] (.ops [9, 10, 11] .nil) (.ops [12, 13] (.grp 13 false 80 [78, 79] (.ops [14, 15, 16] .nil) (.ops [17, 18] (.grp 18 false 85 [83, 84] (.ops [19, 20, 21] .nil) (.ops [22] .nil)))))))))) .z) .z))) .z))))) .z))))))))) (by kernel_rfl) (Eq.mp (by kernel_rfl) h)

def F_ref05_ReadSummary (a0 : Value) (w : World) (k : Value → World → Prop) : Prop :=
  wBox P T_A128uint8 a0 w fun t1 w =>
  wAlloc P T_ref05_Summary w fun t2 w =>
  wLoad P T_A128uint8 t1 w fun t11 w =>
  wCall P n_ref02_Open [t11] w fun t12 w =>
  wExtract P t12 0 w fun t13 w =>
  wExtract P t12 1 w fun t14 w =>
  wExtract P t12 2 w fun t15 w =>
  wUn P .not t15 w fun t17 w =>
  wGrp t17 false (fun k20 =>
    wBin P .neq T_uint8 t13 (.int .u8 3) w fun t20 w =>
    k20 t20 w) w fun _ t20 w =>
  wPick t17 (.bool true) t20 w fun t21 w =>
  wGrp t21 false (fun k25 =>
    wLen P .len #[T_Luint8] [t14] w fun t24 w =>
    wBin P .lss T_int t24 (.int .i64 24) w fun t25 w =>
    k25 t25 w) w fun _ t25 w =>
  wPick t21 (.bool true) t25 w fun t26 w =>
  wGrp t26 false (fun k31 =>
    wIndexA P T_Luint8 t14 (.int .i64 16) w fun t29 w =>
    wLoad P T_uint8 t29 w fun t30 w =>
    wBin P .gtr T_uint8 t30 (.int .u8 1) w fun t31 w =>
    k31 t31 w) w fun _ t31 w =>
  wPick t26 (.bool true) t31 w fun t32 w =>
  wGrp t32 false (fun k42 =>
    wLen P .len #[T_Luint8] [t14] w fun t35 w =>
    wIndexA P T_Luint8 t14 (.int .i64 17) w fun t37 w =>
    wLoad P T_uint8 t37 w fun t38 w =>
    wConv P T_uint8 T_int t38 w fun t39 w =>
    wBin P .mul T_int (.int .i64 9) t39 w fun t40 w =>
    wBin P .add T_int (.int .i64 24) t40 w fun t41 w =>
    wBin P .neq T_int t35 t41 w fun t42 w =>
    k42 t42 w) w fun _ t42 w =>
  wPick t32 (.bool true) t42 w fun t43 w =>
  wIf t43 (
    wBuild P T_ref05_Summary [] w fun t44 w =>
    wStore P T_ref05_Summary t2 t44 w fun w =>
    wRes P T_ref05_Summary t2 w fun r2 =>
    k (.tuple #[r2, (.bool false)]) w) (
    wJ1 (fun k2 =>
      wDraw w fun w =>
      wSlice P T_Luint8 t14 none (some (.int .i64 8)) none w fun t46 w =>
      wSlice P T_Luint8 t14 (some (.int .i64 8)) (some (.int .i64 16)) none w fun t49 w =>
      wIndexA P T_Luint8 t14 (.int .i64 16) w fun t52 w =>
      wLoad P T_uint8 t52 w fun t53 w =>
      wBin P .eql T_uint8 t53 (.int .u8 1) w fun t54 w =>
      wSlice P T_Luint8 t14 (some (.int .i64 18)) (some (.int .i64 20)) none w fun t56 w =>
      wSlice P T_Luint8 t14 (some (.int .i64 20)) (some (.int .i64 24)) none w fun t60 w =>
      (wCall P n_ref01_Num [t46] w fun t47 w =>
        wKeep P [(T_uint8, t52, t53)] w ∧ (wCall P n_ref01_Num [t49] w fun t50 w =>
          wKeep P [(T_uint8, t52, t53)] w ∧ (wCall P n_ref01_Num [t56] w fun t57 w =>
            wKeep P [(T_uint8, t52, t53)] w ∧ wConv P T_uint64 T_int t57 w fun t58 w =>
            (wCall P n_ref01_Num [t60] w fun t61 w =>
              wKeep P [(T_uint8, t52, t53)] w ∧ wConv P T_uint64 T_uint32 t61 w fun t62 w =>
              wBuild P T_ref05_Summary [(0, t47), (1, t50), (2, t54), (3, t58), (4, t62)] w fun t63 w =>
              wAlloc P T_ref05_Summary w fun t7 w =>
              wKeep P [(T_uint8, t52, t53)] w ∧ wStore P T_ref05_Summary t7 t63 w fun w =>
              k2 t7 w) ∧ (wAlloc P T_ref05_Summary w fun t7 w =>
              wKeep P [(T_uint8, t52, t53)] w ∧ wCall P n_ref01_Num [t60] w fun t61 w =>
              wKeep P [(T_uint8, t52, t53)] w ∧ wConv P T_uint64 T_uint32 t61 w fun t62 w =>
              wBuild P T_ref05_Summary [(0, t47), (1, t50), (2, t54), (3, t58), (4, t62)] w fun t63 w =>
              wStore P T_ref05_Summary t7 t63 w fun w =>
              k2 t7 w)) ∧ (wAlloc P T_ref05_Summary w fun t7 w =>
            wKeep P [(T_uint8, t52, t53)] w ∧ wCall P n_ref01_Num [t56] w fun t57 w =>
            wKeep P [(T_uint8, t52, t53)] w ∧ wConv P T_uint64 T_int t57 w fun t58 w =>
            wCall P n_ref01_Num [t60] w fun t61 w =>
            wKeep P [(T_uint8, t52, t53)] w ∧ wConv P T_uint64 T_uint32 t61 w fun t62 w =>
            wBuild P T_ref05_Summary [(0, t47), (1, t50), (2, t54), (3, t58), (4, t62)] w fun t63 w =>
            wStore P T_ref05_Summary t7 t63 w fun w =>
            k2 t7 w)) ∧ (wAlloc P T_ref05_Summary w fun t7 w =>
          wKeep P [(T_uint8, t52, t53)] w ∧ wCall P n_ref01_Num [t49] w fun t50 w =>
          wKeep P [(T_uint8, t52, t53)] w ∧ wCall P n_ref01_Num [t56] w fun t57 w =>
          wKeep P [(T_uint8, t52, t53)] w ∧ wConv P T_uint64 T_int t57 w fun t58 w =>
          wCall P n_ref01_Num [t60] w fun t61 w =>
          wKeep P [(T_uint8, t52, t53)] w ∧ wConv P T_uint64 T_uint32 t61 w fun t62 w =>
          wBuild P T_ref05_Summary [(0, t47), (1, t50), (2, t54), (3, t58), (4, t62)] w fun t63 w =>
          wStore P T_ref05_Summary t7 t63 w fun w =>
          k2 t7 w)) ∧ (wAlloc P T_ref05_Summary w fun t7 w =>
        wKeep P [(T_uint8, t52, t53)] w ∧ wCall P n_ref01_Num [t46] w fun t47 w =>
        wKeep P [(T_uint8, t52, t53)] w ∧ wCall P n_ref01_Num [t49] w fun t50 w =>
        wKeep P [(T_uint8, t52, t53)] w ∧ wCall P n_ref01_Num [t56] w fun t57 w =>
        wKeep P [(T_uint8, t52, t53)] w ∧ wConv P T_uint64 T_int t57 w fun t58 w =>
        wCall P n_ref01_Num [t60] w fun t61 w =>
        wKeep P [(T_uint8, t52, t53)] w ∧ wConv P T_uint64 T_uint32 t61 w fun t62 w =>
        wBuild P T_ref05_Summary [(0, t47), (1, t50), (2, t54), (3, t58), (4, t62)] w fun t63 w =>
        wStore P T_ref05_Summary t7 t63 w fun w =>
        k2 t7 w)) fun _ v7 w =>
    wJ0 (fun k2 =>
      wL1 (.int .i64 24) w (fun _ v8 w k3 =>
        wLen P .len #[T_Luint8] [t14] w fun t66 w =>
        wBin P .lss T_int v8 t66 w fun t67 w =>
        wIf t67 (
          wJ1 (fun k5 =>
            wDraw w fun w =>
            wIndexA P T_Luint8 t14 v8 w fun t72 w =>
            wLoad P T_uint8 t72 w fun t73 w =>
            wConv P T_uint8 T_int t73 w fun t74 w =>
            wBin P .add T_int v8 (.int .i64 1) w fun t77 w =>
            wBin P .add T_int v8 (.int .i64 3) w fun t79 w =>
            wSlice P T_Luint8 t14 (some t77) (some t79) none w fun t80 w =>
            wBin P .add T_int v8 (.int .i64 3) w fun t85 w =>
            wBin P .add T_int v8 (.int .i64 7) w fun t87 w =>
            wSlice P T_Luint8 t14 (some t85) (some t87) none w fun t88 w =>
            wBin P .add T_int v8 (.int .i64 7) w fun t93 w =>
            wBin P .add T_int v8 (.int .i64 9) w fun t95 w =>
            wSlice P T_Luint8 t14 (some t93) (some t95) none w fun t96 w =>
            (wCall P n_ref01_Num [t80] w fun t81 w =>
              wKeep P [(T_uint8, t72, t73)] w ∧ wConv P T_uint64 T_uint32 t81 w fun t82 w =>
              (wCall P n_ref01_Num [t88] w fun t89 w =>
                wKeep P [(T_uint8, t72, t73)] w ∧ wConv P T_uint64 T_uint32 t89 w fun t90 w =>
                (wCall P n_ref01_Num [t96] w fun t97 w =>
                  wKeep P [(T_uint8, t72, t73)] w ∧ wConv P T_uint64 T_int t97 w fun t98 w =>
                  wBuild P T_ref05_Entry [(0, t74), (1, t82), (2, t90), (3, t98)] w fun t99 w =>
                  wAlloc P T_ref05_Entry w fun t9 w =>
                  wKeep P [(T_uint8, t72, t73)] w ∧ wStore P T_ref05_Entry t9 t99 w fun w =>
                  k5 t9 w) ∧ (wAlloc P T_ref05_Entry w fun t9 w =>
                  wKeep P [(T_uint8, t72, t73)] w ∧ wCall P n_ref01_Num [t96] w fun t97 w =>
                  wKeep P [(T_uint8, t72, t73)] w ∧ wConv P T_uint64 T_int t97 w fun t98 w =>
                  wBuild P T_ref05_Entry [(0, t74), (1, t82), (2, t90), (3, t98)] w fun t99 w =>
                  wStore P T_ref05_Entry t9 t99 w fun w =>
                  k5 t9 w)) ∧ (wAlloc P T_ref05_Entry w fun t9 w =>
                wKeep P [(T_uint8, t72, t73)] w ∧ wCall P n_ref01_Num [t88] w fun t89 w =>
                wKeep P [(T_uint8, t72, t73)] w ∧ wConv P T_uint64 T_uint32 t89 w fun t90 w =>
                wCall P n_ref01_Num [t96] w fun t97 w =>
                wKeep P [(T_uint8, t72, t73)] w ∧ wConv P T_uint64 T_int t97 w fun t98 w =>
                wBuild P T_ref05_Entry [(0, t74), (1, t82), (2, t90), (3, t98)] w fun t99 w =>
                wStore P T_ref05_Entry t9 t99 w fun w =>
                k5 t9 w)) ∧ (wAlloc P T_ref05_Entry w fun t9 w =>
              wKeep P [(T_uint8, t72, t73)] w ∧ wCall P n_ref01_Num [t80] w fun t81 w =>
              wKeep P [(T_uint8, t72, t73)] w ∧ wConv P T_uint64 T_uint32 t81 w fun t82 w =>
              wCall P n_ref01_Num [t88] w fun t89 w =>
              wKeep P [(T_uint8, t72, t73)] w ∧ wConv P T_uint64 T_uint32 t89 w fun t90 w =>
              wCall P n_ref01_Num [t96] w fun t97 w =>
              wKeep P [(T_uint8, t72, t73)] w ∧ wConv P T_uint64 T_int t97 w fun t98 w =>
              wBuild P T_ref05_Entry [(0, t74), (1, t82), (2, t90), (3, t98)] w fun t99 w =>
              wStore P T_ref05_Entry t9 t99 w fun w =>
              k5 t9 w)) fun _ v9 w =>
          wFieldA P T_ref05_Entry v9 0 w fun t100 w =>
          wLoad P T_int t100 w fun t101 w =>
          wBin P .lss T_int t101 (.int .i64 1) w fun t102 w =>
          wGrp t102 false (fun k106 =>
            wFieldA P T_ref05_Entry v9 0 w fun t104 w =>
            wLoad P T_int t104 w fun t105 w =>
            wBin P .gtr T_int t105 (.int .i64 6) w fun t106 w =>
            k106 t106 w) w fun _ t106 w =>
          wPick t102 (.bool true) t106 w fun t107 w =>
          wIf t107 (
            wBuild P T_ref05_Summary [] w fun t108 w =>
            wStore P T_ref05_Summary t2 t108 w fun w =>
            wRes P T_ref05_Summary t2 w fun r2 =>
            k (.tuple #[r2, (.bool false)]) w) (
            wFieldA P T_ref05_Summary v7 5 w fun t109 w =>
            wLoad P T_Lref05_Entry t109 w fun t110 w =>
            wLoad P T_ref05_Entry v9 w fun t111 w =>
            wBuildS P T_Lref05_Entry 1 [(0, t111)] w fun t112 w =>
            wBuiltin P .append #[T_Lref05_Entry, T_Lref05_Entry] [t110, t112] w fun t113 w =>
            wFieldA P T_ref05_Summary v7 5 w fun t114 w =>
            wStore P T_Lref05_Entry t114 t113 w fun w =>
            wBin P .add T_int v8 (.int .i64 9) w fun t69 w =>
            k3 t69 w)) (
          k2 w))) fun _ w =>
    wDraw w fun w =>
    wLoad P T_ref05_Summary v7 w fun t115 w =>
    wFieldA P T_ref05_Summary v7 5 w fun t116 w =>
    wLoad P T_Lref05_Entry t116 w fun t117 w =>
    wLen P .len #[T_Lref05_Entry] [t117] w fun t118 w =>
    wBin P .leq T_int t118 (.int .i64 8) w fun t119 w =>
    wStore P T_ref05_Summary t2 t115 w fun w =>
    wKeep P [(T_Lref05_Entry, t116, t117)] w ∧ wRes P T_ref05_Summary t2 w fun r2 =>
    k (.tuple #[r2, t119]) w)

theorem call_ref05_ReadSummary (a0 : Value) {w : World} {k : Value → World → Prop} (h : F_ref05_ReadSummary a0 w k) : wCall P n_ref05_ReadSummary [a0] w k :=
  call_of_den mixedP Try.func88 (by kernel_rfl) (.s .z (.s .z (.s (.s (.r (.ops [0, 1, 2] (.grp 2 false 20 [19] (.ops [3, 4] .nil) (.ops [5, 6] (.grp 6 false 25 [23, 24] (.ops [7, 8, 9] .nil) (.ops [10, 11] (.grp 11 false 31 [28, 29, 30] (.ops [12, 13, 14, 15] .nil) (.ops [16, 17] (.grp 17 false 42 [34, 35, 36, 37, 38, 39, 40, 41] (.ops [18, 19, 20, 21, 22, 23, 24, 25, 26] .nil) (.ops [27] .nil)))))))))) .z) (.j [7] [2, 5] (.r (.ops [0, 1, 3, 4, 6, 7, 8, 9, 10, 11, 14, 15] (.alt (.eff 2 [8] (.alt (.eff 5 [8] (.alt (.eff 12 [8] (.ops [13] (.alt (.eff 16 [8] (.ops [17, 18] (.eff 19 [8] (.eff 20 [] .nil)))) (.eff 19 [8] (.eff 16 [8] (.ops [17, 18] (.eff 20 [] .nil))))))) (.eff 19 [8] (.eff 12 [8] (.ops [13] (.eff 16 [8] (.ops [17, 18] (.eff 20 [] .nil)))))))) (.eff 19 [8] (.eff 5 [8] (.eff 12 [8] (.ops [13] (.eff 16 [8] (.ops [17, 18] (.eff 20 [] .nil))))))))) (.eff 19 [8] (.eff 2 [8] (.eff 5 [8] (.eff 12 [8] (.ops [13] (.eff 16 [8] (.ops [17, 18] (.eff 20 [] .nil))))))))))) (.j [] [2, 7] (.s .z (.b (.l [8] [2, 5, 7] (.s .z (.s (.b (.j [9] [2, 5, 7, 8] (.r (.ops [0, 1, 2, 3, 4, 5, 6, 7, 8, 9, 10, 13, 14, 15, 16, 17, 18, 21, 22, 23, 24, 25, 26] (.alt (.eff 11 [3] (.ops [12] (.alt (.eff 19 [3] (.ops [20] (.alt (.eff 27 [3] (.ops [28, 29] (.eff 30 [3] (.eff 31 [] .nil)))) (.eff 30 [3] (.eff 27 [3] (.ops [28, 29] (.eff 31 [] .nil))))))) (.eff 30 [3] (.eff 19 [3] (.ops [20] (.eff 27 [3] (.ops [28, 29] (.eff 31 [] .nil))))))))) (.eff 30 [3] (.eff 11 [3] (.ops [12] (.eff 19 [3] (.ops [20] (.eff 27 [3] (.ops [28, 29] (.eff 31 [] .nil))))))))))) (.s (.s (.r (.ops [0, 1, 2, 3] (.grp 3 false 106 [104, 105] (.ops [4, 5, 6] .nil) (.ops [7] .nil)))) .z) .z))) .z))))) (.s (.r (.ops [0, 1, 2, 3, 4] (.eff 5 [2] (.ops [6] .nil)))) .z)))))) (by kernel_rfl) (Eq.mp (by kernel_rfl) h)

def F_ref05_Sealed (a0 a1 : Value) (w : World) (k : Value → World → Prop) : Prop :=
  wAlloc P T_A128uint8 w fun t4 w =>
  wJ1 (fun k1 =>
    wL2 (.slice none 0 0) (.int .i64 0) w (fun _ v6 v7 w k2 =>
      wLen P .len #[T_Lref05_Field] [a1] w fun t10 w =>
      wBin P .lss T_int v7 t10 w fun t11 w =>
      wIf t11 (
        wDraw w fun w =>
        wIndexA P T_Lref05_Field a1 v7 w fun t16 w =>
        wFieldA P T_ref05_Field t16 1 w fun t17 w =>
        wLoad P T_int64 t17 w fun t18 w =>
        wBin P .lss T_int64 t18 (.int .i64 0) w fun t19 w =>
        wGrp t19 false (fun k33 =>
          wIndexA P T_Lref05_Field a1 v7 w fun t23 w =>
          wFieldA P T_ref05_Field t23 0 w fun t24 w =>
          wLoad P T_int t24 w fun t25 w =>
          wIndexA P T_Lref05_Field a1 v7 w fun t28 w =>
          wFieldA P T_ref05_Field t28 1 w fun t29 w =>
          wLoad P T_int64 t29 w fun t30 w =>
          wConv P T_int64 T_uint64 t30 w fun t31 w =>
          wCall P n_ref01_Has [t25, t31] w fun t32 w =>
          wUn P .not t32 w fun t33 w =>
          k33 t33 w) w fun _ t33 w =>
        wPick t19 (.bool true) t33 w fun t34 w =>
        wIf t34 (
          wBuild P T_A128uint8 [] w fun t35 w =>
          wStore P T_A128uint8 t4 t35 w fun w =>
          wRes P T_A128uint8 t4 w fun r4 =>
          k (.tuple #[r4, (.bool false)]) w) (
          wDraw w fun w =>
          wIndexA P T_Lref05_Field a1 v7 w fun t39 w =>
          wFieldA P T_ref05_Field t39 1 w fun t40 w =>
          wLoad P T_int64 t40 w fun t41 w =>
          wConv P T_int64 T_uint64 t41 w fun t42 w =>
          wIndexA P T_Lref05_Field a1 v7 w fun t45 w =>
          wFieldA P T_ref05_Field t45 0 w fun t46 w =>
          wLoad P T_int t46 w fun t47 w =>
          wCall P n_ref01_Low [t42, t47] w fun t48 w =>
          wBuiltin P .append #[T_Luint8, T_Luint8] [v6, t48] w fun t49 w =>
          wBin P .add T_int v7 (.int .i64 1) w fun t13 w =>
          k2 t49 t13 w)) (
        k1 v6 w))) fun _ v6 w =>
  wCall P n_ref02_Make [a0, v6] w fun t52 w =>
  wExtract P t52 0 w fun t53 w =>
  wExtract P t52 1 w fun t54 w =>
  wStore P T_A128uint8 t4 t53 w fun w =>
  wRes P T_A128uint8 t4 w fun r4 =>
  k (.tuple #[r4, t54]) w

theorem call_ref05_Sealed (a0 a1 : Value) {w : World} {k : Value → World → Prop} (h : F_ref05_Sealed a0 a1 w k) : wCall P n_ref05_Sealed [a0, a1] w k :=
  call_of_den mixedP Try.func165 (by kernel_rfl) (.s .z (.s .z (.j [6] [0, 4] (.s .z (.b (.l [6, 7] [0, 1, 4] (.s .z (.s (.b (.s (.s (.r (.ops [0, 1, 2, 3, 4, 5, 6] (.grp 6 false 33 [21, 22, 23, 24, 25, 26, 27, 28, 29, 30, 31, 32] (.ops [7, 8, 9, 10, 11, 12, 13, 14, 15, 16, 17] (.eff 18 [] (.ops [19] .nil))) (.ops [20] .nil)))) .z) (.r (.ops [0, 1, 2, 3, 4, 5, 6, 7, 8, 9, 10, 11] (.eff 12 [] (.eff 13 [] (.ops [14] .nil))))))) .z))))) .z))) (by kernel_rfl) (Eq.mp (by kernel_rfl) h)

def F_ref05_InodeFields (a0 : Value) (w : World) (k : Value → World → Prop) : Prop :=
  wBox P T_ref05_Inode a0 w fun t1 w =>
  wFieldA P T_ref05_Inode t1 0 w fun t5 w =>
  wLoad P T_uint32 t5 w fun t6 w =>
  wConv P T_uint32 T_int64 t6 w fun t7 w =>
  wBuild P T_ref05_Field [(0, (.int .i64 2)), (1, t7)] w fun t8 w =>
  wFieldA P T_ref05_Inode t1 1 w fun t9 w =>
  wLoad P T_uint32 t9 w fun t10 w =>
  wConv P T_uint32 T_int64 t10 w fun t11 w =>
  wBuild P T_ref05_Field [(0, (.int .i64 4)), (1, t11)] w fun t12 w =>
  wFieldA P T_ref05_Inode t1 2 w fun t13 w =>
  wLoad P T_int t13 w fun t14 w =>
  wBuild P T_ref05_Field [(0, (.int .i64 1)), (1, t14)] w fun t15 w =>
  wFieldA P T_ref05_Inode t1 3 w fun t16 w =>
  wLoad P T_int t16 w fun t17 w =>
  wBuild P T_ref05_Field [(0, (.int .i64 4)), (1, t17)] w fun t18 w =>
  wFieldA P T_ref05_Inode t1 4 w fun t19 w =>
  wLoad P T_uint32 t19 w fun t20 w =>
  wConv P T_uint32 T_int64 t20 w fun t21 w =>
  wBuild P T_ref05_Field [(0, (.int .i64 4)), (1, t21)] w fun t22 w =>
  wBuildS P T_Lref05_Field 5 [(0, t8), (1, t12), (2, t15), (3, t18), (4, t22)] w fun t23 w =>
  wJ1 (fun k1 =>
    wL2 t23 (.int .i64 0) w (fun _ v3 v4 w k2 =>
      wBin P .lss T_int v4 (.int .i64 8) w fun t25 w =>
      wIf t25 (
        wFieldA P T_ref05_Inode t1 5 w fun t30 w =>
        wIndexA P T_A8int t30 v4 w fun t31 w =>
        wLoad P T_int t31 w fun t32 w =>
        wBuild P T_ref05_Field [(0, (.int .i64 4)), (1, t32)] w fun t33 w =>
        wBuildS P T_Lref05_Field 1 [(0, t33)] w fun t34 w =>
        wBuiltin P .append #[T_Lref05_Field, T_Lref05_Field] [v3, t34] w fun t35 w =>
        wBin P .add T_int v4 (.int .i64 1) w fun t27 w =>
        k2 t35 t27 w) (
        k1 v3 w))) fun _ v3 w =>
  wFieldA P T_ref05_Inode t1 6 w fun t37 w =>
  wLoad P T_int t37 w fun t38 w =>
  wBuild P T_ref05_Field [(0, (.int .i64 4)), (1, t38)] w fun t39 w =>
  wFieldA P T_ref05_Inode t1 7 w fun t40 w =>
  wLoad P T_int t40 w fun t41 w =>
  wBuild P T_ref05_Field [(0, (.int .i64 4)), (1, t41)] w fun t42 w =>
  wBuildS P T_Lref05_Field 2 [(0, t39), (1, t42)] w fun t43 w =>
  wBuiltin P .append #[T_Lref05_Field, T_Lref05_Field] [v3, t43] w fun t44 w =>
  k t44 w

theorem call_ref05_InodeFields (a0 : Value) {w : World} {k : Value → World → Prop} (h : F_ref05_InodeFields a0 w k) : wCall P n_ref05_InodeFields [a0] w k :=
  call_of_den mixedP Try.func166 (by kernel_rfl) (.s .z (.s .z (.j [3] [1] (.s .z (.b (.l [3, 4] [1] .z))) .z))) (by kernel_rfl) (Eq.mp (by kernel_rfl) h)

def F_ref05_Opened (a0 a1 a2 : Value) (w : World) (k : Value → World → Prop) : Prop :=
  wBox P T_A128uint8 a1 w fun t4 w =>
  wLoad P T_A128uint8 t4 w fun t15 w =>
  wCall P n_ref02_Open [t15] w fun t16 w =>
  wExtract P t16 0 w fun t17 w =>
  wExtract P t16 1 w fun t18 w =>
  wExtract P t16 2 w fun t19 w =>
  wUn P .not t19 w fun t21 w =>
  wGrp t21 false (fun k25 =>
    wBin P .neq T_uint8 t17 a0 w fun t25 w =>
    k25 t25 w) w fun _ t25 w =>
  wPick t21 (.bool true) t25 w fun t26 w =>
  wIf t26 (
    k (.tuple #[(.slice none 0 0), (.bool false)]) w) (
    wL2 (.slice none 0 0) (.int .i64 0) w (fun _ v11 v12 w k2 =>
      wLen P .len #[T_Luint8] [t18] w fun t29 w =>
      wBin P .lss T_int v12 t29 w fun t30 w =>
      wIf t30 (
        wL3 v11 v12 (.int .i64 0) w (fun _ v11 v12 v13 w k4 =>
          wLen P .len #[T_Lint] [a2] w fun t33 w =>
          wBin P .lss T_int v13 t33 w fun t34 w =>
          wIf t34 (
            wIndexA P T_Lint a2 v13 w fun t40 w =>
            wLoad P T_int t40 w fun t41 w =>
            wBin P .add T_int v12 t41 w fun t42 w =>
            wLen P .len #[T_Luint8] [t18] w fun t44 w =>
            wBin P .gtr T_int t42 t44 w fun t45 w =>
            wIf t45 (
              k (.tuple #[(.slice none 0 0), (.bool false)]) w) (
              wIndexA P T_Lint a2 v13 w fun t52 w =>
              wLoad P T_int t52 w fun t53 w =>
              wBin P .add T_int v12 t53 w fun t54 w =>
              wSlice P T_Luint8 t18 (some v12) (some t54) none w fun t55 w =>
              wCall P n_ref01_Num [t55] w fun t56 w =>
              wConv P T_uint64 T_int64 t56 w fun t57 w =>
              wBuildS P T_Lint64 1 [(0, t57)] w fun t58 w =>
              wBuiltin P .append #[T_Lint64, T_Lint64] [v11, t58] w fun t59 w =>
              wIndexA P T_Lint a2 v13 w fun t63 w =>
              wLoad P T_int t63 w fun t64 w =>
              wBin P .add T_int v12 t64 w fun t65 w =>
              wBin P .add T_int v13 (.int .i64 1) w fun t36 w =>
              k4 t59 t65 t36 w)) (
            k2 v11 v12 w))) (
        k (.tuple #[v11, (.bool true)]) w)))

theorem call_ref05_Opened (a0 a1 a2 : Value) {w : World} {k : Value → World → Prop} (h : F_ref05_Opened a0 a1 a2 w k) : wCall P n_ref05_Opened [a0, a1, a2] w k :=
  call_of_den mixedP Try.func169 (by kernel_rfl) (.s .z (.s .z (.s (.s (.r (.ops [0, 1, 2] (.grp 2 false 25 [23, 24] (.ops [3, 4, 5] .nil) (.ops [6] .nil)))) .z) (.s .z (.s .z (.s (.b (.l [11, 12] [2, 9] (.s .z (.b (.s .z (.b (.l [11, 12, 13] [2, 9] .z))))))) .z)))))) (by kernel_rfl) (Eq.mp (by kernel_rfl) h)

end Go.Dn
