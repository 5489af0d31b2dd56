import Derived.Test.YtflnhihdbhjlnaaGn
/-! Texts of functions, printed by mkg.py. -/
set_option maxRecDepth 100000
set_option linter.unusedVariables false
namespace Go.Dn
open Go Go.Proofs
def F_ref09_New (a0 a1 : Value) (w : World) (k : Value → World → Prop) : Prop :=
  wAlloc P T_ref09_Table w fun t4 w =>
  wCall P n_ref09_between [a1, (.int .i64 1), (.int .i64 4096)] w fun t6 w =>
  wCall P n_ref09_between [a0, (.int .i64 1), (.int .i64 200)] w fun t8 w =>
  wMake P T_Lref05_Use t8 t8 w fun t9 w =>
  wBuild P T_ref09_Table [(0, t6), (1, t9)] w fun t10 w =>
  wStore P T_ref09_Table t4 t10 w fun w =>
  wRes P T_ref09_Table t4 w fun r4 =>
  k r4 w

theorem call_ref09_New (a0 a1 : Value) {w : World} {k : Value → World → Prop} (h : F_ref09_New a0 a1 w k) : wCall P n_ref09_New [a0, a1] w k :=
  call_of_den mixedP Try.func89 (by kernel_rfl) .z (by kernel_rfl) (Eq.mp (by kernel_rfl) h)

def F_ref09_Better (a0 a1 a2 a3 : Value) (w : World) (k : Value → World → Prop) : Prop :=
  wBox P T_ref09_Table a0 w fun t4 w =>
  wFieldA P T_ref09_Table t4 1 w fun t13 w =>
  wLoad P T_Lref05_Use t13 w fun t14 w =>
  wIndexA P T_Lref05_Use t14 a1 w fun t16 w =>
  wLoad P T_ref05_Use t16 w fun t17 w =>
  wAlloc P T_ref05_Use w fun t9 w =>
  wStore P T_ref05_Use t9 t17 w fun w =>
  wFieldA P T_ref09_Table t4 1 w fun t18 w =>
  wLoad P T_Lref05_Use t18 w fun t19 w =>
  wIndexA P T_Lref05_Use t19 a2 w fun t21 w =>
  wLoad P T_ref05_Use t21 w fun t22 w =>
  wAlloc P T_ref05_Use w fun t10 w =>
  wStore P T_ref05_Use t10 t22 w fun w =>
  wJ1 (fun k1 =>
    wFieldA P T_ref05_Use t9 2 w fun t23 w =>
    wLoad P T_uint32 t23 w fun t24 w =>
    wBin P .leq T_uint32 t24 a3 w fun t26 w =>
    wIf t26 (
      wConv P T_uint32 T_uint64 a3 w fun t28 w =>
      wFieldA P T_ref05_Use t9 2 w fun t29 w =>
      wLoad P T_uint32 t29 w fun t30 w =>
      wConv P T_uint32 T_uint64 t30 w fun t31 w =>
      wBin P .sub T_uint64 t28 t31 w fun t32 w =>
      wBin P .add T_uint64 t32 (.int .u64 1) w fun t33 w =>
      k1 t33 w) (
      k1 (.int .u64 1) w)) fun _ v11 w =>
  wJ1 (fun k1 =>
    wFieldA P T_ref05_Use t10 2 w fun t34 w =>
    wLoad P T_uint32 t34 w fun t35 w =>
    wBin P .leq T_uint32 t35 a3 w fun t37 w =>
    wIf t37 (
      wConv P T_uint32 T_uint64 a3 w fun t39 w =>
      wFieldA P T_ref05_Use t10 2 w fun t40 w =>
      wLoad P T_uint32 t40 w fun t41 w =>
      wConv P T_uint32 T_uint64 t41 w fun t42 w =>
      wBin P .sub T_uint64 t39 t42 w fun t43 w =>
      wBin P .add T_uint64 t43 (.int .u64 1) w fun t44 w =>
      k1 t44 w) (
      k1 (.int .u64 1) w)) fun _ v12 w =>
  wFieldA P T_ref09_Table t4 0 w fun t45 w =>
  wLoad P T_int t45 w fun t46 w =>
  wFieldA P T_ref05_Use t9 0 w fun t47 w =>
  wLoad P T_int t47 w fun t48 w =>
  wBin P .sub T_int t46 t48 w fun t49 w =>
  wConv P T_int T_uint64 t49 w fun t50 w =>
  wBin P .mul T_uint64 t50 v11 w fun t52 w =>
  wFieldA P T_ref09_Table t4 0 w fun t53 w =>
  wLoad P T_int t53 w fun t54 w =>
  wFieldA P T_ref05_Use t10 0 w fun t55 w =>
  wLoad P T_int t55 w fun t56 w =>
  wBin P .add T_int t54 t56 w fun t57 w =>
  wConv P T_int T_uint64 t57 w fun t58 w =>
  wBin P .mul T_uint64 t52 t58 w fun t59 w =>
  wFieldA P T_ref09_Table t4 0 w fun t60 w =>
  wLoad P T_int t60 w fun t61 w =>
  wFieldA P T_ref05_Use t10 0 w fun t62 w =>
  wLoad P T_int t62 w fun t63 w =>
  wBin P .sub T_int t61 t63 w fun t64 w =>
  wConv P T_int T_uint64 t64 w fun t65 w =>
  wBin P .mul T_uint64 t65 v12 w fun t67 w =>
  wFieldA P T_ref09_Table t4 0 w fun t68 w =>
  wLoad P T_int t68 w fun t69 w =>
  wFieldA P T_ref05_Use t9 0 w fun t70 w =>
  wLoad P T_int t70 w fun t71 w =>
  wBin P .add T_int t69 t71 w fun t72 w =>
  wConv P T_int T_uint64 t72 w fun t73 w =>
  wBin P .mul T_uint64 t67 t73 w fun t74 w =>
  wBin P .gtr T_uint64 t59 t74 w fun t75 w =>
  k t75 w

theorem call_ref09_Better (a0 a1 a2 a3 : Value) {w : World} {k : Value → World → Prop} (h : F_ref09_Better a0 a1 a2 a3 w k) : wCall P n_ref09_Better [a0, a1, a2, a3] w k :=
  call_of_den mixedP Try.func91 (by kernel_rfl) (.s .z (.s .z (.s .z (.s .z (.s .z (.j [11] [3, 4, 9, 10, 12] .z (.j [12] [4, 9, 10, 11] .z .z))))))) (by kernel_rfl) (Eq.mp (by kernel_rfl) h)

def F_ref09_Order (a0 a1 : Value) (w : World) (k : Value → World → Prop) : Prop :=
  wBox P T_ref09_Table a0 w fun t2 w =>
  wFieldA P T_ref09_Table t2 1 w fun t9 w =>
  wLoad P T_Lref05_Use t9 w fun t10 w =>
  wLen P .len #[T_Lref05_Use] [t10] w fun t11 w =>
  wMake P T_Lbool t11 t11 w fun t12 w =>
  wL1 (.slice none 0 0) w (fun _ v5 w k1 =>
    wJ1 (fun k2 =>
      wL2 (.int .i64 (-1)) (.int .i64 0) w (fun _ v7 v8 w k3 =>
        wFieldA P T_ref09_Table t2 1 w fun t14 w =>
        wLoad P T_Lref05_Use t14 w fun t15 w =>
        wLen P .len #[T_Lref05_Use] [t15] w fun t16 w =>
        wBin P .lss T_int v8 t16 w fun t17 w =>
        wIf t17 (
          wFieldA P T_ref09_Table t2 1 w fun t20 w =>
          wLoad P T_Lref05_Use t20 w fun t21 w =>
          wIndexA P T_Lref05_Use t21 v8 w fun t23 w =>
          wFieldA P T_ref05_Use t23 1 w fun t24 w =>
          wLoad P T_int t24 w fun t25 w =>
          wBin P .eql T_int t25 (.int .i64 1) w fun t26 w =>
          wGrp t26 true (fun k32 =>
            wIndexA P T_Lbool t12 v8 w fun t30 w =>
            wLoad P T_bool t30 w fun t31 w =>
            wUn P .not t31 w fun t32 w =>
            k32 t32 w) w fun _ t32 w =>
          wPick t26 t32 (.bool false) w fun t33 w =>
          wGrp t33 true (fun k43 =>
            wBin P .lss T_int v7 (.int .i64 0) w fun t36 w =>
            wGrp t36 false (fun k42 =>
              wLoad P T_ref09_Table t2 w fun t38 w =>
              wCall P n_ref09_Better [t38, v8, v7, a1] w fun t42 w =>
              k42 t42 w) w fun _ t42 w =>
            wPick t36 (.bool true) t42 w fun t43 w =>
            k43 t43 w) w fun _ t43 w =>
          wPick t33 t43 (.bool false) w fun t44 w =>
          wIf t44 (
            wBin P .add T_int v8 (.int .i64 1) w fun t19 w =>
            k3 v8 t19 w) (
            wBin P .add T_int v8 (.int .i64 1) w fun t19 w =>
            k3 v7 t19 w)) (
          k2 v7 w))) fun _ v7 w =>
    wBin P .lss T_int v7 (.int .i64 0) w fun t47 w =>
    wIf t47 (
      k v5 w) (
      wIndexA P T_Lbool t12 v7 w fun t51 w =>
      wStore P T_bool t51 (.bool true) w fun w =>
      wBuildS P T_Lint 1 [(0, v7)] w fun t54 w =>
      wBuiltin P .append #[T_Lint, T_Lint] [v5, t54] w fun t55 w =>
      k1 t55 w))

theorem call_ref09_Order (a0 a1 : Value) {w : World} {k : Value → World → Prop} (h : F_ref09_Order a0 a1 w k) : wCall P n_ref09_Order [a0, a1] w k :=
  call_of_den mixedP Try.func93 (by kernel_rfl) (.s .z (.s .z (.s .z (.b (.l [5] [1, 2, 6] (.b (.s .z (.j [7] [1, 2, 5, 6] (.s .z (.b (.l [7, 8] [1, 2, 5, 6] (.s .z (.s (.b (.s (.r (.ops [0, 1, 2, 3, 4, 5, 6, 7] (.grp 7 true 32 [28, 29, 30, 31] (.ops [8, 9, 10, 11, 12] .nil) (.ops [13, 14] (.grp 14 true 43 [35, 36, 37, 38, 39, 40, 41, 42] (.ops [15, 16, 17] (.grp 17 false 42 [38, 39, 40, 41] (.ops [18, 19, 20, 21, 22] .nil) (.ops [23] .nil))) (.ops [24] .nil)))))) .z)) .z))))) .z)))))))) (by kernel_rfl) (Eq.mp (by kernel_rfl) h)

def F_ref09_Rank (a0 : Value) (w : World) (k : Value → World → Prop) : Prop :=
  wLen P .len #[T_Lfloat64] [a0] w fun t8 w =>
  wMake P T_Lbool t8 t8 w fun t9 w =>
  wL1 (.slice none 0 0) w (fun _ v3 w k1 =>
    wLen P .len #[T_Lint] [v3] w fun t11 w =>
    wLen P .len #[T_Lfloat64] [a0] w fun t13 w =>
    wBin P .lss T_int t11 t13 w fun t14 w =>
    wIf t14 (
      wJ1 (fun k3 =>
        wL2 (.int .i64 (-1)) (.int .i64 0) w (fun _ v5 v6 w k4 =>
          wLen P .len #[T_Lfloat64] [a0] w fun t17 w =>
          wBin P .lss T_int v6 t17 w fun t18 w =>
          wIf t18 (
            wIndexA P T_Lbool t9 v6 w fun t23 w =>
            wLoad P T_bool t23 w fun t24 w =>
            wIf t24 (
              wBin P .add T_int v6 (.int .i64 1) w fun t20 w =>
              k4 v5 t20 w) (
              wDraw w fun w =>
              wBin P .lss T_int v5 (.int .i64 0) w fun t26 w =>
              wGrp t26 false (fun k40 =>
                wIndexA P T_Lfloat64 a0 v5 w fun t30 w =>
                wLoad P T_float64 t30 w fun t31 w =>
                wCall P n_ref09_none [t31] w fun t32 w =>
                wGrp t32 true (fun k39 =>
                  wIndexA P T_Lfloat64 a0 v6 w fun t36 w =>
                  wLoad P T_float64 t36 w fun t37 w =>
                  wCall P n_ref09_none [t37] w fun t38 w =>
                  wUn P .not t38 w fun t39 w =>
                  k39 t39 w) w fun _ t39 w =>
                wPick t32 t39 (.bool false) w fun t40 w =>
                k40 t40 w) w fun _ t40 w =>
              wPick t26 (.bool true) t40 w fun t41 w =>
              wGrp t41 false (fun k51 =>
                wIndexA P T_Lfloat64 a0 v6 w fun t45 w =>
                wLoad P T_float64 t45 w fun t46 w =>
                wIndexA P T_Lfloat64 a0 v5 w fun t49 w =>
                wLoad P T_float64 t49 w fun t50 w =>
                wBin P .lss T_float64 t46 t50 w fun t51 w =>
                k51 t51 w) w fun _ t51 w =>
              wPick t41 (.bool true) t51 w fun t52 w =>
              wIf t52 (
                wBin P .add T_int v6 (.int .i64 1) w fun t20 w =>
                k4 v6 t20 w) (
                wBin P .add T_int v6 (.int .i64 1) w fun t20 w =>
                k4 v5 t20 w))) (
            k3 v5 w))) fun _ v5 w =>
      wIndexA P T_Lbool t9 v5 w fun t56 w =>
      wStore P T_bool t56 (.bool true) w fun w =>
      wBuildS P T_Lint 1 [(0, v5)] w fun t59 w =>
      wBuiltin P .append #[T_Lint, T_Lint] [v3, t59] w fun t60 w =>
      k1 t60 w) (
      k v3 w))

theorem call_ref09_Rank (a0 : Value) {w : World} {k : Value → World → Prop} (h : F_ref09_Rank a0 w k) : wCall P n_ref09_Rank [a0] w k :=
  call_of_den mixedP Try.func103 (by kernel_rfl) (.s .z (.s .z (.s .z (.s (.b (.l [3] [0, 4] (.s .z (.b (.s .z (.j [5] [0, 3, 4] (.s .z (.b (.l [5, 6] [0, 3, 4] (.s .z (.s (.b (.s .z (.s (.r (.ops [0, 1, 2] (.grp 2 false 40 [28, 29, 30, 31, 32, 33, 34, 35, 36, 37, 38, 39] (.ops [3, 4, 5, 6] (.eff 7 [] (.ops [8] (.grp 8 true 39 [34, 35, 36, 37, 38] (.ops [9, 10, 11, 12] (.eff 13 [] (.ops [14] .nil))) (.ops [15] .nil))))) (.ops [16, 17] (.grp 17 false 51 [43, 44, 45, 46, 47, 48, 49, 50] (.ops [18, 19, 20, 21, 22, 23, 24, 25, 26] .nil) (.ops [27] .nil)))))) .z))) .z))))) .z)))))) .z)))) (by kernel_rfl) (Eq.mp (by kernel_rfl) h)

def F_ref09_between (a0 a1 a2 : Value) (w : World) (k : Value → World → Prop) : Prop :=
  wBin P .lss T_int a0 a1 w fun t9 w =>
  wIf t9 (
    k a1 w) (
    wBin P .gtr T_int a0 a2 w fun t13 w =>
    wIf t13 (
      k a2 w) (
      k a0 w))

theorem call_ref09_between (a0 a1 a2 : Value) {w : World} {k : Value → World → Prop} (h : F_ref09_between a0 a1 a2 w k) : wCall P n_ref09_between [a0, a1, a2] w k :=
  call_of_den mixedP Try.func195 (by kernel_rfl) .z (by kernel_rfl) (Eq.mp (by kernel_rfl) h)

def F_ref09_Count (a0 a1 a2 : Value) (w : World) (k : Value → World → Prop) : Prop :=
  wBox P T_ref09_Table a0 w fun t3 w =>
  wAlloc P T_ref09_Table w fun t6 w =>
  wLoad P T_ref09_Table t3 w fun t9 w =>
  wCall P n_ref09_has [t9, a1] w fun t11 w =>
  wUn P .not t11 w fun t12 w =>
  wGrp t12 false (fun k15 =>
    wBin P .gtr T_int a2 (.int .i64 65535) w fun t15 w =>
    k15 t15 w) w fun _ t15 w =>
  wPick t12 (.bool true) t15 w fun t16 w =>
  wGrp t16 false (fun k19 =>
    wBin P .lss T_int a2 (.int .i64 (-65535)) w fun t19 w =>
    k19 t19 w) w fun _ t19 w =>
  wPick t16 (.bool true) t19 w fun t20 w =>
  wIf t20 (
    wLoad P T_ref09_Table t3 w fun t21 w =>
    wStore P T_ref09_Table t6 t21 w fun w =>
    wRes P T_ref09_Table t6 w fun r6 =>
    k (.tuple #[r6, (.int .i64 1)]) w) (
    wFieldA P T_ref09_Table t3 1 w fun t22 w =>
    wLoad P T_Lref05_Use t22 w fun t23 w =>
    wIndexA P T_Lref05_Use t23 a1 w fun t25 w =>
    wLoad P T_ref05_Use t25 w fun t26 w =>
    wAlloc P T_ref05_Use w fun t8 w =>
    wStore P T_ref05_Use t8 t26 w fun w =>
    wFieldA P T_ref05_Use t8 0 w fun t27 w =>
    wLoad P T_int t27 w fun t28 w =>
    wBin P .add T_int t28 a2 w fun t30 w =>
    wFieldA P T_ref05_Use t8 0 w fun t31 w =>
    wStore P T_int t31 t30 w fun w =>
    wFieldA P T_ref05_Use t8 0 w fun t32 w =>
    wLoad P T_int t32 w fun t33 w =>
    wBin P .lss T_int t33 (.int .i64 0) w fun t34 w =>
    wGrp t34 false (fun k40 =>
      wFieldA P T_ref05_Use t8 0 w fun t36 w =>
      wLoad P T_int t36 w fun t37 w =>
      wFieldA P T_ref09_Table t3 0 w fun t38 w =>
      wLoad P T_int t38 w fun t39 w =>
      wBin P .gtr T_int t37 t39 w fun t40 w =>
      k40 t40 w) w fun _ t40 w =>
    wPick t34 (.bool true) t40 w fun t41 w =>
    wIf t41 (
      wLoad P T_ref09_Table t3 w fun t42 w =>
      wStore P T_ref09_Table t6 t42 w fun w =>
      wRes P T_ref09_Table t6 w fun r6 =>
      k (.tuple #[r6, (.int .i64 1)]) w) (
      wLoad P T_ref09_Table t3 w fun t43 w =>
      wLoad P T_ref05_Use t8 w fun t45 w =>
      wCall P n_ref09_put [t43, a1, t45] w fun t46 w =>
      wStore P T_ref09_Table t6 t46 w fun w =>
      wRes P T_ref09_Table t6 w fun r6 =>
      k (.tuple #[r6, (.int .i64 0)]) w))

theorem call_ref09_Count (a0 a1 a2 : Value) {w : World} {k : Value → World → Prop} (h : F_ref09_Count a0 a1 a2 w k) : wCall P n_ref09_Count [a0, a1, a2] w k :=
  call_of_den mixedP Try.func200 (by kernel_rfl) (.s .z (.s (.s (.r (.ops [0, 1, 2, 3, 4] (.grp 4 false 15 [14] (.ops [5, 6] .nil) (.ops [7, 8] (.grp 8 false 19 [18] (.ops [9, 10] .nil) (.ops [11] .nil)))))) .z) (.s .z (.s .z (.s (.s (.r (.ops [0, 1, 2, 3] (.grp 3 false 40 [36, 37, 38, 39] (.ops [4, 5, 6, 7, 8] .nil) (.ops [9] .nil)))) .z) .z))))) (by kernel_rfl) (Eq.mp (by kernel_rfl) h)

def F_ref09_Touch (a0 a1 a2 : Value) (w : World) (k : Value → World → Prop) : Prop :=
  wBox P T_ref09_Table a0 w fun t3 w =>
  wAlloc P T_ref09_Table w fun t6 w =>
  wLoad P T_ref09_Table t3 w fun t9 w =>
  wCall P n_ref09_has [t9, a1] w fun t11 w =>
  wUn P .not t11 w fun t12 w =>
  wIf t12 (
    wLoad P T_ref09_Table t3 w fun t13 w =>
    wStore P T_ref09_Table t6 t13 w fun w =>
    wRes P T_ref09_Table t6 w fun r6 =>
    k (.tuple #[r6, (.int .i64 1)]) w) (
    wFieldA P T_ref09_Table t3 1 w fun t14 w =>
    wLoad P T_Lref05_Use t14 w fun t15 w =>
    wIndexA P T_Lref05_Use t15 a1 w fun t17 w =>
    wLoad P T_ref05_Use t17 w fun t18 w =>
    wAlloc P T_ref05_Use w fun t8 w =>
    wStore P T_ref05_Use t8 t18 w fun w =>
    wJ0 (fun k2 =>
      wFieldA P T_ref05_Use t8 2 w fun t20 w =>
      wLoad P T_uint32 t20 w fun t21 w =>
      wBin P .gtr T_uint32 a2 t21 w fun t22 w =>
      wIf t22 (
        wFieldA P T_ref05_Use t8 2 w fun t24 w =>
        wStore P T_uint32 t24 a2 w fun w =>
        k2 w) (
        k2 w)) fun _ w =>
    wLoad P T_ref09_Table t3 w fun t25 w =>
    wLoad P T_ref05_Use t8 w fun t27 w =>
    wCall P n_ref09_put [t25, a1, t27] w fun t28 w =>
    wStore P T_ref09_Table t6 t28 w fun w =>
    wRes P T_ref09_Table t6 w fun r6 =>
    k (.tuple #[r6, (.int .i64 0)]) w)

theorem call_ref09_Touch (a0 a1 a2 : Value) {w : World} {k : Value → World → Prop} (h : F_ref09_Touch a0 a1 a2 w k) : wCall P n_ref09_Touch [a0, a1, a2] w k :=
  call_of_den mixedP Try.func202 (by kernel_rfl) (.s .z (.s .z (.s .z (.j [] [1, 3, 6, 8] .z .z)))) (by kernel_rfl) (Eq.mp (by kernel_rfl) h)

def F_ref09_Set (a0 a1 a2 : Value) (w : World) (k : Value → World → Prop) : Prop :=
  wBox P T_ref09_Table a0 w fun t3 w =>
  wAlloc P T_ref09_Table w fun t6 w =>
  wLoad P T_ref09_Table t3 w fun t9 w =>
  wCall P n_ref09_has [t9, a1] w fun t11 w =>
  wUn P .not t11 w fun t12 w =>
  wGrp t12 false (fun k15 =>
    wBin P .lss T_int a2 (.int .i64 0) w fun t15 w =>
    k15 t15 w) w fun _ t15 w =>
  wPick t12 (.bool true) t15 w fun t16 w =>
  wGrp t16 false (fun k19 =>
    wBin P .gtr T_int a2 (.int .i64 3) w fun t19 w =>
    k19 t19 w) w fun _ t19 w =>
  wPick t16 (.bool true) t19 w fun t20 w =>
  wIf t20 (
    wLoad P T_ref09_Table t3 w fun t21 w =>
    wStore P T_ref09_Table t6 t21 w fun w =>
    wRes P T_ref09_Table t6 w fun r6 =>
    k (.tuple #[r6, (.int .i64 1)]) w) (
    wFieldA P T_ref09_Table t3 1 w fun t22 w =>
    wLoad P T_Lref05_Use t22 w fun t23 w =>
    wIndexA P T_Lref05_Use t23 a1 w fun t25 w =>
    wLoad P T_ref05_Use t25 w fun t26 w =>
    wAlloc P T_ref05_Use w fun t8 w =>
    wStore P T_ref05_Use t8 t26 w fun w =>
    wFieldA P T_ref05_Use t8 1 w fun t28 w =>
    wStore P T_int t28 a2 w fun w =>
    wLoad P T_ref09_Table t3 w fun t29 w =>
    wLoad P T_ref05_Use t8 w fun t31 w =>
    wCall P n_ref09_put [t29, a1, t31] w fun t32 w =>
    wStore P T_ref09_Table t6 t32 w fun w =>
    wRes P T_ref09_Table t6 w fun r6 =>
    k (.tuple #[r6, (.int .i64 0)]) w)

theorem call_ref09_Set (a0 a1 a2 : Value) {w : World} {k : Value → World → Prop} (h : F_ref09_Set a0 a1 a2 w k) : wCall P n_ref09_Set [a0, a1, a2] w k :=
  call_of_den mixedP Try.func203 (by kernel_rfl) (.s .z (.s (.s (.r (.ops [0, 1, 2, 3, 4] (.grp 4 false 15 [14] (.ops [5, 6] .nil) (.ops [7, 8] (.grp 8 false 19 [18] (.ops [9, 10] .nil) (.ops [11] .nil)))))) .z) .z)) (by kernel_rfl) (Eq.mp (by kernel_rfl) h)

def F_ref09_Release (a0 : Value) (w : World) (k : Value → World → Prop) : Prop :=
  wBox P T_ref09_Table a0 w fun t1 w =>
  wAlloc P T_ref09_Table w fun t2 w =>
  wJ1 (fun k1 =>
    wL2 (.slice none 0 0) (.int .i64 0) w (fun _ v4 v5 w k2 =>
      wFieldA P T_ref09_Table t1 1 w fun t7 w =>
      wLoad P T_Lref05_Use t7 w fun t8 w =>
      wLen P .len #[T_Lref05_Use] [t8] w fun t9 w =>
      wBin P .lss T_int v5 t9 w fun t10 w =>
      wIf t10 (
        wFieldA P T_ref09_Table t1 1 w fun t13 w =>
        wLoad P T_Lref05_Use t13 w fun t14 w =>
        wIndexA P T_Lref05_Use t14 v5 w fun t16 w =>
        wFieldA P T_ref05_Use t16 1 w fun t17 w =>
        wLoad P T_int t17 w fun t18 w =>
        wBin P .eql T_int t18 (.int .i64 1) w fun t19 w =>
        wGrp t19 true (fun k27 =>
          wFieldA P T_ref09_Table t1 1 w fun t21 w =>
          wLoad P T_Lref05_Use t21 w fun t22 w =>
          wIndexA P T_Lref05_Use t22 v5 w fun t24 w =>
          wFieldA P T_ref05_Use t24 0 w fun t25 w =>
          wLoad P T_int t25 w fun t26 w =>
          wBin P .eql T_int t26 (.int .i64 0) w fun t27 w =>
          k27 t27 w) w fun _ t27 w =>
        wPick t19 t27 (.bool false) w fun t28 w =>
        wIf t28 (
          wLoad P T_ref09_Table t1 w fun t29 w =>
          wBuild P T_ref05_Use [] w fun t31 w =>
          wCall P n_ref09_put [t29, v5, t31] w fun t32 w =>
          wStore P T_ref09_Table t1 t32 w fun w =>
          wBuildS P T_Lint 1 [(0, v5)] w fun t35 w =>
          wBuiltin P .append #[T_Lint, T_Lint] [v4, t35] w fun t36 w =>
          wBin P .add T_int v5 (.int .i64 1) w fun t12 w =>
          k2 t36 t12 w) (
          wBin P .add T_int v5 (.int .i64 1) w fun t12 w =>
          k2 v4 t12 w)) (
        k1 v4 w))) fun _ v4 w =>
  wLoad P T_ref09_Table t1 w fun t37 w =>
  wStore P T_ref09_Table t2 t37 w fun w =>
  wRes P T_ref09_Table t2 w fun r2 =>
  k (.tuple #[r2, v4]) w

theorem call_ref09_Release (a0 : Value) {w : World} {k : Value → World → Prop} (h : F_ref09_Release a0 w k) : wCall P n_ref09_Release [a0] w k :=
  call_of_den mixedP Try.func204 (by kernel_rfl) (.s .z (.s .z (.j [4] [1, 2] (.s .z (.b (.l [4, 5] [1, 2] (.s .z (.s (.b (.s (.r (.ops [0, 1, 2, 3, 4, 5, 6, 7] (.grp 7 true 27 [21, 22, 23, 24, 25, 26] (.ops [8, 9, 10, 11, 12, 13, 14] .nil) (.ops [15] .nil)))) .z)) .z))))) .z))) (by kernel_rfl) (Eq.mp (by kernel_rfl) h)

def F_ref09_none (a0 : Value) (w : World) (k : Value → World → Prop) : Prop :=
  wBin P .neq T_float64 a0 a0 w fun t5 w =>
  k t5 w

theorem call_ref09_none (a0 : Value) {w : World} {k : Value → World → Prop} (h : F_ref09_none a0 w k) : wCall P n_ref09_none [a0] w k :=
  call_of_den mixedP Try.func212 (by kernel_rfl) .z (by kernel_rfl) (Eq.mp (by kernel_rfl) h)

def F_ref09_has (a0 a1 : Value) (w : World) (k : Value → World → Prop) : Prop :=
  wBox P T_ref09_Table a0 w fun t2 w =>
  wBin P .geq T_int a1 (.int .i64 0) w fun t6 w =>
  wGrp t6 true (fun k12 =>
    wFieldA P T_ref09_Table t2 1 w fun t9 w =>
    wLoad P T_Lref05_Use t9 w fun t10 w =>
    wLen P .len #[T_Lref05_Use] [t10] w fun t11 w =>
    wBin P .lss T_int a1 t11 w fun t12 w =>
    k12 t12 w) w fun _ t12 w =>
  wPick t6 t12 (.bool false) w fun t13 w =>
  k t13 w

theorem call_ref09_has (a0 a1 : Value) {w : World} {k : Value → World → Prop} (h : F_ref09_has a0 a1 w k) : wCall P n_ref09_has [a0, a1] w k :=
  call_of_den mixedP Try.func260 (by kernel_rfl) (.s .z (.s (.r (.ops [0, 1, 2] (.grp 2 true 12 [8, 9, 10, 11] (.ops [3, 4, 5, 6, 7] .nil) (.ops [8, 9] .nil)))) .z)) (by kernel_rfl) (Eq.mp (by kernel_rfl) h)

def F_ref09_put (a0 a1 a2 : Value) (w : World) (k : Value → World → Prop) : Prop :=
  wBox P T_ref09_Table a0 w fun t3 w =>
  wBox P T_ref05_Use a2 w fun t5 w =>
  wAlloc P T_ref09_Table w fun t6 w =>
  wBuildS P T_Lref05_Use 0 [] w fun t7 w =>
  wFieldA P T_ref09_Table t3 1 w fun t8 w =>
  wLoad P T_Lref05_Use t8 w fun t9 w =>
  wBuiltin P .append #[T_Lref05_Use, T_Lref05_Use] [t7, t9] w fun t10 w =>
  wFieldA P T_ref09_Table t3 1 w fun t11 w =>
  wStore P T_Lref05_Use t11 t10 w fun w =>
  wFieldA P T_ref09_Table t3 1 w fun t12 w =>
  wLoad P T_Lref05_Use t12 w fun t13 w =>
  wLoad P T_ref05_Use t5 w fun t15 w =>
  wIndexA P T_Lref05_Use t13 a1 w fun t16 w =>
  wStore P T_ref05_Use t16 t15 w fun w =>
  wLoad P T_ref09_Table t3 w fun t17 w =>
  wStore P T_ref09_Table t6 t17 w fun w =>
  wRes P T_ref09_Table t6 w fun r6 =>
  k r6 w

theorem call_ref09_put (a0 a1 a2 : Value) {w : World} {k : Value → World → Prop} (h : F_ref09_put a0 a1 a2 w k) : wCall P n_ref09_put [a0, a1, a2] w k :=
  call_of_den mixedP Try.func261 (by kernel_rfl) .z (by kernel_rfl) (Eq.mp (by kernel_rfl) h)

end Go.Dn
