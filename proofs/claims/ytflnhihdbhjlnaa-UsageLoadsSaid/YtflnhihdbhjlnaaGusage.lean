import Derived.Test.YtflnhihdbhjlnaaGn
/-! Texts of functions, printed by mkg.py. -/
set_option maxRecDepth 100000
set_option linter.unusedVariables false
namespace Go.Dn
open Go Go.Proofs
def F_usage_New (a0 a1 : Value) (w : World) (k : Value → World → Prop) : Prop :=
  wCall P n_usage_among [a1, (.int .i64 1), (.int .i64 4096)] w fun t6 w =>
  wCall P n_usage_among [a0, (.int .i64 1), (.int .i64 200)] w fun t8 w =>
  wMake P T_Lcodec_Use t8 t8 w fun t9 w =>
  wBuild P T_usage_Table [(0, t6), (1, t9)] w fun t10 w =>
  wBox P T_usage_Table t10 w fun t11 w =>
  k t11 w

theorem call_usage_New (a0 a1 : Value) {w : World} {k : Value → World → Prop} (h : F_usage_New a0 a1 w k) : wCall P n_usage_New [a0, a1] w k :=
  call_of_den mixedP Try.func35 (by kernel_rfl) .z (by kernel_rfl) (Eq.mp (by kernel_rfl) h)

def F_usage_Table_Count (a0 a1 a2 : Value) (w : World) (k : Value → World → Prop) : Prop :=
  wDraw w fun w =>
  wCall P n_usage_Table_has [a0, a1] w fun t9 w =>
  wUn P .not t9 w fun t10 w =>
  wGrp t10 false (fun k26 =>
    wNil P a0 w fun t14 w =>
    wFieldA P T_usage_Table t14 0 w fun t15 w =>
    wLoad P T_int t15 w fun t16 w =>
    wNil P a0 w fun t18 w =>
    wFieldA P T_usage_Table t18 1 w fun t19 w =>
    wLoad P T_Lcodec_Use t19 w fun t20 w =>
    wIndexA P T_Lcodec_Use t20 a1 w fun t22 w =>
    wFieldA P T_codec_Use t22 0 w fun t23 w =>
    wLoad P T_int t23 w fun t24 w =>
    wBin P .sub T_int t16 t24 w fun t25 w =>
    wBin P .gtr T_int a2 t25 w fun t26 w =>
    k26 t26 w) w fun _ t26 w =>
  wPick t10 (.bool true) t26 w fun t27 w =>
  wGrp t27 false (fun k39 =>
    wNil P a0 w fun t31 w =>
    wFieldA P T_usage_Table t31 1 w fun t32 w =>
    wLoad P T_Lcodec_Use t32 w fun t33 w =>
    wIndexA P T_Lcodec_Use t33 a1 w fun t35 w =>
    wFieldA P T_codec_Use t35 0 w fun t36 w =>
    wLoad P T_int t36 w fun t37 w =>
    wUn P .neg t37 w fun t38 w =>
    wBin P .lss T_int a2 t38 w fun t39 w =>
    k39 t39 w) w fun _ t39 w =>
  wPick t27 (.bool true) t39 w fun t40 w =>
  wIf t40 (
    k (.int .i64 1) w) (
    wNil P a0 w fun t42 w =>
    wFieldA P T_usage_Table t42 1 w fun t43 w =>
    wLoad P T_Lcodec_Use t43 w fun t44 w =>
    wIndexA P T_Lcodec_Use t44 a1 w fun t46 w =>
    wFieldA P T_codec_Use t46 0 w fun t47 w =>
    wLoad P T_int t47 w fun t48 w =>
    wBin P .add T_int t48 a2 w fun t50 w =>
    wIndexA P T_Lcodec_Use t44 a1 w fun t51 w =>
    wFieldA P T_codec_Use t51 0 w fun t52 w =>
    wStore P T_int t52 t50 w fun w =>
    k (.int .i64 0) w)

theorem call_usage_Table_Count (a0 a1 a2 : Value) {w : World} {k : Value → World → Prop} (h : F_usage_Table_Count a0 a1 a2 w k) : wCall P n_usage_Table_Count [a0, a1, a2] w k :=
  call_of_den mixedP Try.func40 (by kernel_rfl) (.s .z (.s (.s (.r (.ops [0, 1] (.eff 2 [] (.ops [3, 4] (.grp 4 false 26 [12, 13, 14, 15, 16, 17, 18, 19, 20, 21, 22, 23, 24, 25] (.ops [5, 6, 7, 8, 9, 10, 11, 12, 13, 14, 15, 16, 17, 18, 19] .nil) (.ops [20, 21] (.grp 21 false 39 [29, 30, 31, 32, 33, 34, 35, 36, 37, 38] (.ops [22, 23, 24, 25, 26, 27, 28, 29, 30, 31, 32] .nil) (.ops [33] .nil)))))))) .z) .z)) (by kernel_rfl) (Eq.mp (by kernel_rfl) h)

def F_usage_Table_Set (a0 a1 a2 : Value) (w : World) (k : Value → World → Prop) : Prop :=
  wCall P n_usage_Table_has [a0, a1] w fun t9 w =>
  wUn P .not t9 w fun t10 w =>
  wGrp t10 false (fun k13 =>
    wBin P .lss T_int a2 (.int .i64 0) w fun t13 w =>
    k13 t13 w) w fun _ t13 w =>
  wPick t10 (.bool true) t13 w fun t14 w =>
  wGrp t14 false (fun k17 =>
    wBin P .gtr T_int a2 (.int .i64 3) w fun t17 w =>
    k17 t17 w) w fun _ t17 w =>
  wPick t14 (.bool true) t17 w fun t18 w =>
  wIf t18 (
    k (.int .i64 1) w) (
    wNil P a0 w fun t20 w =>
    wFieldA P T_usage_Table t20 1 w fun t21 w =>
    wLoad P T_Lcodec_Use t21 w fun t22 w =>
    wIndexA P T_Lcodec_Use t22 a1 w fun t25 w =>
    wFieldA P T_codec_Use t25 1 w fun t26 w =>
    wStore P T_int t26 a2 w fun w =>
    k (.int .i64 0) w)

theorem call_usage_Table_Set (a0 a1 a2 : Value) {w : World} {k : Value → World → Prop} (h : F_usage_Table_Set a0 a1 a2 w k) : wCall P n_usage_Table_Set [a0, a1, a2] w k :=
  call_of_den mixedP Try.func41 (by kernel_rfl) (.s .z (.s (.s (.r (.ops [0, 1, 2, 3, 4] (.grp 4 false 13 [12] (.ops [5, 6] .nil) (.ops [7, 8] (.grp 8 false 17 [16] (.ops [9, 10] .nil) (.ops [11] .nil)))))) .z) .z)) (by kernel_rfl) (Eq.mp (by kernel_rfl) h)

def F_usage_Table_Live (a0 : Value) (w : World) (k : Value → World → Prop) : Prop :=
  wNil P a0 w fun t7 w =>
  wFieldA P T_usage_Table t7 1 w fun t8 w =>
  wLoad P T_Lcodec_Use t8 w fun t9 w =>
  wLen P .len #[T_Lcodec_Use] [t9] w fun t10 w =>
  wL2 (.int .i64 0) (.int .i64 0) w (fun _ v3 v11 w k1 =>
    wBin P .lss T_int v11 t10 w fun t12 w =>
    wIf t12 (
      wIndexA P T_Lcodec_Use t9 v11 w fun t13 w =>
      wLoad P T_codec_Use t13 w fun t14 w =>
      wAlloc P T_codec_Use w fun t5 w =>
      wStore P T_codec_Use t5 t14 w fun w =>
      wFieldA P T_codec_Use t5 0 w fun t16 w =>
      wLoad P T_int t16 w fun t17 w =>
      wBin P .add T_int v3 t17 w fun t18 w =>
      wBin P .add T_int v11 (.int .i64 1) w fun t19 w =>
      k1 t18 t19 w) (
      k v3 w))

theorem call_usage_Table_Live (a0 : Value) {w : World} {k : Value → World → Prop} (h : F_usage_Table_Live a0 w k) : wCall P n_usage_Table_Live [a0] w k :=
  call_of_den mixedP Try.func43 (by kernel_rfl) (.s .z (.s .z (.s (.s .z (.b (.l [3, 11] [9, 10] .z))) .z))) (by kernel_rfl) (Eq.mp (by kernel_rfl) h)

def F_usage_Table_Release (a0 : Value) (w : World) (k : Value → World → Prop) : Prop :=
  wCall P n_usage_Table_which [a0, (.func (.func n_usage_Table_Release_c1) #[] #[])] w fun t7 w =>
  wLen P .len #[T_Lint] [t7] w fun t9 w =>
  wL1 (.int .i64 0) w (fun _ v10 w k1 =>
    wBin P .lss T_int v10 t9 w fun t11 w =>
    wIf t11 (
      wIndexA P T_Lint t7 v10 w fun t12 w =>
      wLoad P T_int t12 w fun t13 w =>
      wNil P a0 w fun t15 w =>
      wFieldA P T_usage_Table t15 1 w fun t16 w =>
      wLoad P T_Lcodec_Use t16 w fun t17 w =>
      wBuild P T_codec_Use [] w fun t19 w =>
      wIndexA P T_Lcodec_Use t17 t13 w fun t20 w =>
      wStore P T_codec_Use t20 t19 w fun w =>
      wBin P .add T_int v10 (.int .i64 1) w fun t21 w =>
      k1 t21 w) (
      k t7 w))

theorem call_usage_Table_Release (a0 : Value) {w : World} {k : Value → World → Prop} (h : F_usage_Table_Release a0 w k) : wCall P n_usage_Table_Release [a0] w k :=
  call_of_den mixedP Try.func45 (by kernel_rfl) (.s .z (.s .z (.s (.s .z (.b (.l [10] [0, 3, 8, 9] .z))) .z))) (by kernel_rfl) (Eq.mp (by kernel_rfl) h)

def F_usage_Table_Uses (a0 : Value) (w : World) (k : Value → World → Prop) : Prop :=
  wNil P a0 w fun t4 w =>
  wFieldA P T_usage_Table t4 1 w fun t5 w =>
  wLoad P T_Lcodec_Use t5 w fun t6 w =>
  wCall P n_slices_Clone_codec_Use [t6] w fun t7 w =>
  k t7 w

theorem call_usage_Table_Uses (a0 : Value) {w : World} {k : Value → World → Prop} (h : F_usage_Table_Uses a0 w k) : wCall P n_usage_Table_Uses [a0] w k :=
  call_of_den mixedP Try.func49 (by kernel_rfl) .z (by kernel_rfl) (Eq.mp (by kernel_rfl) h)

def F_usage_Load (a0 a1 : Value) (w : World) (k : Value → World → Prop) : Prop :=
  wLen P .len #[T_Lcodec_Use] [a1] w fun t10 w =>
  wBin P .eql T_int t10 (.int .i64 0) w fun t11 w =>
  wGrp t11 false (fun k15 =>
    wLen P .len #[T_Lcodec_Use] [a1] w fun t14 w =>
    wBin P .gtr T_int t14 (.int .i64 200) w fun t15 w =>
    k15 t15 w) w fun _ t15 w =>
  wPick t11 (.bool true) t15 w fun t16 w =>
  wIf t16 (
    k (.tuple #[(.pointer none), (.int .i64 1)]) w) (
    wCall P n_usage_among [a0, (.int .i64 1), (.int .i64 4096)] w fun t18 w =>
    wCall P n_slices_Clone_codec_Use [a1] w fun t20 w =>
    wBuild P T_usage_Table [(0, t18), (1, t20)] w fun t21 w =>
    wBox P T_usage_Table t21 w fun t22 w =>
    wLen P .len #[T_Lcodec_Use] [a1] w fun t24 w =>
    wL1 (.int .i64 0) w (fun _ v25 w k2 =>
      wBin P .lss T_int v25 t24 w fun t26 w =>
      wIf t26 (
        wIndexA P T_Lcodec_Use a1 v25 w fun t27 w =>
        wLoad P T_codec_Use t27 w fun t28 w =>
        wAlloc P T_codec_Use w fun t8 w =>
        wStore P T_codec_Use t8 t28 w fun w =>
        wDraw w fun w =>
        wFieldA P T_codec_Use t8 0 w fun t29 w =>
        wLoad P T_int t29 w fun t30 w =>
        wBin P .lss T_int t30 (.int .i64 0) w fun t31 w =>
        wGrp t31 false (fun k39 =>
          wFieldA P T_codec_Use t8 0 w fun t33 w =>
          wLoad P T_int t33 w fun t34 w =>
          wNil P t22 w fun t36 w =>
          wFieldA P T_usage_Table t36 0 w fun t37 w =>
          wLoad P T_int t37 w fun t38 w =>
          wBin P .gtr T_int t34 t38 w fun t39 w =>
          k39 t39 w) w fun _ t39 w =>
        wPick t31 (.bool true) t39 w fun t40 w =>
        wGrp t40 false (fun k44 =>
          wFieldA P T_codec_Use t8 1 w fun t42 w =>
          wLoad P T_int t42 w fun t43 w =>
          wBin P .lss T_int t43 (.int .i64 0) w fun t44 w =>
          k44 t44 w) w fun _ t44 w =>
        wPick t40 (.bool true) t44 w fun t45 w =>
        wGrp t45 false (fun k49 =>
          wFieldA P T_codec_Use t8 1 w fun t47 w =>
          wLoad P T_int t47 w fun t48 w =>
          wBin P .gtr T_int t48 (.int .i64 3) w fun t49 w =>
          k49 t49 w) w fun _ t49 w =>
        wPick t45 (.bool true) t49 w fun t50 w =>
        wIf t50 (
          k (.tuple #[(.pointer none), (.int .i64 1)]) w) (
          wBin P .add T_int v25 (.int .i64 1) w fun t51 w =>
          k2 t51 w)) (
        k (.tuple #[t22, (.int .i64 0)]) w)))

theorem call_usage_Load (a0 a1 : Value) {w : World} {k : Value → World → Prop} (h : F_usage_Load a0 a1 w k) : wCall P n_usage_Load [a0, a1] w k :=
  call_of_den mixedP Try.func51 (by kernel_rfl) (.s .z (.s (.s (.r (.ops [0, 1, 2, 3] (.grp 3 false 15 [13, 14] (.ops [4, 5, 6] .nil) (.ops [7] .nil)))) .z) (.s .z (.s (.s .z (.b (.l [25] [6, 23, 24] (.s .z (.s .z (.s (.b (.s .z (.s (.r (.ops [0, 1, 2, 3] (.grp 3 false 39 [33, 34, 35, 36, 37, 38] (.ops [4, 5, 6, 7, 8, 9, 10] .nil) (.ops [11, 12] (.grp 12 false 44 [42, 43] (.ops [13, 14, 15] .nil) (.ops [16, 17] (.grp 17 false 49 [47, 48] (.ops [18, 19, 20] .nil) (.ops [21] .nil)))))))) .z))) .z)))))) .z)))) (by kernel_rfl) (Eq.mp (by kernel_rfl) h)

def F_usage_Table_Clean (a0 : Value) (w : World) (k : Value → World → Prop) : Prop :=
  wCall P n_usage_Table_which [a0, (.func (.func n_usage_clean) #[] #[])] w fun t4 w =>
  wLen P .len #[T_Lint] [t4] w fun t5 w =>
  k t5 w

theorem call_usage_Table_Clean (a0 : Value) {w : World} {k : Value → World → Prop} (h : F_usage_Table_Clean a0 w k) : wCall P n_usage_Table_Clean [a0] w k :=
  call_of_den mixedP Try.func52 (by kernel_rfl) .z (by kernel_rfl) (Eq.mp (by kernel_rfl) h)

def F_usage_Table_Order (a0 a1 : Value) (w : World) (k : Value → World → Prop) : Prop :=
  wBox P T_pusage_Table a0 w fun t2 w =>
  wBox P T_uint32 a1 w fun t3 w =>
  wLoad P T_pusage_Table t2 w fun t7 w =>
  wCall P n_usage_Table_which [t7, (.func (.func n_usage_Table_Order_c1) #[] #[])] w fun t8 w =>
  wFunc P (.func n_usage_Table_Order_c2) [] [t2, t3] w fun t9 w =>
  wAlloc P T_func_int___uint64__uint64_ w fun t6 w =>
  wStore P T_func_int___uint64__uint64_ t6 t9 w fun w =>
  wFunc P (.func n_usage_Table_Order_c3) [] [t6] w fun t11 w =>
  wCall P n_slices_SortStableFunc_int [t8, t11] w fun _ w =>
  k t8 w

theorem call_usage_Table_Order (a0 a1 : Value) {w : World} {k : Value → World → Prop} (h : F_usage_Table_Order a0 a1 w k) : wCall P n_usage_Table_Order [a0, a1] w k :=
  call_of_den mixedP Try.func53 (by kernel_rfl) .z (by kernel_rfl) (Eq.mp (by kernel_rfl) h)

def F_usage_Part (a0 a1 : Value) (w : World) (k : Value → World → Prop) : Prop :=
  wConv P T_int T_float64 a0 w fun t6 w =>
  wConv P T_int T_float64 a1 w fun t8 w =>
  wBinF P .quo T_float64 t6 t8 w fun t9 w =>
  k t9 w

theorem call_usage_Part (a0 a1 : Value) {w : World} {k : Value → World → Prop} (h : F_usage_Part a0 a1 w k) : wCall P n_usage_Part [a0, a1] w k :=
  call_of_den mixedP Try.func73 (by kernel_rfl) .z (by kernel_rfl) (Eq.mp (by kernel_rfl) h)

def F_usage_among (a0 a1 a2 : Value) (w : World) (k : Value → World → Prop) : Prop :=
  wLen P .min #[T_int, T_int] [a0, a2] w fun t10 w =>
  wLen P .max #[T_int, T_int] [a1, t10] w fun t11 w =>
  k t11 w

theorem call_usage_among (a0 a1 a2 : Value) {w : World} {k : Value → World → Prop} (h : F_usage_among a0 a1 a2 w k) : wCall P n_usage_among [a0, a1, a2] w k :=
  call_of_den mixedP Try.func140 (by kernel_rfl) .z (by kernel_rfl) (Eq.mp (by kernel_rfl) h)

def F_usage_Table_has (a0 a1 : Value) (w : World) (k : Value → World → Prop) : Prop :=
  wBin P .geq T_int a1 (.int .i64 0) w fun t6 w =>
  wGrp t6 true (fun k14 =>
    wNil P a0 w fun t10 w =>
    wFieldA P T_usage_Table t10 1 w fun t11 w =>
    wLoad P T_Lcodec_Use t11 w fun t12 w =>
    wLen P .len #[T_Lcodec_Use] [t12] w fun t13 w =>
    wBin P .lss T_int a1 t13 w fun t14 w =>
    k14 t14 w) w fun _ t14 w =>
  wPick t6 t14 (.bool false) w fun t15 w =>
  k t15 w

theorem call_usage_Table_has (a0 a1 : Value) {w : World} {k : Value → World → Prop} (h : F_usage_Table_has a0 a1 w k) : wCall P n_usage_Table_has [a0, a1] w k :=
  call_of_den mixedP Try.func145 (by kernel_rfl) (.s .z (.s (.r (.ops [0, 1, 2] (.grp 2 true 14 [8, 9, 10, 11, 12, 13] (.ops [3, 4, 5, 6, 7, 8, 9] .nil) (.ops [10, 11] .nil)))) .z)) (by kernel_rfl) (Eq.mp (by kernel_rfl) h)

def F_usage_Table_which (a0 a1 : Value) (w : World) (k : Value → World → Prop) : Prop :=
  wNil P a0 w fun t9 w =>
  wFieldA P T_usage_Table t9 1 w fun t10 w =>
  wLoad P T_Lcodec_Use t10 w fun t11 w =>
  wLen P .len #[T_Lcodec_Use] [t11] w fun t12 w =>
  wL2 (.slice none 0 0) (.int .i64 0) w (fun _ v5 v13 w k1 =>
    wBin P .lss T_int v13 t12 w fun t14 w =>
    wIf t14 (
      wIndexA P T_Lcodec_Use t11 v13 w fun t16 w =>
      wLoad P T_codec_Use t16 w fun t17 w =>
      wAlloc P T_codec_Use w fun t7 w =>
      wStore P T_codec_Use t7 t17 w fun w =>
      wLoad P T_codec_Use t7 w fun t19 w =>
      wCallV P a1 [t19] w fun t20 w =>
      wIf t20 (
        wBuildS P T_Lint 1 [(0, v13)] w fun t23 w =>
        wBuiltin P .append #[T_Lint, T_Lint] [v5, t23] w fun t24 w =>
        wBin P .add T_int v13 (.int .i64 1) w fun t25 w =>
        k1 t24 t25 w) (
        wBin P .add T_int v13 (.int .i64 1) w fun t25 w =>
        k1 v5 t25 w)) (
      k v5 w))

theorem call_usage_Table_which (a0 a1 : Value) {w : World} {k : Value → World → Prop} (h : F_usage_Table_which a0 a1 w k) : wCall P n_usage_Table_which [a0, a1] w k :=
  call_of_den mixedP Try.func148 (by kernel_rfl) (.s .z (.s .z (.s (.s .z (.b (.l [5, 13] [1, 11, 12] .z))) .z))) (by kernel_rfl) (Eq.mp (by kernel_rfl) h)

def F_usage_Table_Release_c1 (a0 : Value) (w : World) (k : Value → World → Prop) : Prop :=
  wBox P T_codec_Use a0 w fun t1 w =>
  wFieldA P T_codec_Use t1 1 w fun t3 w =>
  wLoad P T_int t3 w fun t4 w =>
  wBin P .eql T_int t4 (.int .i64 1) w fun t5 w =>
  wGrp t5 true (fun k9 =>
    wFieldA P T_codec_Use t1 0 w fun t7 w =>
    wLoad P T_int t7 w fun t8 w =>
    wBin P .eql T_int t8 (.int .i64 0) w fun t9 w =>
    k9 t9 w) w fun _ t9 w =>
  wPick t5 t9 (.bool false) w fun t10 w =>
  k t10 w

theorem call_usage_Table_Release_c1 (a0 : Value) {w : World} {k : Value → World → Prop} (h : F_usage_Table_Release_c1 a0 w k) : wCall P n_usage_Table_Release_c1 [a0] w k :=
  call_of_den mixedP Try.func149 (by kernel_rfl) (.s .z (.s (.r (.ops [0, 1, 2, 3] (.grp 3 true 9 [7, 8] (.ops [4, 5, 6] .nil) (.ops [7, 8] .nil)))) .z)) (by kernel_rfl) (Eq.mp (by kernel_rfl) h)

def F_usage_clean (a0 : Value) (w : World) (k : Value → World → Prop) : Prop :=
  wBox P T_codec_Use a0 w fun t1 w =>
  wFieldA P T_codec_Use t1 1 w fun t3 w =>
  wLoad P T_int t3 w fun t4 w =>
  wBin P .eql T_int t4 (.int .i64 0) w fun t5 w =>
  k t5 w

theorem call_usage_clean (a0 : Value) {w : World} {k : Value → World → Prop} (h : F_usage_clean a0 w k) : wCall P n_usage_clean [a0] w k :=
  call_of_den mixedP Try.func156 (by kernel_rfl) .z (by kernel_rfl) (Eq.mp (by kernel_rfl) h)

def F_usage_Table_Order_c1 (a0 : Value) (w : World) (k : Value → World → Prop) : Prop :=
  wBox P T_codec_Use a0 w fun t1 w =>
  wFieldA P T_codec_Use t1 1 w fun t3 w =>
  wLoad P T_int t3 w fun t4 w =>
  wBin P .eql T_int t4 (.int .i64 1) w fun t5 w =>
  k t5 w

theorem call_usage_Table_Order_c1 (a0 : Value) {w : World} {k : Value → World → Prop} (h : F_usage_Table_Order_c1 a0 w k) : wCall P n_usage_Table_Order_c1 [a0] w k :=
  call_of_den mixedP Try.func157 (by kernel_rfl) .z (by kernel_rfl) (Eq.mp (by kernel_rfl) h)

def F_usage_Table_Order_c2 (a0 a1 a2 : Value) (w : World) (k : Value → World → Prop) : Prop :=
  wLoad P T_pusage_Table a1 w fun t8 w =>
  wNil P t8 w fun t9 w =>
  wFieldA P T_usage_Table t9 1 w fun t10 w =>
  wLoad P T_Lcodec_Use t10 w fun t11 w =>
  wIndexA P T_Lcodec_Use t11 a0 w fun t13 w =>
  wLoad P T_codec_Use t13 w fun t14 w =>
  wAlloc P T_codec_Use w fun t6 w =>
  wStore P T_codec_Use t6 t14 w fun w =>
  wJ1 (fun k1 =>
    wFieldA P T_codec_Use t6 2 w fun t15 w =>
    wLoad P T_uint32 t15 w fun t16 w =>
    wLoad P T_uint32 a2 w fun t17 w =>
    wBin P .leq T_uint32 t16 t17 w fun t18 w =>
    wIf t18 (
      wLoad P T_uint32 a2 w fun t20 w =>
      wFieldA P T_codec_Use t6 2 w fun t21 w =>
      wLoad P T_uint32 t21 w fun t22 w =>
      wBin P .sub T_uint32 t20 t22 w fun t23 w =>
      wConv P T_uint32 T_uint64 t23 w fun t24 w =>
      wBin P .add T_uint64 (.int .u64 1) t24 w fun t25 w =>
      k1 t25 w) (
      k1 (.int .u64 1) w)) fun _ v7 w =>
  wDraw w fun w =>
  wLoad P T_pusage_Table a1 w fun t26 w =>
  wNil P t26 w fun t27 w =>
  wFieldA P T_usage_Table t27 0 w fun t28 w =>
  wLoad P T_int t28 w fun t29 w =>
  wFieldA P T_codec_Use t6 0 w fun t30 w =>
  wLoad P T_int t30 w fun t31 w =>
  wBin P .sub T_int t29 t31 w fun t32 w =>
  wConv P T_int T_uint64 t32 w fun t33 w =>
  wBin P .mul T_uint64 t33 v7 w fun t35 w =>
  wLoad P T_pusage_Table a1 w fun t36 w =>
  wNil P t36 w fun t37 w =>
  wFieldA P T_usage_Table t37 0 w fun t38 w =>
  wLoad P T_int t38 w fun t39 w =>
  wFieldA P T_codec_Use t6 0 w fun t40 w =>
  wLoad P T_int t40 w fun t41 w =>
  wBin P .add T_int t39 t41 w fun t42 w =>
  wConv P T_int T_uint64 t42 w fun t43 w =>
  k (.tuple #[t35, t43]) w

theorem call_usage_Table_Order_c2 (a0 a1 a2 : Value) {w : World} {k : Value → World → Prop} (h : F_usage_Table_Order_c2 a0 a1 a2 w k) : wCall P n_usage_Table_Order_c2 [a0, a1, a2] w k :=
  call_of_den mixedP Try.func158 (by kernel_rfl) (.s .z (.s .z (.s .z (.j [7] [1, 6] .z (.s (.r (.ops [0, 1, 2, 3, 4, 5, 6, 7, 8, 9, 10, 11, 12, 13, 14, 15, 16, 17, 18, 19] .nil)) .z))))) (by kernel_rfl) (Eq.mp (by kernel_rfl) h)

def F_usage_Table_Order_c3 (a0 a1 a2 : Value) (w : World) (k : Value → World → Prop) : Prop :=
  wLoad P T_func_int___uint64__uint64_ a2 w fun t11 w =>
  wCallV P t11 [a0] w fun t13 w =>
  wExtract P t13 0 w fun t14 w =>
  wExtract P t13 1 w fun t15 w =>
  wLoad P T_func_int___uint64__uint64_ a2 w fun t17 w =>
  wCallV P t17 [a1] w fun t19 w =>
  wExtract P t19 0 w fun t20 w =>
  wExtract P t19 1 w fun t21 w =>
  wBin P .mul T_uint64 t20 t15 w fun t24 w =>
  wBin P .mul T_uint64 t14 t21 w fun t27 w =>
  wCall P n_cmp_Compare_uint64 [t24, t27] w fun t28 w =>
  k t28 w

theorem call_usage_Table_Order_c3 (a0 a1 a2 : Value) {w : World} {k : Value → World → Prop} (h : F_usage_Table_Order_c3 a0 a1 a2 w k) : wCall P n_usage_Table_Order_c3 [a0, a1, a2] w k :=
  call_of_den mixedP Try.func160 (by kernel_rfl) .z (by kernel_rfl) (Eq.mp (by kernel_rfl) h)

def F_usage_Table_Segs (a0 : Value) (w : World) (k : Value → World → Prop) : Prop :=
  wNil P a0 w fun t4 w =>
  wFieldA P T_usage_Table t4 1 w fun t5 w =>
  wLoad P T_Lcodec_Use t5 w fun t6 w =>
  wLen P .len #[T_Lcodec_Use] [t6] w fun t7 w =>
  k t7 w

theorem call_usage_Table_Segs (a0 : Value) {w : World} {k : Value → World → Prop} (h : F_usage_Table_Segs a0 w k) : wCall P n_usage_Table_Segs [a0] w k :=
  call_of_den mixedP Try.func196 (by kernel_rfl) .z (by kernel_rfl) (Eq.mp (by kernel_rfl) h)

def F_usage_Table_Get (a0 a1 : Value) (w : World) (k : Value → World → Prop) : Prop :=
  wAlloc P T_codec_Use w fun t4 w =>
  wCall P n_usage_Table_has [a0, a1] w fun t8 w =>
  wUn P .not t8 w fun t9 w =>
  wIf t9 (
    wBuild P T_codec_Use [] w fun t10 w =>
    wStore P T_codec_Use t4 t10 w fun w =>
    wRes P T_codec_Use t4 w fun r4 =>
    k (.tuple #[r4, (.int .i64 1)]) w) (
    wNil P a0 w fun t12 w =>
    wFieldA P T_usage_Table t12 1 w fun t13 w =>
    wLoad P T_Lcodec_Use t13 w fun t14 w =>
    wIndexA P T_Lcodec_Use t14 a1 w fun t16 w =>
    wLoad P T_codec_Use t16 w fun t17 w =>
    wStore P T_codec_Use t4 t17 w fun w =>
    wRes P T_codec_Use t4 w fun r4 =>
    k (.tuple #[r4, (.int .i64 0)]) w)

theorem call_usage_Table_Get (a0 a1 : Value) {w : World} {k : Value → World → Prop} (h : F_usage_Table_Get a0 a1 w k) : wCall P n_usage_Table_Get [a0, a1] w k :=
  call_of_den mixedP Try.func197 (by kernel_rfl) .z (by kernel_rfl) (Eq.mp (by kernel_rfl) h)

def F_usage_Table_First (a0 : Value) (w : World) (k : Value → World → Prop) : Prop :=
  wNil P a0 w fun t4 w =>
  wFieldA P T_usage_Table t4 1 w fun t5 w =>
  wLoad P T_Lcodec_Use t5 w fun t6 w =>
  wCall P n_slices_IndexFunc_codec_Use [t6, (.func (.func n_usage_clean) #[] #[])] w fun t7 w =>
  k t7 w

theorem call_usage_Table_First (a0 : Value) {w : World} {k : Value → World → Prop} (h : F_usage_Table_First a0 w k) : wCall P n_usage_Table_First [a0] w k :=
  call_of_den mixedP Try.func199 (by kernel_rfl) .z (by kernel_rfl) (Eq.mp (by kernel_rfl) h)

def F_usage_Table_Touch (a0 a1 a2 : Value) (w : World) (k : Value → World → Prop) : Prop :=
  wCall P n_usage_Table_has [a0, a1] w fun t9 w =>
  wUn P .not t9 w fun t10 w =>
  wIf t10 (
    k (.int .i64 1) w) (
    wDraw w fun w =>
    wNil P a0 w fun t12 w =>
    wFieldA P T_usage_Table t12 1 w fun t13 w =>
    wLoad P T_Lcodec_Use t13 w fun t14 w =>
    wNil P a0 w fun t17 w =>
    wFieldA P T_usage_Table t17 1 w fun t18 w =>
    wLoad P T_Lcodec_Use t18 w fun t19 w =>
    wIndexA P T_Lcodec_Use t19 a1 w fun t21 w =>
    wFieldA P T_codec_Use t21 2 w fun t22 w =>
    wLoad P T_uint32 t22 w fun t23 w =>
    wLen P .max #[T_uint32, T_uint32] [t23, a2] w fun t25 w =>
    wIndexA P T_Lcodec_Use t14 a1 w fun t26 w =>
    wFieldA P T_codec_Use t26 2 w fun t27 w =>
    wStore P T_uint32 t27 t25 w fun w =>
    k (.int .i64 0) w)

theorem call_usage_Table_Touch (a0 a1 a2 : Value) {w : World} {k : Value → World → Prop} (h : F_usage_Table_Touch a0 a1 a2 w k) : wCall P n_usage_Table_Touch [a0, a1, a2] w k :=
  call_of_den mixedP Try.func201 (by kernel_rfl) (.s .z (.s .z (.s (.r (.ops [0, 1, 2, 3, 4, 5, 6, 7, 8, 9, 10, 11, 12, 13, 14, 15, 16] (.eff 17 [] .nil))) .z))) (by kernel_rfl) (Eq.mp (by kernel_rfl) h)

end Go.Dn
