import Derived.Test.YtflnhihdbhjlnaaGn
/-! Texts of functions, printed by mkg.py. -/
set_option maxRecDepth 100000
set_option linter.unusedVariables false
namespace Go.Dn
open Go Go.Proofs
def F_law09_UsageParts (a0 a1 : Value) (w : World) (k : Value → World → Prop) : Prop :=
  wCall P n_law09_awake [] w fun t6 w =>
  wUn P .not t6 w fun t7 w =>
  wIf t7 (
    k (.bool false) w) (
    wLen P .min #[T_int, T_int] [a0, (.int .i64 1125899906842624)] w fun t9 w =>
    wLen P .max #[T_int, T_int] [(.int .i64 (-1125899906842624)), t9] w fun t10 w =>
    wLen P .min #[T_int, T_int] [a1, (.int .i64 1125899906842624)] w fun t12 w =>
    wLen P .max #[T_int, T_int] [(.int .i64 (-1125899906842624)), t12] w fun t13 w =>
    wCall P n_usage_Part [t10, t13] w fun t16 w =>
    wBin P .neq T_int t13 (.int .i64 0) w fun t19 w =>
    wIf t19 (
      wConv P T_int T_float64 t10 w fun t22 w =>
      wConv P T_int T_float64 t13 w fun t24 w =>
      wBinF P .quo T_float64 t22 t24 w fun t25 w =>
      wBin P .eql T_float64 t16 t25 w fun t26 w =>
      k t26 w) (
      wBin P .eql T_int t10 (.int .i64 0) w fun t29 w =>
      wIf t29 (
        wBin P .neq T_float64 t16 t16 w fun t32 w =>
        k t32 w) (
        wBin P .gtr T_int t10 (.int .i64 0) w fun t35 w =>
        wIf t35 (
          wBin P .gtr T_float64 t16 (.float .f64 9094988921128908188) w fun t37 w =>
          k t37 w) (
          wBin P .lss T_float64 t16 (.float .f64 18318360957983683996) w fun t39 w =>
          k t39 w))))

theorem call_law09_UsageParts (a0 a1 : Value) {w : World} {k : Value → World → Prop} (h : F_law09_UsageParts a0 a1 w k) : wCall P n_law09_UsageParts [a0, a1] w k :=
  call_of_den mixedP Try.func10 (by kernel_rfl) .z (by kernel_rfl) (Eq.mp (by kernel_rfl) h)

def F_law09_UsageOrders (a0 a1 a2 : Value) (w : World) (k : Value → World → Prop) : Prop :=
  wCall P n_law09_awake [] w fun t15 w =>
  wUn P .not t15 w fun t16 w =>
  wIf t16 (
    k (.bool false) w) (
    wJ1 (fun k2 =>
      wLen P .len #[T_Lref05_Use] [a1] w fun t18 w =>
      wBin P .gtr T_int t18 (.int .i64 40) w fun t19 w =>
      wIf t19 (
        wSlice P T_Lref05_Use a1 none (some (.int .i64 40)) none w fun t21 w =>
        k2 t21 w) (
        k2 a1 w)) fun _ v1 w =>
    wCall P n_ref09_New [(.int .i64 1), a0] w fun t23 w =>
    wAlloc P T_ref09_Table w fun t7 w =>
    wStore P T_ref09_Table t7 t23 w fun w =>
    wFieldA P T_ref09_Table t7 1 w fun t24 w =>
    wStore P T_Lref05_Use t24 (.slice none 0 0) w fun w =>
    wJ1 (fun k2 =>
      wLen P .len #[T_Lref05_Use] [v1] w fun t26 w =>
      wL2 (.slice none 0 0) (.int .i64 0) w (fun _ v8 v27 w k3 =>
        wBin P .lss T_int v27 t26 w fun t28 w =>
        wIf t28 (
          wIndexA P T_Lref05_Use v1 v27 w fun t29 w =>
          wLoad P T_ref05_Use t29 w fun t30 w =>
          wAlloc P T_ref05_Use w fun t10 w =>
          wStore P T_ref05_Use t10 t30 w fun w =>
          wFieldA P T_ref05_Use t10 0 w fun t31 w =>
          wLoad P T_int t31 w fun t32 w =>
          wFieldA P T_ref09_Table t7 0 w fun t33 w =>
          wLoad P T_int t33 w fun t34 w =>
          wLen P .min #[T_int, T_int] [t32, t34] w fun t35 w =>
          wLen P .max #[T_int, T_int] [(.int .i64 0), t35] w fun t36 w =>
          wFieldA P T_ref05_Use t10 0 w fun t37 w =>
          wStore P T_int t37 t36 w fun w =>
          wFieldA P T_ref05_Use t10 1 w fun t38 w =>
          wLoad P T_int t38 w fun t39 w =>
          wBin P .and T_int t39 (.int .i64 3) w fun t40 w =>
          wFieldA P T_ref05_Use t10 1 w fun t41 w =>
          wStore P T_int t41 t40 w fun w =>
          wFieldA P T_ref09_Table t7 1 w fun t42 w =>
          wLoad P T_Lref05_Use t42 w fun t43 w =>
          wLoad P T_ref05_Use t10 w fun t44 w =>
          wBuildS P T_Lref05_Use 1 [(0, t44)] w fun t45 w =>
          wBuiltin P .append #[T_Lref05_Use, T_Lref05_Use] [t43, t45] w fun t46 w =>
          wFieldA P T_ref09_Table t7 1 w fun t47 w =>
          wStore P T_Lref05_Use t47 t46 w fun w =>
          wFieldA P T_ref05_Use t10 0 w fun t49 w =>
          wLoad P T_int t49 w fun t50 w =>
          wFieldA P T_ref05_Use t10 1 w fun t51 w =>
          wLoad P T_int t51 w fun t52 w =>
          wFieldA P T_ref05_Use t10 2 w fun t53 w =>
          wLoad P T_uint32 t53 w fun t54 w =>
          wBuild P T_codec_Use [(0, t50), (1, t52), (2, t54)] w fun t55 w =>
          wBuildS P T_Lcodec_Use 1 [(0, t55)] w fun t56 w =>
          wBuiltin P .append #[T_Lcodec_Use, T_Lcodec_Use] [v8, t56] w fun t57 w =>
          wBin P .add T_int v27 (.int .i64 1) w fun t58 w =>
          k3 t57 t58 w) (
          k2 v8 w))) fun _ v8 w =>
    wCall P n_usage_Load [a0, v8] w fun t62 w =>
    wExtract P t62 0 w fun t63 w =>
    wExtract P t62 1 w fun t64 w =>
    wLen P .len #[T_Lcodec_Use] [v8] w fun t66 w =>
    wBin P .eql T_int t66 (.int .i64 0) w fun t67 w =>
    wIf t67 (
      wBin P .eql T_api_Errno t64 (.int .i64 1) w fun t69 w =>
      wGrp t69 true (fun k72 =>
        wBin P .eql T_pusage_Table t63 (.pointer none) w fun t72 w =>
        k72 t72 w) w fun _ t72 w =>
      wPick t69 t72 (.bool false) w fun t73 w =>
      k t73 w) (
      wBin P .neq T_api_Errno t64 (.int .i64 0) w fun t75 w =>
      wGrp t75 false (fun k80 =>
        wLoad P T_ref09_Table t7 w fun t78 w =>
        wCall P n_law09_is [t63, t78] w fun t79 w =>
        wUn P .not t79 w fun t80 w =>
        k80 t80 w) w fun _ t80 w =>
      wPick t75 (.bool true) t80 w fun t81 w =>
      wIf t81 (
        k (.bool false) w) (
        wCall P n_usage_Table_Order [t63, a2] w fun t84 w =>
        wJ0 (fun k4 =>
          wL1 (.int .i64 1) w (fun _ v14 w k5 =>
            wLen P .len #[T_Lint] [t84] w fun t87 w =>
            wBin P .lss T_int v14 t87 w fun t88 w =>
            wIf t88 (
              wDraw w fun w =>
              wLoad P T_ref09_Table t7 w fun t91 w =>
              wIndexA P T_Lint t84 v14 w fun t94 w =>
              wLoad P T_int t94 w fun t95 w =>
              wBin P .sub T_int v14 (.int .i64 1) w fun t98 w =>
              wIndexA P T_Lint t84 t98 w fun t99 w =>
              wLoad P T_int t99 w fun t100 w =>
              wCall P n_ref09_Better [t91, t95, t100, a2] w fun t102 w =>
              wGrp t102 false (fun k128 =>
                wLoad P T_ref09_Table t7 w fun t104 w =>
                wBin P .sub T_int v14 (.int .i64 1) w fun t107 w =>
                wIndexA P T_Lint t84 t107 w fun t108 w =>
                wLoad P T_int t108 w fun t109 w =>
                wIndexA P T_Lint t84 v14 w fun t112 w =>
                wLoad P T_int t112 w fun t113 w =>
                wCall P n_ref09_Better [t104, t109, t113, a2] w fun t115 w =>
                wUn P .not t115 w fun t116 w =>
                wGrp t116 true (fun k127 =>
                  wBin P .sub T_int v14 (.int .i64 1) w fun t120 w =>
                  wIndexA P T_Lint t84 t120 w fun t121 w =>
                  wLoad P T_int t121 w fun t122 w =>
                  wIndexA P T_Lint t84 v14 w fun t125 w =>
                  wLoad P T_int t125 w fun t126 w =>
                  wBin P .gtr T_int t122 t126 w fun t127 w =>
                  k127 t127 w) w fun _ t127 w =>
                wPick t116 t127 (.bool false) w fun t128 w =>
                k128 t128 w) w fun _ t128 w =>
              wPick t102 (.bool true) t128 w fun t129 w =>
              wIf t129 (
                k (.bool false) w) (
                wBin P .add T_int v14 (.int .i64 1) w fun t90 w =>
                k5 t90 w)) (
              k4 w))) fun _ w =>
        wLoad P T_ref09_Table t7 w fun t131 w =>
        wCall P n_ref09_Order [t131, a2] w fun t133 w =>
        wCall P n_law09_ints [t84, t133] w fun t134 w =>
        k t134 w)))

theorem call_law09_UsageOrders (a0 a1 a2 : Value) {w : World} {k : Value → World → Prop} (h : F_law09_UsageOrders a0 a1 a2 w k) : wCall P n_law09_UsageOrders [a0, a1, a2] w k :=
  call_of_den mixedP Try.func14 (by kernel_rfl) (.s .z (.s .z (.j [1] [0, 2] .z (.s .z (.s .z (.s .z (.j [8] [0, 2, 7] (.s .z (.b (.l [8, 27] [0, 2, 7, 25, 26] .z))) (.s .z (.s (.s .z (.s (.s (.r (.ops [0, 1, 2] (.grp 2 true 72 [71] (.ops [3, 4] .nil) (.ops [5, 6] .nil)))) .z) .z)) (.s (.s (.r (.ops [0, 1, 2] (.grp 2 false 80 [77, 78, 79] (.ops [3, 4, 5, 6] .nil) (.ops [7] .nil)))) .z) (.s .z (.j [] [2, 7, 13] (.s .z (.b (.l [14] [2, 7, 13] (.s .z (.s (.b (.s (.r (.ops [0, 1, 2, 3, 4, 5, 6, 7, 8, 9, 10] (.eff 11 [] (.ops [12] (.grp 12 false 128 [104, 105, 106, 107, 108, 109, 110, 111, 112, 113, 114, 115, 116, 117, 118, 119, 120, 121, 122, 123, 124, 125, 126, 127] (.ops [13, 14, 15, 16, 17, 18, 19, 20, 21, 22, 23] (.eff 24 [] (.ops [25, 26] (.grp 26 true 127 [118, 119, 120, 121, 122, 123, 124, 125, 126] (.ops [27, 28, 29, 30, 31, 32, 33, 34, 35, 36] .nil) (.ops [37] .nil))))) (.ops [38] .nil)))))) .z)) .z))))) .z)))))))))))) (by kernel_rfl) (Eq.mp (by kernel_rfl) h)

def F_law09_UsageLoads (a0 a1 : Value) (w : World) (k : Value → World → Prop) : Prop :=
  wCall P n_law09_awake [] w fun t13 w =>
  wUn P .not t13 w fun t14 w =>
  wIf t14 (
    k (.bool false) w) (
    wJ1 (fun k2 =>
      wLen P .len #[T_Lref05_Use] [a1] w fun t16 w =>
      wBin P .gtr T_int t16 (.int .i64 210) w fun t17 w =>
      wIf t17 (
        wSlice P T_Lref05_Use a1 none (some (.int .i64 210)) none w fun t19 w =>
        k2 t19 w) (
        k2 a1 w)) fun _ v1 w =>
    wCall P n_ref09_New [(.int .i64 1), a0] w fun t21 w =>
    wAlloc P T_ref09_Table w fun t6 w =>
    wStore P T_ref09_Table t6 t21 w fun w =>
    wLen P .len #[T_Lref05_Use] [v1] w fun t23 w =>
    wBin P .gtr T_int t23 (.int .i64 0) w fun t24 w =>
    wGrp t24 true (fun k28 =>
      wLen P .len #[T_Lref05_Use] [v1] w fun t27 w =>
      wBin P .leq T_int t27 (.int .i64 200) w fun t28 w =>
      k28 t28 w) w fun _ t28 w =>
    wPick t24 t28 (.bool false) w fun t29 w =>
    wJ2 (fun k2 =>
      wLen P .len #[T_Lref05_Use] [v1] w fun t31 w =>
      wL3 (.slice none 0 0) t29 (.int .i64 0) w (fun _ v5 v7 v32 w k3 =>
        wBin P .lss T_int v32 t31 w fun t33 w =>
        wIf t33 (
          wIndexA P T_Lref05_Use v1 v32 w fun t34 w =>
          wLoad P T_ref05_Use t34 w fun t35 w =>
          wAlloc P T_ref05_Use w fun t9 w =>
          wStore P T_ref05_Use t9 t35 w fun w =>
          wFieldA P T_ref05_Use t9 0 w fun t37 w =>
          wLoad P T_int t37 w fun t38 w =>
          wFieldA P T_ref05_Use t9 1 w fun t39 w =>
          wLoad P T_int t39 w fun t40 w =>
          wFieldA P T_ref05_Use t9 2 w fun t41 w =>
          wLoad P T_uint32 t41 w fun t42 w =>
          wBuild P T_codec_Use [(0, t38), (1, t40), (2, t42)] w fun t43 w =>
          wBuildS P T_Lcodec_Use 1 [(0, t43)] w fun t44 w =>
          wBuiltin P .append #[T_Lcodec_Use, T_Lcodec_Use] [v5, t44] w fun t45 w =>
          wGrp v7 true (fun k50 =>
            wFieldA P T_ref05_Use t9 0 w fun t48 w =>
            wLoad P T_int t48 w fun t49 w =>
            wBin P .geq T_int t49 (.int .i64 0) w fun t50 w =>
            k50 t50 w) w fun _ t50 w =>
          wPick v7 t50 (.bool false) w fun t51 w =>
          wGrp t51 true (fun k57 =>
            wFieldA P T_ref05_Use t9 0 w fun t53 w =>
            wLoad P T_int t53 w fun t54 w =>
            wFieldA P T_ref09_Table t6 0 w fun t55 w =>
            wLoad P T_int t55 w fun t56 w =>
            wBin P .leq T_int t54 t56 w fun t57 w =>
            k57 t57 w) w fun _ t57 w =>
          wPick t51 t57 (.bool false) w fun t58 w =>
          wGrp t58 true (fun k62 =>
            wFieldA P T_ref05_Use t9 1 w fun t60 w =>
            wLoad P T_int t60 w fun t61 w =>
            wBin P .geq T_int t61 (.int .i64 0) w fun t62 w =>
            k62 t62 w) w fun _ t62 w =>
          wPick t58 t62 (.bool false) w fun t63 w =>
          wGrp t63 true (fun k67 =>
            wFieldA P T_ref05_Use t9 1 w fun t65 w =>
            wLoad P T_int t65 w fun t66 w =>
            wBin P .leq T_int t66 (.int .i64 3) w fun t67 w =>
            k67 t67 w) w fun _ t67 w =>
          wPick t63 t67 (.bool false) w fun t68 w =>
          wBin P .add T_int v32 (.int .i64 1) w fun t69 w =>
          k3 t45 t68 t69 w) (
          k2 v5 v7 w))) fun _ v5 v7 w =>
    wCall P n_usage_Load [a0, v5] w fun t73 w =>
    wExtract P t73 0 w fun t74 w =>
    wExtract P t73 1 w fun t75 w =>
    wUn P .not v7 w fun t77 w =>
    wIf t77 (
      wBin P .eql T_api_Errno t75 (.int .i64 1) w fun t79 w =>
      wGrp t79 true (fun k82 =>
        wBin P .eql T_pusage_Table t74 (.pointer none) w fun t82 w =>
        k82 t82 w) w fun _ t82 w =>
      wPick t79 t82 (.bool false) w fun t83 w =>
      k t83 w) (
      wFieldA P T_ref09_Table t6 1 w fun t85 w =>
      wStore P T_Lref05_Use t85 v1 w fun w =>
      wBin P .neq T_api_Errno t75 (.int .i64 0) w fun t87 w =>
      wGrp t87 false (fun k92 =>
        wLoad P T_ref09_Table t6 w fun t90 w =>
        wCall P n_law09_is [t74, t90] w fun t91 w =>
        wUn P .not t91 w fun t92 w =>
        k92 t92 w) w fun _ t92 w =>
      wPick t87 (.bool true) t92 w fun t93 w =>
      wIf t93 (
        k (.bool false) w) (
        wCall P n_usage_Table_Uses [t74] w fun t97 w =>
        wCall P n_usage_Load [a0, t97] w fun t98 w =>
        wExtract P t98 0 w fun t99 w =>
        wExtract P t98 1 w fun t100 w =>
        wIndexA P T_Lcodec_Use v5 (.int .i64 0) w fun t102 w =>
        wFieldA P T_codec_Use t102 0 w fun t103 w =>
        wStore P T_int t103 (.int .i64 (-7)) w fun w =>
        wBin P .eql T_api_Errno t100 (.int .i64 0) w fun t105 w =>
        wGrp t105 true (fun k109 =>
          wLoad P T_ref09_Table t6 w fun t108 w =>
          wCall P n_law09_is [t99, t108] w fun t109 w =>
          k109 t109 w) w fun _ t109 w =>
        wPick t105 t109 (.bool false) w fun t110 w =>
        wGrp t110 true (fun k114 =>
          wLoad P T_ref09_Table t6 w fun t113 w =>
          wCall P n_law09_is [t74, t113] w fun t114 w =>
          k114 t114 w) w fun _ t114 w =>
        wPick t110 t114 (.bool false) w fun t115 w =>
        k t115 w)))

theorem call_law09_UsageLoads (a0 a1 : Value) {w : World} {k : Value → World → Prop} (h : F_law09_UsageLoads a0 a1 w k) : wCall P n_law09_UsageLoads [a0, a1] w k :=
  call_of_den mixedP Try.func15 (by kernel_rfl) (.s .z (.s .z (.j [1] [0] .z (.s .z (.s .z (.s (.r (.ops [0, 1, 2, 3] (.grp 3 true 28 [26, 27] (.ops [4, 5, 6] .nil) (.ops [7, 8] .nil)))) (.j [5, 7] [0, 1, 6] (.s .z (.b (.l [5, 7, 32] [0, 1, 6, 30, 31] (.s .z (.s .z (.s (.b (.s .z (.s .z (.r (.ops [0, 1] (.grp 1 true 50 [48, 49] (.ops [2, 3, 4] .nil) (.ops [5, 6] (.grp 6 true 57 [53, 54, 55, 56] (.ops [7, 8, 9, 10, 11] .nil) (.ops [12, 13] (.grp 13 true 62 [60, 61] (.ops [14, 15, 16] .nil) (.ops [17, 18] (.grp 18 true 67 [65, 66] (.ops [19, 20, 21] .nil) (.ops [22, 23] .nil))))))))))))) .z)))))) (.s .z (.s (.s .z (.s (.s (.r (.ops [0, 1, 2] (.grp 2 true 82 [81] (.ops [3, 4] .nil) (.ops [5, 6] .nil)))) .z) .z)) (.s .z (.s (.s (.r (.ops [0, 1, 2] (.grp 2 false 92 [89, 90, 91] (.ops [3, 4, 5, 6] .nil) (.ops [7] .nil)))) .z) (.s .z (.s .z (.s (.r (.ops [0, 1, 2] (.grp 2 true 109 [107, 108] (.ops [3, 4, 5] .nil) (.ops [6, 7] (.grp 7 true 114 [112, 113] (.ops [8, 9, 10] .nil) (.ops [11, 12] .nil)))))) .z)))))))))))))) (by kernel_rfl) (Eq.mp (by kernel_rfl) h)

def F_law09_UsagePlays (a0 a1 a2 : Value) (w : World) (k : Value → World → Prop) : Prop :=
  wCall P n_law09_awake [] w fun t12 w =>
  wUn P .not t12 w fun t13 w =>
  wIf t13 (
    k (.bool false) w) (
    wLen P .min #[T_int, T_int] [a0, (.int .i64 30)] w fun t15 w =>
    wLen P .max #[T_int, T_int] [(.int .i64 (-3)), t15] w fun t16 w =>
    wCall P n_usage_New [t16, a1] w fun t19 w =>
    wCall P n_ref09_New [t16, a1] w fun t22 w =>
    wAlloc P T_ref09_Table w fun t8 w =>
    wStore P T_ref09_Table t8 t22 w fun w =>
    wLoad P T_ref09_Table t8 w fun t24 w =>
    wCall P n_law09_is [t19, t24] w fun t25 w =>
    wUn P .not t25 w fun t26 w =>
    wIf t26 (
      k (.bool false) w) (
      wL1 (.int .i64 0) w (fun _ v9 w k3 =>
        wLen P .len #[T_Llaw09_Act] [a2] w fun t29 w =>
        wBin P .lss T_int v9 t29 w fun t30 w =>
        wGrp t30 true (fun k33 =>
          wBin P .lss T_int v9 (.int .i64 40) w fun t33 w =>
          k33 t33 w) w fun _ t33 w =>
        wPick t30 t33 (.bool false) w fun t34 w =>
        wIf t34 (
          wJ2 (fun k5 =>
            wDraw w fun w =>
            wLoad P T_ref09_Table t8 w fun t39 w =>
            wIndexA P T_Llaw09_Act a2 v9 w fun t42 w =>
            wLoad P T_law09_Act t42 w fun t43 w =>
            (wCall P n_law09_do [t19, t39, t43] w fun t44 w =>
              wExtract P t44 0 w fun t45 w =>
              wExtract P t44 1 w fun t46 w =>
              wAlloc P T_ref09_Table w fun t10 w =>
              wKeep P [(T_ref09_Table, t8, t39), (T_law09_Act, t42, t43)] w ∧ wStore P T_ref09_Table t10 t45 w fun w =>
              k5 t10 t46 w) ∧ (wAlloc P T_ref09_Table w fun t10 w =>
              wKeep P [(T_ref09_Table, t8, t39), (T_law09_Act, t42, t43)] w ∧ wCall P n_law09_do [t19, t39, t43] w fun t44 w =>
              wExtract P t44 0 w fun t45 w =>
              wExtract P t44 1 w fun t46 w =>
              wStore P T_ref09_Table t10 t45 w fun w =>
              k5 t10 t46 w)) fun _ v10 v11 w =>
          wLoad P T_ref09_Table v10 w fun t47 w =>
          wStore P T_ref09_Table t8 t47 w fun w =>
          wUn P .not v11 w fun t49 w =>
          wGrp t49 false (fun k54 =>
            wLoad P T_ref09_Table t8 w fun t52 w =>
            wCall P n_law09_is [t19, t52] w fun t53 w =>
            wUn P .not t53 w fun t54 w =>
            k54 t54 w) w fun _ t54 w =>
          wPick t49 (.bool true) t54 w fun t55 w =>
          wIf t55 (
            k (.bool false) w) (
            wBin P .add T_int v9 (.int .i64 1) w fun t36 w =>
            k3 t36 w)) (
          k (.bool true) w))))

theorem call_law09_UsagePlays (a0 a1 a2 : Value) {w : World} {k : Value → World → Prop} (h : F_law09_UsagePlays a0 a1 a2 w k) : wCall P n_law09_UsagePlays [a0, a1, a2] w k :=
  call_of_den mixedP Try.func16 (by kernel_rfl) (.s .z (.s .z (.s .z (.s .z (.s .z (.s (.s .z (.b (.l [9] [2, 7, 8] (.s (.s (.r (.ops [0, 1, 2, 3, 4] (.grp 4 true 33 [32] (.ops [5, 6] .nil) (.ops [7] .nil)))) .z) (.s (.b (.j [10, 11] [2, 7, 8, 9] (.r (.ops [0, 1, 2, 3, 4, 5] (.alt (.eff 6 [] (.ops [7, 8, 9] (.eff 10 [1, 5] (.eff 11 [] (.ops [12] .nil))))) (.eff 10 [1, 5] (.eff 6 [] (.ops [7, 8, 9] (.eff 11 [] (.ops [12] .nil)))))))) (.s .z (.s (.r (.ops [0, 1, 2] (.grp 2 false 54 [51, 52, 53] (.ops [3, 4, 5, 6] .nil) (.ops [7] .nil)))) .z)))) .z))))) .z)))))) (by kernel_rfl) (Eq.mp (by kernel_rfl) h)

def F_law09_UsageRanks (a0 : Value) (w : World) (k : Value → World → Prop) : Prop :=
  wCall P n_law09_awake [] w fun t5 w =>
  wUn P .not t5 w fun t6 w =>
  wIf t6 (
    k (.bool false) w) (
    wJ1 (fun k2 =>
      wL2 (.slice none 0 0) (.int .i64 0) w (fun _ v3 v4 w k3 =>
        wLen P .len #[T_Luint64] [a0] w fun t9 w =>
        wBin P .lss T_int v4 t9 w fun t10 w =>
        wGrp t10 true (fun k13 =>
          wBin P .lss T_int v4 (.int .i64 30) w fun t13 w =>
          k13 t13 w) w fun _ t13 w =>
        wPick t10 t13 (.bool false) w fun t14 w =>
        wIf t14 (
          wIndexA P T_Luint64 a0 v4 w fun t20 w =>
          wLoad P T_uint64 t20 w fun t21 w =>
          wCall P n_math_Float64frombits [t21] w fun t22 w =>
          wBuildS P T_Lfloat64 1 [(0, t22)] w fun t23 w =>
          wBuiltin P .append #[T_Lfloat64, T_Lfloat64] [v3, t23] w fun t24 w =>
          wBin P .add T_int v4 (.int .i64 1) w fun t16 w =>
          k3 t24 t16 w) (
          k2 v3 w))) fun _ v3 w =>
    wCall P n_usage_Rank [v3] w fun t26 w =>
    wCall P n_ref09_Rank [v3] w fun t28 w =>
    wCall P n_law09_ints [t26, t28] w fun t29 w =>
    k t29 w)

theorem call_law09_UsageRanks (a0 : Value) {w : World} {k : Value → World → Prop} (h : F_law09_UsageRanks a0 w k) : wCall P n_law09_UsageRanks [a0] w k :=
  call_of_den mixedP Try.func18 (by kernel_rfl) (.s .z (.s .z (.s .z (.j [3] [] (.s .z (.b (.l [3, 4] [0] (.s (.s (.r (.ops [0, 1, 2, 3, 4] (.grp 4 true 13 [12] (.ops [5, 6] .nil) (.ops [7] .nil)))) .z) .z)))) .z)))) (by kernel_rfl) (Eq.mp (by kernel_rfl) h)

def F_law09_awake (w : World) (k : Value → World → Prop) : Prop :=
  wCall P n_usage_New [(.int .i64 3), (.int .i64 16)] w fun t5 w =>
  wBin P .eql T_pusage_Table t5 (.pointer none) w fun t7 w =>
  wGrp t7 false (fun k11 =>
    wCall P n_usage_Table_Clean [t5] w fun t10 w =>
    wBin P .neq T_int t10 (.int .i64 3) w fun t11 w =>
    k11 t11 w) w fun _ t11 w =>
  wPick t7 (.bool true) t11 w fun t12 w =>
  wIf t12 (
    k (.bool false) w) (
    wCall P n_usage_Table_Set [t5, (.int .i64 1), (.int .i64 1)] w fun t14 w =>
    wCall P n_usage_Table_Count [t5, (.int .i64 1), (.int .i64 4)] w fun t16 w =>
    wCall P n_usage_Table_Order [t5, (.int .u32 0)] w fun t18 w =>
    wBin P .eql T_api_Errno t14 (.int .i64 0) w fun t20 w =>
    wGrp t20 true (fun k23 =>
      wBin P .eql T_api_Errno t16 (.int .i64 0) w fun t23 w =>
      k23 t23 w) w fun _ t23 w =>
    wPick t20 t23 (.bool false) w fun t24 w =>
    wGrp t24 true (fun k28 =>
      wLen P .len #[T_Lint] [t18] w fun t27 w =>
      wBin P .eql T_int t27 (.int .i64 1) w fun t28 w =>
      k28 t28 w) w fun _ t28 w =>
    wPick t24 t28 (.bool false) w fun t29 w =>
    wGrp t29 true (fun k34 =>
      wIndexA P T_Lint t18 (.int .i64 0) w fun t32 w =>
      wLoad P T_int t32 w fun t33 w =>
      wBin P .eql T_int t33 (.int .i64 1) w fun t34 w =>
      k34 t34 w) w fun _ t34 w =>
    wPick t29 t34 (.bool false) w fun t35 w =>
    wGrp t35 true (fun k39 =>
      wCall P n_usage_Table_Live [t5] w fun t38 w =>
      wBin P .eql T_int t38 (.int .i64 4) w fun t39 w =>
      k39 t39 w) w fun _ t39 w =>
    wPick t35 t39 (.bool false) w fun t40 w =>
    k t40 w)

theorem call_law09_awake {w : World} {k : Value → World → Prop} (h : F_law09_awake w k) : wCall P n_law09_awake [] w k :=
  call_of_den mixedP Try.func72 (by kernel_rfl) (.s .z (.s .z (.s (.s (.r (.ops [0, 1, 2] (.grp 2 false 11 [9, 10] (.ops [3, 4, 5] .nil) (.ops [6] .nil)))) .z) (.s .z (.s .z (.s (.r (.ops [0, 1, 2] (.grp 2 true 23 [22] (.ops [3, 4] .nil) (.ops [5, 6] (.grp 6 true 28 [26, 27] (.ops [7, 8, 9] .nil) (.ops [10, 11] (.grp 11 true 34 [31, 32, 33] (.ops [12, 13, 14, 15] .nil) (.ops [16, 17] (.grp 17 true 39 [37, 38] (.ops [18, 19, 20] .nil) (.ops [21, 22] .nil)))))))))) .z)))))) (by kernel_rfl) (Eq.mp (by kernel_rfl) h)

def F_law09_is (a0 a1 : Value) (w : World) (k : Value → World → Prop) : Prop :=
  wBox P T_ref09_Table a1 w fun t3 w =>
  wDraw w fun w =>
  wFieldA P T_ref09_Table t3 1 w fun t16 w =>
  wLoad P T_Lref05_Use t16 w fun t17 w =>
  wLen P .len #[T_Lref05_Use] [t17] w fun t18 w =>
  wCall P n_usage_Table_Segs [a0] w fun t15 w =>
  wKeep P [(T_Lref05_Use, t16, t17)] w ∧ wBin P .neq T_int t15 t18 w fun t19 w =>
  wGrp t19 false (fun k27 =>
    wFieldA P T_ref09_Table t3 1 w fun t24 w =>
    wLoad P T_Lref05_Use t24 w fun t25 w =>
    wLen P .len #[T_Lref05_Use] [t25] w fun t26 w =>
    wCall P n_usage_Table_Uses [a0] w fun t22 w =>
    wKeep P [(T_Lref05_Use, t24, t25)] w ∧ wLen P .len #[T_Lcodec_Use] [t22] w fun t23 w =>
    wBin P .neq T_int t23 t26 w fun t27 w =>
    k27 t27 w) w fun _ t27 w =>
  wPick t19 (.bool true) t27 w fun t28 w =>
  wIf t28 (
    k (.bool false) w) (
    wJ3 (fun k2 =>
      wFieldA P T_ref09_Table t3 1 w fun t29 w =>
      wLoad P T_Lref05_Use t29 w fun t30 w =>
      wLen P .len #[T_Lref05_Use] [t30] w fun t31 w =>
      wL4 (.int .i64 0) (.int .i64 (-1)) (.int .i64 0) (.int .i64 0) w (fun _ v5 v6 v7 v32 w k3 =>
        wBin P .lss T_int v32 t31 w fun t33 w =>
        wIf t33 (
          wIndexA P T_Lref05_Use t30 v32 w fun t35 w =>
          wLoad P T_ref05_Use t35 w fun t36 w =>
          wAlloc P T_ref05_Use w fun t9 w =>
          wStore P T_ref05_Use t9 t36 w fun w =>
          wCall P n_usage_Table_Get [a0, v32] w fun t40 w =>
          wExtract P t40 0 w fun t41 w =>
          wExtract P t40 1 w fun t42 w =>
          wAlloc P T_codec_Use w fun t10 w =>
          wStore P T_codec_Use t10 t41 w fun w =>
          wDraw w fun w =>
          wBin P .neq T_api_Errno t42 (.int .i64 0) w fun t44 w =>
          wGrp t44 false (fun k49 =>
            wLoad P T_codec_Use t10 w fun t46 w =>
            wLoad P T_ref05_Use t9 w fun t48 w =>
            wCall P n_law09_told [t46] w fun t47 w =>
            wKeep P [(T_ref05_Use, t9, t48)] w ∧ wBin P .neq T_ref05_Use t47 t48 w fun t49 w =>
            k49 t49 w) w fun _ t49 w =>
          wPick t44 (.bool true) t49 w fun t50 w =>
          wGrp t50 false (fun k59 =>
            wLoad P T_ref05_Use t9 w fun t58 w =>
            wCall P n_usage_Table_Uses [a0] w fun t53 w =>
            wKeep P [(T_ref05_Use, t9, t58)] w ∧ wIndexA P T_Lcodec_Use t53 v32 w fun t55 w =>
            wLoad P T_codec_Use t55 w fun t56 w =>
            wCall P n_law09_told [t56] w fun t57 w =>
            wKeep P [(T_ref05_Use, t9, t58)] w ∧ wBin P .neq T_ref05_Use t57 t58 w fun t59 w =>
            k59 t59 w) w fun _ t59 w =>
          wPick t50 (.bool true) t59 w fun t60 w =>
          wIf t60 (
            k (.bool false) w) (
            wFieldA P T_ref05_Use t9 1 w fun t61 w =>
            wLoad P T_int t61 w fun t62 w =>
            wBin P .eql T_int t62 (.int .i64 0) w fun t63 w =>
            wIf t63 (
              wBin P .add T_int v5 (.int .i64 1) w fun t65 w =>
              wBin P .lss T_int v6 (.int .i64 0) w fun t67 w =>
              wIf t67 (
                wFieldA P T_ref05_Use t9 0 w fun t70 w =>
                wLoad P T_int t70 w fun t71 w =>
                wBin P .add T_int v7 t71 w fun t72 w =>
                wBin P .add T_int v32 (.int .i64 1) w fun t73 w =>
                k3 t65 v32 t72 t73 w) (
                wFieldA P T_ref05_Use t9 0 w fun t70 w =>
                wLoad P T_int t70 w fun t71 w =>
                wBin P .add T_int v7 t71 w fun t72 w =>
                wBin P .add T_int v32 (.int .i64 1) w fun t73 w =>
                k3 t65 v6 t72 t73 w)) (
              wFieldA P T_ref05_Use t9 0 w fun t70 w =>
              wLoad P T_int t70 w fun t71 w =>
              wBin P .add T_int v7 t71 w fun t72 w =>
              wBin P .add T_int v32 (.int .i64 1) w fun t73 w =>
              k3 v5 v6 t72 t73 w))) (
          k2 v5 v6 v7 w))) fun _ v5 v6 v7 w =>
    wFieldA P T_ref09_Table t3 1 w fun t76 w =>
    wLoad P T_Lref05_Use t76 w fun t77 w =>
    wLen P .len #[T_Lref05_Use] [t77] w fun t78 w =>
    wCall P n_usage_Table_Get [a0, t78] w fun t79 w =>
    wExtract P t79 0 w fun t80 w =>
    wExtract P t79 1 w fun t81 w =>
    wAlloc P T_codec_Use w fun t12 w =>
    wStore P T_codec_Use t12 t80 w fun w =>
    wCall P n_usage_Table_Clean [a0] w fun t83 w =>
    wBin P .eql T_int t83 v5 w fun t85 w =>
    wGrp t85 true (fun k90 =>
      wCall P n_usage_Table_First [a0] w fun t88 w =>
      wBin P .eql T_int t88 v6 w fun t90 w =>
      k90 t90 w) w fun _ t90 w =>
    wPick t85 t90 (.bool false) w fun t91 w =>
    wGrp t91 true (fun k96 =>
      wCall P n_usage_Table_Live [a0] w fun t94 w =>
      wBin P .eql T_int t94 v7 w fun t96 w =>
      k96 t96 w) w fun _ t96 w =>
    wPick t91 t96 (.bool false) w fun t97 w =>
    wGrp t97 true (fun k100 =>
      wBin P .eql T_api_Errno t81 (.int .i64 1) w fun t100 w =>
      k100 t100 w) w fun _ t100 w =>
    wPick t97 t100 (.bool false) w fun t101 w =>
    k t101 w)

theorem call_law09_is (a0 a1 : Value) {w : World} {k : Value → World → Prop} (h : F_law09_is a0 a1 w k) : wCall P n_law09_is [a0, a1] w k :=
  call_of_den mixedP Try.func90 (by kernel_rfl) (.s .z (.s .z (.s (.s (.r (.ops [0, 2, 3, 4] (.eff 1 [3] (.ops [5, 6] (.grp 6 false 27 [21, 22, 23, 24, 25, 26] (.ops [7, 10, 11, 12] (.eff 8 [11] (.ops [9, 13] .nil))) (.ops [14] .nil)))))) .z) (.j [5, 6, 7] [0, 3] (.s .z (.b (.l [5, 6, 7, 32] [0, 3, 30, 31] (.s .z (.s .z (.s (.b (.s .z (.s .z (.s (.s (.r (.ops [0, 1, 2] (.grp 2 false 49 [46, 47, 48] (.ops [3, 5] (.eff 4 [5] (.ops [6] .nil))) (.ops [7, 8] (.grp 8 false 59 [52, 53, 54, 55, 56, 57, 58] (.ops [9, 11, 15] (.eff 10 [15] (.ops [12, 13] (.eff 14 [15] (.ops [16] .nil))))) (.ops [17] .nil)))))) .z) .z)))) .z)))))) (.s .z (.s (.r (.ops [0, 1, 2, 3, 4] (.grp 4 true 90 [87, 88, 89] (.ops [5, 6, 7, 8] .nil) (.ops [9, 10] (.grp 10 true 96 [93, 94, 95] (.ops [11, 12, 13, 14] .nil) (.ops [15, 16] (.grp 16 true 100 [99] (.ops [17, 18] .nil) (.ops [19, 20] .nil)))))))) .z)))))) (by kernel_rfl) (Eq.mp (by kernel_rfl) h)

def F_law09_ints (a0 a1 : Value) (w : World) (k : Value → World → Prop) : Prop :=
  wLen P .len #[T_Lint] [a0] w fun t7 w =>
  wLen P .len #[T_Lint] [a1] w fun t9 w =>
  wBin P .neq T_int t7 t9 w fun t10 w =>
  wIf t10 (
    k (.bool false) w) (
    wLen P .len #[T_Lint] [a0] w fun t12 w =>
    wL1 (.int .i64 0) w (fun _ v13 w k2 =>
      wBin P .lss T_int v13 t12 w fun t14 w =>
      wIf t14 (
        wDraw w fun w =>
        wIndexA P T_Lint a0 v13 w fun t18 w =>
        wLoad P T_int t18 w fun t19 w =>
        wIndexA P T_Lint a1 v13 w fun t22 w =>
        wLoad P T_int t22 w fun t23 w =>
        wBin P .neq T_int t19 t23 w fun t24 w =>
        wIf t24 (
          k (.bool false) w) (
          wBin P .add T_int v13 (.int .i64 1) w fun t25 w =>
          k2 t25 w)) (
        k (.bool true) w)))

theorem call_law09_ints (a0 a1 : Value) {w : World} {k : Value → World → Prop} (h : F_law09_ints a0 a1 w k) : wCall P n_law09_ints [a0, a1] w k :=
  call_of_den mixedP Try.func92 (by kernel_rfl) (.s .z (.s .z (.s (.s .z (.b (.l [13] [0, 1, 12] (.s .z (.s .z (.s (.b (.s .z (.s (.r (.ops [0, 1, 2, 3, 4, 5, 6, 7, 8] .nil)) .z))) .z)))))) .z))) (by kernel_rfl) (Eq.mp (by kernel_rfl) h)

def F_law09_do (a0 a1 a2 : Value) (w : World) (k : Value → World → Prop) : Prop :=
  wBox P T_ref09_Table a1 w fun t4 w =>
  wBox P T_law09_Act a2 w fun t5 w =>
  wAlloc P T_ref09_Table w fun t6 w =>
  wFieldA P T_law09_Act t5 0 w fun t20 w =>
  wLoad P T_int t20 w fun t21 w =>
  wBin P .eql T_int t21 (.int .i64 0) w fun t23 w =>
  wIf t23 (
    wFieldA P T_law09_Act t5 1 w fun t25 w =>
    wLoad P T_int t25 w fun t26 w =>
    wFieldA P T_law09_Act t5 2 w fun t27 w =>
    wLoad P T_int t27 w fun t28 w =>
    wCall P n_usage_Table_Count [a0, t26, t28] w fun t29 w =>
    wLoad P T_ref09_Table t4 w fun t31 w =>
    wFieldA P T_law09_Act t5 1 w fun t32 w =>
    wLoad P T_int t32 w fun t33 w =>
    wFieldA P T_law09_Act t5 2 w fun t34 w =>
    wLoad P T_int t34 w fun t35 w =>
    wCall P n_ref09_Count [t31, t33, t35] w fun t36 w =>
    wExtract P t36 0 w fun t37 w =>
    wExtract P t36 1 w fun t38 w =>
    wAlloc P T_ref09_Table w fun t9 w =>
    wStore P T_ref09_Table t9 t37 w fun w =>
    wLoad P T_ref09_Table t9 w fun t39 w =>
    wBin P .eql T_int t29 t38 w fun t42 w =>
    wStore P T_ref09_Table t6 t39 w fun w =>
    wRes P T_ref09_Table t6 w fun r6 =>
    k (.tuple #[r6, t42]) w) (
    wBin P .eql T_int t21 (.int .i64 1) w fun t44 w =>
    wIf t44 (
      wFieldA P T_law09_Act t5 1 w fun t46 w =>
      wLoad P T_int t46 w fun t47 w =>
      wFieldA P T_law09_Act t5 3 w fun t48 w =>
      wLoad P T_uint32 t48 w fun t49 w =>
      wCall P n_usage_Table_Touch [a0, t47, t49] w fun t50 w =>
      wLoad P T_ref09_Table t4 w fun t52 w =>
      wFieldA P T_law09_Act t5 1 w fun t53 w =>
      wLoad P T_int t53 w fun t54 w =>
      wFieldA P T_law09_Act t5 3 w fun t55 w =>
      wLoad P T_uint32 t55 w fun t56 w =>
      wCall P n_ref09_Touch [t52, t54, t56] w fun t57 w =>
      wExtract P t57 0 w fun t58 w =>
      wExtract P t57 1 w fun t59 w =>
      wAlloc P T_ref09_Table w fun t12 w =>
      wStore P T_ref09_Table t12 t58 w fun w =>
      wLoad P T_ref09_Table t12 w fun t60 w =>
      wBin P .eql T_int t50 t59 w fun t63 w =>
      wStore P T_ref09_Table t6 t60 w fun w =>
      wRes P T_ref09_Table t6 w fun r6 =>
      k (.tuple #[r6, t63]) w) (
      wBin P .eql T_int t21 (.int .i64 2) w fun t65 w =>
      wIf t65 (
        wFieldA P T_law09_Act t5 1 w fun t67 w =>
        wLoad P T_int t67 w fun t68 w =>
        wFieldA P T_law09_Act t5 2 w fun t69 w =>
        wLoad P T_int t69 w fun t70 w =>
        wCall P n_usage_Table_Set [a0, t68, t70] w fun t71 w =>
        wLoad P T_ref09_Table t4 w fun t73 w =>
        wFieldA P T_law09_Act t5 1 w fun t74 w =>
        wLoad P T_int t74 w fun t75 w =>
        wFieldA P T_law09_Act t5 2 w fun t76 w =>
        wLoad P T_int t76 w fun t77 w =>
        wCall P n_ref09_Set [t73, t75, t77] w fun t78 w =>
        wExtract P t78 0 w fun t79 w =>
        wExtract P t78 1 w fun t80 w =>
        wAlloc P T_ref09_Table w fun t15 w =>
        wStore P T_ref09_Table t15 t79 w fun w =>
        wLoad P T_ref09_Table t15 w fun t81 w =>
        wBin P .eql T_int t71 t80 w fun t84 w =>
        wStore P T_ref09_Table t6 t81 w fun w =>
        wRes P T_ref09_Table t6 w fun r6 =>
        k (.tuple #[r6, t84]) w) (
        wBin P .eql T_int t21 (.int .i64 3) w fun t86 w =>
        wIf t86 (
          wCall P n_usage_Table_Release [a0] w fun t88 w =>
          wLoad P T_ref09_Table t4 w fun t90 w =>
          wCall P n_ref09_Release [t90] w fun t91 w =>
          wExtract P t91 0 w fun t92 w =>
          wExtract P t91 1 w fun t93 w =>
          wAlloc P T_ref09_Table w fun t18 w =>
          wStore P T_ref09_Table t18 t92 w fun w =>
          wDraw w fun w =>
          wLoad P T_ref09_Table t18 w fun t94 w =>
          wCall P n_law09_ints [t88, t93] w fun t97 w =>
          wKeep P [(T_ref09_Table, t18, t94)] w ∧ wStore P T_ref09_Table t6 t94 w fun w =>
          wRes P T_ref09_Table t6 w fun r6 =>
          k (.tuple #[r6, t97]) w) (
          wDraw w fun w =>
          wLoad P T_ref09_Table t4 w fun t98 w =>
          wFieldA P T_law09_Act t5 3 w fun t100 w =>
          wLoad P T_uint32 t100 w fun t101 w =>
          wLoad P T_ref09_Table t4 w fun t103 w =>
          wFieldA P T_law09_Act t5 3 w fun t104 w =>
          wLoad P T_uint32 t104 w fun t105 w =>
          wCall P n_usage_Table_Order [a0, t101] w fun t102 w =>
          wKeep P [(T_ref09_Table, t4, t98), (T_ref09_Table, t4, t103), (T_uint32, t104, t105)] w ∧ wCall P n_ref09_Order [t103, t105] w fun t106 w =>
          wKeep P [(T_ref09_Table, t4, t98)] w ∧ wCall P n_law09_ints [t102, t106] w fun t107 w =>
          wKeep P [(T_ref09_Table, t4, t98)] w ∧ wStore P T_ref09_Table t6 t98 w fun w =>
          wRes P T_ref09_Table t6 w fun r6 =>
          k (.tuple #[r6, t107]) w))))

theorem call_law09_do (a0 a1 a2 : Value) {w : World} {k : Value → World → Prop} (h : F_law09_do a0 a1 a2 w k) : wCall P n_law09_do [a0, a1, a2] w k :=
  call_of_den mixedP Try.func94 (by kernel_rfl) (.s .z (.s (.s .z (.b (.s .z (.s .z (.s .z (.s .z (.s .z (.s .z (.s .z (.s (.s .z (.s .z (.s (.r (.ops [0, 1, 2] (.eff 3 [0] (.eff 4 [] (.ops [5] .nil))))) .z))) .z)))))))))) (.s (.r (.ops [0, 1, 2, 3, 5, 6, 7] (.eff 4 [0, 5, 7] (.eff 8 [0] (.eff 9 [0] (.eff 10 [] (.ops [11] .nil))))))) .z))) (by kernel_rfl) (Eq.mp (by kernel_rfl) h)

def F_law09_told (a0 : Value) (w : World) (k : Value → World → Prop) : Prop :=
  wBox P T_codec_Use a0 w fun t1 w =>
  wAlloc P T_ref05_Use w fun t2 w =>
  wFieldA P T_codec_Use t1 0 w fun t3 w =>
  wLoad P T_int t3 w fun t4 w =>
  wFieldA P T_codec_Use t1 1 w fun t5 w =>
  wLoad P T_int t5 w fun t6 w =>
  wFieldA P T_codec_Use t1 2 w fun t7 w =>
  wLoad P T_uint32 t7 w fun t8 w =>
  wBuild P T_ref05_Use [(0, t4), (1, t6), (2, t8)] w fun t9 w =>
  wStore P T_ref05_Use t2 t9 w fun w =>
  wRes P T_ref05_Use t2 w fun r2 =>
  k r2 w

theorem call_law09_told (a0 : Value) {w : World} {k : Value → World → Prop} (h : F_law09_told a0 w k) : wCall P n_law09_told [a0] w k :=
  call_of_den mixedP Try.func198 (by kernel_rfl) .z (by kernel_rfl) (Eq.mp (by kernel_rfl) h)

end Go.Dn
