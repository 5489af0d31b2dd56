import Derived.Test.YtflnhihdbhjlnaaGn
/-! Texts of functions, printed by mkg.py. -/
set_option maxRecDepth 100000
set_option linter.unusedVariables false
namespace Go.Dn
open Go Go.Proofs
def F_law05_CodecInodes (a0 a1 : Value) (w : World) (k : Value → World → Prop) : Prop :=
  wBox P T_ref05_Inode a0 w fun t2 w =>
  wCall P n_law05_awake [] w fun t14 w =>
  wUn P .not t14 w fun t15 w =>
  wIf t15 (
    k (.bool false) w) (
    wLoad P T_ref05_Inode t2 w fun t17 w =>
    wCall P n_law05_Inode [t17] w fun t18 w =>
    wCall P n_codec_WriteInode [t18] w fun t19 w =>
    wExtract P t19 0 w fun t20 w =>
    wExtract P t19 1 w fun t21 w =>
    wAlloc P T_api_Sector w fun t5 w =>
    wStore P T_api_Sector t5 t20 w fun w =>
    wLoad P T_ref05_Inode t2 w fun t23 w =>
    wCall P n_ref05_WriteInode [t23] w fun t24 w =>
    wExtract P t24 0 w fun t25 w =>
    wExtract P t24 1 w fun t26 w =>
    wAlloc P T_A128uint8 w fun t7 w =>
    wStore P T_A128uint8 t7 t25 w fun w =>
    wLoad P T_api_Sector t5 w fun t27 w =>
    wLoad P T_A128uint8 t7 w fun t28 w =>
    wBin P .neq T_api_Sector t27 t28 w fun t29 w =>
    wGrp t29 false (fun k34 =>
      wBin P .eql T_api_Errno t21 (.int .i64 0) w fun t32 w =>
      wBin P .neq T_bool t32 t26 w fun t34 w =>
      k34 t34 w) w fun _ t34 w =>
    wPick t29 (.bool true) t34 w fun t35 w =>
    wGrp t35 false (fun k42 =>
      wUn P .not t26 w fun t38 w =>
      wGrp t38 true (fun k41 =>
        wBin P .neq T_api_Errno t21 (.int .i64 1) w fun t41 w =>
        k41 t41 w) w fun _ t41 w =>
      wPick t38 t41 (.bool false) w fun t42 w =>
      k42 t42 w) w fun _ t42 w =>
    wPick t35 (.bool true) t42 w fun t43 w =>
    wIf t43 (
      k (.bool false) w) (
      wLoad P T_api_Sector t5 w fun t45 w =>
      wCall P n_codec_ReadInode [t45] w fun t46 w =>
      wExtract P t46 0 w fun t47 w =>
      wExtract P t46 1 w fun t48 w =>
      wAlloc P T_codec_Inode w fun t9 w =>
      wStore P T_codec_Inode t9 t47 w fun w =>
      wDraw w fun w =>
      wGrp t26 true (fun k58 =>
        wBin P .neq T_api_Errno t48 (.int .i64 0) w fun t52 w =>
        wGrp t52 false (fun k57 =>
          wLoad P T_codec_Inode t9 w fun t54 w =>
          wLoad P T_ref05_Inode t2 w fun t55 w =>
          wCall P n_law05_Inode [t55] w fun t56 w =>
          wKeep P [(T_codec_Inode, t9, t54)] w ∧ wBin P .neq T_codec_Inode t54 t56 w fun t57 w =>
          k57 t57 w) w fun _ t57 w =>
        wPick t52 (.bool true) t57 w fun t58 w =>
        k58 t58 w) w fun _ t58 w =>
      wPick t26 t58 (.bool false) w fun t59 w =>
      wIf t59 (
        k (.bool false) w) (
        wLoad P T_api_Sector t5 w fun t60 w =>
        wCall P n_law05_turn [t60, a1] w fun t62 w =>
        wAlloc P T_api_Sector w fun t11 w =>
        wStore P T_api_Sector t11 t62 w fun w =>
        wLoad P T_api_Sector t11 w fun t64 w =>
        wCall P n_codec_ReadInode [t64] w fun t65 w =>
        wExtract P t65 0 w fun t66 w =>
        wExtract P t65 1 w fun t67 w =>
        wAlloc P T_codec_Inode w fun t12 w =>
        wStore P T_codec_Inode t12 t66 w fun w =>
        wLoad P T_api_Sector t11 w fun t69 w =>
        wCall P n_ref05_ReadInode [t69] w fun t70 w =>
        wExtract P t70 0 w fun t71 w =>
        wExtract P t70 1 w fun t72 w =>
        wAlloc P T_ref05_Inode w fun t13 w =>
        wStore P T_ref05_Inode t13 t71 w fun w =>
        wDraw w fun w =>
        wLoad P T_codec_Inode t12 w fun t73 w =>
        wLoad P T_ref05_Inode t13 w fun t74 w =>
        wCall P n_law05_Inode [t74] w fun t75 w =>
        wKeep P [(T_codec_Inode, t12, t73)] w ∧ wBin P .eql T_codec_Inode t73 t75 w fun t76 w =>
        wGrp t76 true (fun k81 =>
          wBin P .eql T_api_Errno t67 (.int .i64 0) w fun t79 w =>
          wBin P .eql T_bool t79 t72 w fun t81 w =>
          k81 t81 w) w fun _ t81 w =>
        wPick t76 t81 (.bool false) w fun t82 w =>
        wGrp t82 true (fun k88 =>
          wGrp t72 false (fun k87 =>
            wBin P .eql T_api_Errno t67 (.int .i64 21) w fun t87 w =>
            k87 t87 w) w fun _ t87 w =>
          wPick t72 (.bool true) t87 w fun t88 w =>
          k88 t88 w) w fun _ t88 w =>
        wPick t82 t88 (.bool false) w fun t89 w =>
        k t89 w)))

theorem call_law05_CodecInodes (a0 a1 : Value) {w : World} {k : Value → World → Prop} (h : F_law05_CodecInodes a0 a1 w k) : wCall P n_law05_CodecInodes [a0, a1] w k :=
  call_of_den mixedP Try.func6 (by kernel_rfl) (.s .z (.s .z (.s .z (.s .z (.s (.s (.r (.ops [0, 1, 2, 3] (.grp 3 false 34 [31, 32, 33] (.ops [4, 5, 6, 7] .nil) (.ops [8, 9] (.grp 9 false 42 [37, 38, 39, 40, 41] (.ops [10, 11, 12] (.grp 12 true 41 [40] (.ops [13, 14] .nil) (.ops [15] .nil))) (.ops [16] .nil)))))) .z) (.s (.s .z (.s (.r (.ops [0, 1] (.grp 1 true 58 [51, 52, 53, 54, 55, 56, 57] (.ops [2, 3, 4] (.grp 4 false 57 [54, 55, 56] (.ops [5, 6] (.eff 7 [5] (.ops [8] .nil))) (.ops [9] .nil))) (.ops [10] .nil)))) .z)) (.s .z (.s .z (.s .z (.s (.r (.ops [0, 1] (.eff 2 [0] (.ops [3, 4] (.grp 4 true 81 [78, 79, 80] (.ops [5, 6, 7, 8] .nil) (.ops [9, 10] (.grp 10 true 88 [84, 85, 86, 87] (.ops [11, 12] (.grp 12 false 87 [86] (.ops [13, 14] .nil) (.ops [15] .nil))) (.ops [16, 17] .nil)))))))) .z)))))))))) (by kernel_rfl) (Eq.mp (by kernel_rfl) h)

def F_law05_CodecHeaders (a0 a1 : Value) (w : World) (k : Value → World → Prop) : Prop :=
  wBox P T_ref05_Header a0 w fun t2 w =>
  wCall P n_law05_awake [] w fun t15 w =>
  wUn P .not t15 w fun t16 w =>
  wIf t16 (
    k (.bool false) w) (
    wFieldA P T_ref05_Header t2 0 w fun t17 w =>
    wLoad P T_uint64 t17 w fun t18 w =>
    wFieldA P T_ref05_Header t2 1 w fun t19 w =>
    wLoad P T_uint64 t19 w fun t20 w =>
    wFieldA P T_ref05_Header t2 2 w fun t21 w =>
    wLoad P T_int t21 w fun t22 w =>
    wFieldA P T_ref05_Header t2 3 w fun t23 w =>
    wLoad P T_int t23 w fun t24 w =>
    wFieldA P T_ref05_Header t2 4 w fun t25 w =>
    wLoad P T_int t25 w fun t26 w =>
    wFieldA P T_ref05_Header t2 5 w fun t27 w =>
    wLoad P T_uint32 t27 w fun t28 w =>
    wBuild P T_codec_Header [(0, t18), (1, t20), (2, t22), (3, t24), (4, t26), (5, t28)] w fun t29 w =>
    wAlloc P T_codec_Header w fun t5 w =>
    wStore P T_codec_Header t5 t29 w fun w =>
    wLoad P T_codec_Header t5 w fun t31 w =>
    wCall P n_codec_WriteHeader [t31] w fun t32 w =>
    wExtract P t32 0 w fun t33 w =>
    wExtract P t32 1 w fun t34 w =>
    wAlloc P T_api_Sector w fun t6 w =>
    wStore P T_api_Sector t6 t33 w fun w =>
    wLoad P T_ref05_Header t2 w fun t36 w =>
    wCall P n_ref05_WriteHeader [t36] w fun t37 w =>
    wExtract P t37 0 w fun t38 w =>
    wExtract P t37 1 w fun t39 w =>
    wAlloc P T_A128uint8 w fun t8 w =>
    wStore P T_A128uint8 t8 t38 w fun w =>
    wLoad P T_api_Sector t6 w fun t40 w =>
    wLoad P T_A128uint8 t8 w fun t41 w =>
    wBin P .neq T_api_Sector t40 t41 w fun t42 w =>
    wGrp t42 false (fun k47 =>
      wBin P .eql T_api_Errno t34 (.int .i64 0) w fun t45 w =>
      wBin P .neq T_bool t45 t39 w fun t47 w =>
      k47 t47 w) w fun _ t47 w =>
    wPick t42 (.bool true) t47 w fun t48 w =>
    wGrp t48 false (fun k55 =>
      wUn P .not t39 w fun t51 w =>
      wGrp t51 true (fun k54 =>
        wBin P .neq T_api_Errno t34 (.int .i64 1) w fun t54 w =>
        k54 t54 w) w fun _ t54 w =>
      wPick t51 t54 (.bool false) w fun t55 w =>
      k55 t55 w) w fun _ t55 w =>
    wPick t48 (.bool true) t55 w fun t56 w =>
    wIf t56 (
      k (.bool false) w) (
      wLoad P T_api_Sector t6 w fun t58 w =>
      wCall P n_codec_ReadHeader [t58] w fun t59 w =>
      wExtract P t59 0 w fun t60 w =>
      wExtract P t59 1 w fun t61 w =>
      wAlloc P T_codec_Header w fun t10 w =>
      wStore P T_codec_Header t10 t60 w fun w =>
      wGrp t39 true (fun k70 =>
        wBin P .neq T_api_Errno t61 (.int .i64 0) w fun t65 w =>
        wGrp t65 false (fun k69 =>
          wLoad P T_codec_Header t10 w fun t67 w =>
          wLoad P T_codec_Header t5 w fun t68 w =>
          wBin P .neq T_codec_Header t67 t68 w fun t69 w =>
          k69 t69 w) w fun _ t69 w =>
        wPick t65 (.bool true) t69 w fun t70 w =>
        k70 t70 w) w fun _ t70 w =>
      wPick t39 t70 (.bool false) w fun t71 w =>
      wIf t71 (
        k (.bool false) w) (
        wLoad P T_api_Sector t6 w fun t72 w =>
        wCall P n_law05_turn [t72, a1] w fun t74 w =>
        wAlloc P T_api_Sector w fun t12 w =>
        wStore P T_api_Sector t12 t74 w fun w =>
        wLoad P T_api_Sector t12 w fun t76 w =>
        wCall P n_codec_ReadHeader [t76] w fun t77 w =>
        wExtract P t77 0 w fun t78 w =>
        wExtract P t77 1 w fun t79 w =>
        wAlloc P T_codec_Header w fun t13 w =>
        wStore P T_codec_Header t13 t78 w fun w =>
        wLoad P T_api_Sector t12 w fun t81 w =>
        wCall P n_ref05_ReadHeader [t81] w fun t82 w =>
        wExtract P t82 0 w fun t83 w =>
        wExtract P t82 1 w fun t84 w =>
        wAlloc P T_ref05_Header w fun t14 w =>
        wStore P T_ref05_Header t14 t83 w fun w =>
        wLoad P T_codec_Header t13 w fun t85 w =>
        wFieldA P T_ref05_Header t14 0 w fun t86 w =>
        wLoad P T_uint64 t86 w fun t87 w =>
        wFieldA P T_ref05_Header t14 1 w fun t88 w =>
        wLoad P T_uint64 t88 w fun t89 w =>
        wFieldA P T_ref05_Header t14 2 w fun t90 w =>
        wLoad P T_int t90 w fun t91 w =>
        wFieldA P T_ref05_Header t14 3 w fun t92 w =>
        wLoad P T_int t92 w fun t93 w =>
        wFieldA P T_ref05_Header t14 4 w fun t94 w =>
        wLoad P T_int t94 w fun t95 w =>
        wFieldA P T_ref05_Header t14 5 w fun t96 w =>
        wLoad P T_uint32 t96 w fun t97 w =>
        wBuild P T_codec_Header [(0, t87), (1, t89), (2, t91), (3, t93), (4, t95), (5, t97)] w fun t98 w =>
        wBin P .eql T_codec_Header t85 t98 w fun t99 w =>
        wGrp t99 true (fun k104 =>
          wBin P .eql T_api_Errno t79 (.int .i64 0) w fun t102 w =>
          wBin P .eql T_bool t102 t84 w fun t104 w =>
          k104 t104 w) w fun _ t104 w =>
        wPick t99 t104 (.bool false) w fun t105 w =>
        wGrp t105 true (fun k111 =>
          wGrp t84 false (fun k110 =>
            wBin P .eql T_api_Errno t79 (.int .i64 21) w fun t110 w =>
            k110 t110 w) w fun _ t110 w =>
          wPick t84 (.bool true) t110 w fun t111 w =>
          k111 t111 w) w fun _ t111 w =>
        wPick t105 t111 (.bool false) w fun t112 w =>
        k t112 w)))

theorem call_law05_CodecHeaders (a0 a1 : Value) {w : World} {k : Value → World → Prop} (h : F_law05_CodecHeaders a0 a1 w k) : wCall P n_law05_CodecHeaders [a0, a1] w k :=
  call_of_den mixedP Try.func7 (by kernel_rfl) (.s .z (.s .z (.s .z (.s .z (.s .z (.s (.s (.r (.ops [0, 1, 2, 3] (.grp 3 false 47 [44, 45, 46] (.ops [4, 5, 6, 7] .nil) (.ops [8, 9] (.grp 9 false 55 [50, 51, 52, 53, 54] (.ops [10, 11, 12] (.grp 12 true 54 [53] (.ops [13, 14] .nil) (.ops [15] .nil))) (.ops [16] .nil)))))) .z) (.s (.s .z (.s (.r (.ops [0, 1] (.grp 1 true 70 [64, 65, 66, 67, 68, 69] (.ops [2, 3, 4] (.grp 4 false 69 [67, 68] (.ops [5, 6, 7] .nil) (.ops [8] .nil))) (.ops [9] .nil)))) .z)) (.s .z (.s .z (.s .z (.s (.r (.ops [0, 1, 2, 3, 4, 5, 6, 7, 8, 9, 10, 11, 12, 13, 14, 15] (.grp 15 true 104 [101, 102, 103] (.ops [16, 17, 18, 19] .nil) (.ops [20, 21] (.grp 21 true 111 [107, 108, 109, 110] (.ops [22, 23] (.grp 23 false 110 [109] (.ops [24, 25] .nil) (.ops [26] .nil))) (.ops [27, 28] .nil)))))) .z))))))))))) (by kernel_rfl) (Eq.mp (by kernel_rfl) h)

def F_law05_CodecPointers (a0 a1 : Value) (w : World) (k : Value → World → Prop) : Prop :=
  wBox P T_A32int a0 w fun t2 w =>
  wCall P n_law05_awake [] w fun t14 w =>
  wUn P .not t14 w fun t15 w =>
  wIf t15 (
    k (.bool false) w) (
    wLoad P T_A32int t2 w fun t17 w =>
    wCall P n_codec_WritePointers [t17] w fun t18 w =>
    wExtract P t18 0 w fun t19 w =>
    wExtract P t18 1 w fun t20 w =>
    wAlloc P T_api_Sector w fun t5 w =>
    wStore P T_api_Sector t5 t19 w fun w =>
    wLoad P T_A32int t2 w fun t22 w =>
    wCall P n_ref05_WritePointers [t22] w fun t23 w =>
    wExtract P t23 0 w fun t24 w =>
    wExtract P t23 1 w fun t25 w =>
    wAlloc P T_A128uint8 w fun t7 w =>
    wStore P T_A128uint8 t7 t24 w fun w =>
    wLoad P T_api_Sector t5 w fun t26 w =>
    wLoad P T_A128uint8 t7 w fun t27 w =>
    wBin P .neq T_api_Sector t26 t27 w fun t28 w =>
    wGrp t28 false (fun k33 =>
      wBin P .eql T_api_Errno t20 (.int .i64 0) w fun t31 w =>
      wBin P .neq T_bool t31 t25 w fun t33 w =>
      k33 t33 w) w fun _ t33 w =>
    wPick t28 (.bool true) t33 w fun t34 w =>
    wGrp t34 false (fun k41 =>
      wUn P .not t25 w fun t37 w =>
      wGrp t37 true (fun k40 =>
        wBin P .neq T_api_Errno t20 (.int .i64 1) w fun t40 w =>
        k40 t40 w) w fun _ t40 w =>
      wPick t37 t40 (.bool false) w fun t41 w =>
      k41 t41 w) w fun _ t41 w =>
    wPick t34 (.bool true) t41 w fun t42 w =>
    wIf t42 (
      k (.bool false) w) (
      wLoad P T_api_Sector t5 w fun t44 w =>
      wCall P n_codec_ReadPointers [t44] w fun t45 w =>
      wExtract P t45 0 w fun t46 w =>
      wExtract P t45 1 w fun t47 w =>
      wAlloc P T_A32int w fun t9 w =>
      wStore P T_A32int t9 t46 w fun w =>
      wGrp t25 true (fun k56 =>
        wBin P .neq T_api_Errno t47 (.int .i64 0) w fun t51 w =>
        wGrp t51 false (fun k55 =>
          wLoad P T_A32int t9 w fun t53 w =>
          wLoad P T_A32int t2 w fun t54 w =>
          wBin P .neq T_A32int t53 t54 w fun t55 w =>
          k55 t55 w) w fun _ t55 w =>
        wPick t51 (.bool true) t55 w fun t56 w =>
        k56 t56 w) w fun _ t56 w =>
      wPick t25 t56 (.bool false) w fun t57 w =>
      wIf t57 (
        k (.bool false) w) (
        wCall P n_ref01_Full [a1] w fun t59 w =>
        wAlloc P T_A128uint8 w fun t11 w =>
        wStore P T_A128uint8 t11 t59 w fun w =>
        wLoad P T_A128uint8 t11 w fun t61 w =>
        wCall P n_codec_ReadPointers [t61] w fun t62 w =>
        wExtract P t62 0 w fun t63 w =>
        wExtract P t62 1 w fun t64 w =>
        wAlloc P T_A32int w fun t12 w =>
        wStore P T_A32int t12 t63 w fun w =>
        wLoad P T_A128uint8 t11 w fun t66 w =>
        wCall P n_ref05_ReadPointers [t66] w fun t67 w =>
        wExtract P t67 0 w fun t68 w =>
        wExtract P t67 1 w fun t69 w =>
        wAlloc P T_A32int w fun t13 w =>
        wStore P T_A32int t13 t68 w fun w =>
        wLoad P T_A32int t12 w fun t70 w =>
        wLoad P T_A32int t13 w fun t71 w =>
        wBin P .eql T_A32int t70 t71 w fun t72 w =>
        wGrp t72 true (fun k77 =>
          wBin P .eql T_api_Errno t64 (.int .i64 0) w fun t75 w =>
          wBin P .eql T_bool t75 t69 w fun t77 w =>
          k77 t77 w) w fun _ t77 w =>
        wPick t72 t77 (.bool false) w fun t78 w =>
        wGrp t78 true (fun k84 =>
          wGrp t69 false (fun k83 =>
            wBin P .eql T_api_Errno t64 (.int .i64 21) w fun t83 w =>
            k83 t83 w) w fun _ t83 w =>
          wPick t69 (.bool true) t83 w fun t84 w =>
          k84 t84 w) w fun _ t84 w =>
        wPick t78 t84 (.bool false) w fun t85 w =>
        k t85 w)))

theorem call_law05_CodecPointers (a0 a1 : Value) {w : World} {k : Value → World → Prop} (h : F_law05_CodecPointers a0 a1 w k) : wCall P n_law05_CodecPointers [a0, a1] w k :=
  call_of_den mixedP Try.func8 (by kernel_rfl) (.s .z (.s .z (.s .z (.s .z (.s (.s (.r (.ops [0, 1, 2, 3] (.grp 3 false 33 [30, 31, 32] (.ops [4, 5, 6, 7] .nil) (.ops [8, 9] (.grp 9 false 41 [36, 37, 38, 39, 40] (.ops [10, 11, 12] (.grp 12 true 40 [39] (.ops [13, 14] .nil) (.ops [15] .nil))) (.ops [16] .nil)))))) .z) (.s (.s .z (.s (.r (.ops [0, 1] (.grp 1 true 56 [50, 51, 52, 53, 54, 55] (.ops [2, 3, 4] (.grp 4 false 55 [53, 54] (.ops [5, 6, 7] .nil) (.ops [8] .nil))) (.ops [9] .nil)))) .z)) (.s .z (.s .z (.s .z (.s (.r (.ops [0, 1, 2, 3] (.grp 3 true 77 [74, 75, 76] (.ops [4, 5, 6, 7] .nil) (.ops [8, 9] (.grp 9 true 84 [80, 81, 82, 83] (.ops [10, 11] (.grp 11 false 83 [82] (.ops [12, 13] .nil) (.ops [14] .nil))) (.ops [15, 16] .nil)))))) .z)))))))))) (by kernel_rfl) (Eq.mp (by kernel_rfl) h)

def F_law05_CodecUses (a0 a1 : Value) (w : World) (k : Value → World → Prop) : Prop :=
  wCall P n_law05_awake [] w fun t16 w =>
  wUn P .not t16 w fun t17 w =>
  wIf t17 (
    k (.bool false) w) (
    wJ1 (fun k2 =>
      wLen P .len #[T_Lref05_Use] [a0] w fun t19 w =>
      wBin P .gtr T_int t19 (.int .i64 20) w fun t20 w =>
      wIf t20 (
        wSlice P T_Lref05_Use a0 none (some (.int .i64 20)) none w fun t22 w =>
        k2 t22 w) (
        k2 a0 w)) fun _ v0 w =>
    wJ1 (fun k2 =>
      wLen P .len #[T_Lref05_Use] [v0] w fun t24 w =>
      wL2 (.slice none 0 0) (.int .i64 0) w (fun _ v5 v25 w k3 =>
        wBin P .lss T_int v25 t24 w fun t26 w =>
        wIf t26 (
          wIndexA P T_Lref05_Use v0 v25 w fun t27 w =>
          wLoad P T_ref05_Use t27 w fun t28 w =>
          wAlloc P T_ref05_Use w fun t7 w =>
          wStore P T_ref05_Use t7 t28 w fun w =>
          wFieldA P T_ref05_Use t7 0 w fun t30 w =>
          wLoad P T_int t30 w fun t31 w =>
          wFieldA P T_ref05_Use t7 1 w fun t32 w =>
          wLoad P T_int t32 w fun t33 w =>
          wFieldA P T_ref05_Use t7 2 w fun t34 w =>
          wLoad P T_uint32 t34 w fun t35 w =>
          wBuild P T_codec_Use [(0, t31), (1, t33), (2, t35)] w fun t36 w =>
          wBuildS P T_Lcodec_Use 1 [(0, t36)] w fun t37 w =>
          wBuiltin P .append #[T_Lcodec_Use, T_Lcodec_Use] [v5, t37] w fun t38 w =>
          wBin P .add T_int v25 (.int .i64 1) w fun t39 w =>
          k3 t38 t39 w) (
          k2 v5 w))) fun _ v5 w =>
    wCall P n_codec_WriteUses [v5] w fun t42 w =>
    wExtract P t42 0 w fun t43 w =>
    wExtract P t42 1 w fun t44 w =>
    wAlloc P T_api_Sector w fun t8 w =>
    wStore P T_api_Sector t8 t43 w fun w =>
    wCall P n_ref05_WriteUses [v0] w fun t47 w =>
    wExtract P t47 0 w fun t48 w =>
    wExtract P t47 1 w fun t49 w =>
    wAlloc P T_A128uint8 w fun t10 w =>
    wStore P T_A128uint8 t10 t48 w fun w =>
    wLoad P T_api_Sector t8 w fun t50 w =>
    wLoad P T_A128uint8 t10 w fun t51 w =>
    wBin P .neq T_api_Sector t50 t51 w fun t52 w =>
    wGrp t52 false (fun k57 =>
      wBin P .eql T_api_Errno t44 (.int .i64 0) w fun t55 w =>
      wBin P .neq T_bool t55 t49 w fun t57 w =>
      k57 t57 w) w fun _ t57 w =>
    wPick t52 (.bool true) t57 w fun t58 w =>
    wGrp t58 false (fun k65 =>
      wUn P .not t49 w fun t61 w =>
      wGrp t61 true (fun k64 =>
        wBin P .neq T_api_Errno t44 (.int .i64 1) w fun t64 w =>
        k64 t64 w) w fun _ t64 w =>
      wPick t61 t64 (.bool false) w fun t65 w =>
      k65 t65 w) w fun _ t65 w =>
    wPick t58 (.bool true) t65 w fun t66 w =>
    wIf t66 (
      k (.bool false) w) (
      wLoad P T_api_Sector t8 w fun t67 w =>
      wCall P n_law05_turn [t67, a1] w fun t69 w =>
      wAlloc P T_api_Sector w fun t12 w =>
      wStore P T_api_Sector t12 t69 w fun w =>
      wJ0 (fun k3 =>
        wLen P .len #[T_Luint8] [a1] w fun t71 w =>
        wBin P .eql T_int t71 (.int .i64 0) w fun t72 w =>
        wIf t72 (
          wLoad P T_api_Sector t8 w fun t73 w =>
          wStore P T_api_Sector t12 t73 w fun w =>
          k3 w) (
          k3 w)) fun _ w =>
      wLoad P T_api_Sector t12 w fun t75 w =>
      wCall P n_codec_ReadUses [t75] w fun t76 w =>
      wExtract P t76 0 w fun t77 w =>
      wExtract P t76 1 w fun t78 w =>
      wLoad P T_api_Sector t12 w fun t80 w =>
      wCall P n_ref05_ReadUses [t80] w fun t81 w =>
      wExtract P t81 0 w fun t82 w =>
      wExtract P t81 1 w fun t83 w =>
      wLen P .len #[T_Lcodec_Use] [t77] w fun t85 w =>
      wLen P .len #[T_Lref05_Use] [t82] w fun t87 w =>
      wBin P .neq T_int t85 t87 w fun t88 w =>
      wGrp t88 false (fun k93 =>
        wBin P .eql T_api_Errno t78 (.int .i64 0) w fun t91 w =>
        wBin P .neq T_bool t91 t83 w fun t93 w =>
        k93 t93 w) w fun _ t93 w =>
      wPick t88 (.bool true) t93 w fun t94 w =>
      wGrp t94 false (fun k101 =>
        wUn P .not t83 w fun t97 w =>
        wGrp t97 true (fun k100 =>
          wBin P .neq T_api_Errno t78 (.int .i64 21) w fun t100 w =>
          k100 t100 w) w fun _ t100 w =>
        wPick t97 t100 (.bool false) w fun t101 w =>
        k101 t101 w) w fun _ t101 w =>
      wPick t94 (.bool true) t101 w fun t102 w =>
      wIf t102 (
        k (.bool false) w) (
        wLen P .len #[T_Lcodec_Use] [t77] w fun t104 w =>
        wL1 (.int .i64 0) w (fun _ v105 w k4 =>
          wBin P .lss T_int v105 t104 w fun t106 w =>
          wIf t106 (
            wDraw w fun w =>
            wIndexA P T_Lcodec_Use t77 v105 w fun t110 w =>
            wFieldA P T_codec_Use t110 0 w fun t111 w =>
            wLoad P T_int t111 w fun t112 w =>
            wIndexA P T_Lref05_Use t82 v105 w fun t115 w =>
            wFieldA P T_ref05_Use t115 0 w fun t116 w =>
            wLoad P T_int t116 w fun t117 w =>
            wBin P .neq T_int t112 t117 w fun t118 w =>
            wGrp t118 false (fun k130 =>
              wIndexA P T_Lcodec_Use t77 v105 w fun t122 w =>
              wFieldA P T_codec_Use t122 1 w fun t123 w =>
              wLoad P T_int t123 w fun t124 w =>
              wIndexA P T_Lref05_Use t82 v105 w fun t127 w =>
              wFieldA P T_ref05_Use t127 1 w fun t128 w =>
              wLoad P T_int t128 w fun t129 w =>
              wBin P .neq T_int t124 t129 w fun t130 w =>
              k130 t130 w) w fun _ t130 w =>
            wPick t118 (.bool true) t130 w fun t131 w =>
            wGrp t131 false (fun k143 =>
              wIndexA P T_Lcodec_Use t77 v105 w fun t135 w =>
              wFieldA P T_codec_Use t135 2 w fun t136 w =>
              wLoad P T_uint32 t136 w fun t137 w =>
              wIndexA P T_Lref05_Use t82 v105 w fun t140 w =>
              wFieldA P T_ref05_Use t140 2 w fun t141 w =>
              wLoad P T_uint32 t141 w fun t142 w =>
              wBin P .neq T_uint32 t137 t142 w fun t143 w =>
              k143 t143 w) w fun _ t143 w =>
            wPick t131 (.bool true) t143 w fun t144 w =>
            wIf t144 (
              k (.bool false) w) (
              wBin P .add T_int v105 (.int .i64 1) w fun t145 w =>
              k4 t145 w)) (
            k (.bool true) w)))))

theorem call_law05_CodecUses (a0 a1 : Value) {w : World} {k : Value → World → Prop} (h : F_law05_CodecUses a0 a1 w k) : wCall P n_law05_CodecUses [a0, a1] w k :=
  call_of_den mixedP Try.func9 (by kernel_rfl) (.s .z (.s .z (.j [0] [1] .z (.s .z (.j [5] [0, 1] (.s .z (.b (.l [5, 25] [0, 1, 23, 24] .z))) (.s .z (.s .z (.s (.s (.r (.ops [0, 1, 2, 3] (.grp 3 false 57 [54, 55, 56] (.ops [4, 5, 6, 7] .nil) (.ops [8, 9] (.grp 9 false 65 [60, 61, 62, 63, 64] (.ops [10, 11, 12] (.grp 12 true 64 [63] (.ops [13, 14] .nil) (.ops [15] .nil))) (.ops [16] .nil)))))) .z) (.s .z (.j [] [12] .z (.s .z (.s .z (.s (.s (.r (.ops [0, 1, 2, 3, 4, 5] (.grp 5 false 93 [90, 91, 92] (.ops [6, 7, 8, 9] .nil) (.ops [10, 11] (.grp 11 false 101 [96, 97, 98, 99, 100] (.ops [12, 13, 14] (.grp 14 true 100 [99] (.ops [15, 16] .nil) (.ops [17] .nil))) (.ops [18] .nil)))))) .z) (.s (.s .z (.b (.l [105] [13, 14, 104] (.s .z (.s .z (.s (.b (.s .z (.s (.r (.ops [0, 1, 2, 3, 4, 5, 6, 7, 8, 9, 10, 11] (.grp 11 false 130 [120, 121, 122, 123, 124, 125, 126, 127, 128, 129] (.ops [12, 13, 14, 15, 16, 17, 18, 19, 20, 21, 22] .nil) (.ops [23, 24] (.grp 24 false 143 [133, 134, 135, 136, 137, 138, 139, 140, 141, 142] (.ops [25, 26, 27, 28, 29, 30, 31, 32, 33, 34, 35] .nil) (.ops [36] .nil)))))) .z))) .z)))))) .z)))))))))))))) (by kernel_rfl) (Eq.mp (by kernel_rfl) h)

def F_law05_CodecSlots (a0 a1 : Value) (w : World) (k : Value → World → Prop) : Prop :=
  wCall P n_law05_awake [] w fun t16 w =>
  wUn P .not t16 w fun t17 w =>
  wIf t17 (
    k (.bool false) w) (
    wJ1 (fun k2 =>
      wLen P .len #[T_Lref05_Slot] [a0] w fun t19 w =>
      wBin P .gtr T_int t19 (.int .i64 14) w fun t20 w =>
      wIf t20 (
        wSlice P T_Lref05_Slot a0 none (some (.int .i64 14)) none w fun t22 w =>
        k2 t22 w) (
        k2 a0 w)) fun _ v0 w =>
    wJ1 (fun k2 =>
      wLen P .len #[T_Lref05_Slot] [v0] w fun t24 w =>
      wL2 (.slice none 0 0) (.int .i64 0) w (fun _ v5 v25 w k3 =>
        wBin P .lss T_int v25 t24 w fun t26 w =>
        wIf t26 (
          wIndexA P T_Lref05_Slot v0 v25 w fun t27 w =>
          wLoad P T_ref05_Slot t27 w fun t28 w =>
          wAlloc P T_ref05_Slot w fun t7 w =>
          wStore P T_ref05_Slot t7 t28 w fun w =>
          wFieldA P T_ref05_Slot t7 0 w fun t30 w =>
          wLoad P T_int t30 w fun t31 w =>
          wFieldA P T_ref05_Slot t7 1 w fun t32 w =>
          wLoad P T_uint32 t32 w fun t33 w =>
          wFieldA P T_ref05_Slot t7 2 w fun t34 w =>
          wLoad P T_int t34 w fun t35 w =>
          wFieldA P T_ref05_Slot t7 3 w fun t36 w =>
          wLoad P T_int t36 w fun t37 w =>
          wBuild P T_codec_Slot [(0, t31), (1, t33), (2, t35), (3, t37)] w fun t38 w =>
          wBuildS P T_Lcodec_Slot 1 [(0, t38)] w fun t39 w =>
          wBuiltin P .append #[T_Lcodec_Slot, T_Lcodec_Slot] [v5, t39] w fun t40 w =>
          wBin P .add T_int v25 (.int .i64 1) w fun t41 w =>
          k3 t40 t41 w) (
          k2 v5 w))) fun _ v5 w =>
    wCall P n_codec_WriteSlots [v5] w fun t44 w =>
    wExtract P t44 0 w fun t45 w =>
    wExtract P t44 1 w fun t46 w =>
    wAlloc P T_api_Sector w fun t8 w =>
    wStore P T_api_Sector t8 t45 w fun w =>
    wCall P n_ref05_WriteSlots [v0] w fun t49 w =>
    wExtract P t49 0 w fun t50 w =>
    wExtract P t49 1 w fun t51 w =>
    wAlloc P T_A128uint8 w fun t10 w =>
    wStore P T_A128uint8 t10 t50 w fun w =>
    wLoad P T_api_Sector t8 w fun t52 w =>
    wLoad P T_A128uint8 t10 w fun t53 w =>
    wBin P .neq T_api_Sector t52 t53 w fun t54 w =>
    wGrp t54 false (fun k59 =>
      wBin P .eql T_api_Errno t46 (.int .i64 0) w fun t57 w =>
      wBin P .neq T_bool t57 t51 w fun t59 w =>
      k59 t59 w) w fun _ t59 w =>
    wPick t54 (.bool true) t59 w fun t60 w =>
    wGrp t60 false (fun k67 =>
      wUn P .not t51 w fun t63 w =>
      wGrp t63 true (fun k66 =>
        wBin P .neq T_api_Errno t46 (.int .i64 1) w fun t66 w =>
        k66 t66 w) w fun _ t66 w =>
      wPick t63 t66 (.bool false) w fun t67 w =>
      k67 t67 w) w fun _ t67 w =>
    wPick t60 (.bool true) t67 w fun t68 w =>
    wIf t68 (
      k (.bool false) w) (
      wLoad P T_api_Sector t8 w fun t69 w =>
      wCall P n_law05_turn [t69, a1] w fun t71 w =>
      wAlloc P T_api_Sector w fun t12 w =>
      wStore P T_api_Sector t12 t71 w fun w =>
      wJ0 (fun k3 =>
        wLen P .len #[T_Luint8] [a1] w fun t73 w =>
        wBin P .eql T_int t73 (.int .i64 0) w fun t74 w =>
        wIf t74 (
          wLoad P T_api_Sector t8 w fun t75 w =>
          wStore P T_api_Sector t12 t75 w fun w =>
          k3 w) (
          k3 w)) fun _ w =>
      wLoad P T_api_Sector t12 w fun t77 w =>
      wCall P n_codec_ReadSlots [t77] w fun t78 w =>
      wExtract P t78 0 w fun t79 w =>
      wExtract P t78 1 w fun t80 w =>
      wLoad P T_api_Sector t12 w fun t82 w =>
      wCall P n_ref05_ReadSlots [t82] w fun t83 w =>
      wExtract P t83 0 w fun t84 w =>
      wExtract P t83 1 w fun t85 w =>
      wLen P .len #[T_Lcodec_Slot] [t79] w fun t87 w =>
      wLen P .len #[T_Lref05_Slot] [t84] w fun t89 w =>
      wBin P .neq T_int t87 t89 w fun t90 w =>
      wGrp t90 false (fun k95 =>
        wBin P .eql T_api_Errno t80 (.int .i64 0) w fun t93 w =>
        wBin P .neq T_bool t93 t85 w fun t95 w =>
        k95 t95 w) w fun _ t95 w =>
      wPick t90 (.bool true) t95 w fun t96 w =>
      wGrp t96 false (fun k103 =>
        wUn P .not t85 w fun t99 w =>
        wGrp t99 true (fun k102 =>
          wBin P .neq T_api_Errno t80 (.int .i64 21) w fun t102 w =>
          k102 t102 w) w fun _ t102 w =>
        wPick t99 t102 (.bool false) w fun t103 w =>
        k103 t103 w) w fun _ t103 w =>
      wPick t96 (.bool true) t103 w fun t104 w =>
      wIf t104 (
        k (.bool false) w) (
        wLen P .len #[T_Lcodec_Slot] [t79] w fun t106 w =>
        wL1 (.int .i64 0) w (fun _ v107 w k4 =>
          wBin P .lss T_int v107 t106 w fun t108 w =>
          wIf t108 (
            wDraw w fun w =>
            wIndexA P T_Lcodec_Slot t79 v107 w fun t112 w =>
            wFieldA P T_codec_Slot t112 0 w fun t113 w =>
            wLoad P T_int t113 w fun t114 w =>
            wIndexA P T_Lref05_Slot t84 v107 w fun t117 w =>
            wFieldA P T_ref05_Slot t117 0 w fun t118 w =>
            wLoad P T_int t118 w fun t119 w =>
            wBin P .neq T_int t114 t119 w fun t120 w =>
            wGrp t120 false (fun k132 =>
              wIndexA P T_Lcodec_Slot t79 v107 w fun t124 w =>
              wFieldA P T_codec_Slot t124 1 w fun t125 w =>
              wLoad P T_uint32 t125 w fun t126 w =>
              wIndexA P T_Lref05_Slot t84 v107 w fun t129 w =>
              wFieldA P T_ref05_Slot t129 1 w fun t130 w =>
              wLoad P T_uint32 t130 w fun t131 w =>
              wBin P .neq T_uint32 t126 t131 w fun t132 w =>
              k132 t132 w) w fun _ t132 w =>
            wPick t120 (.bool true) t132 w fun t133 w =>
            wGrp t133 false (fun k145 =>
              wIndexA P T_Lcodec_Slot t79 v107 w fun t137 w =>
              wFieldA P T_codec_Slot t137 2 w fun t138 w =>
              wLoad P T_int t138 w fun t139 w =>
              wIndexA P T_Lref05_Slot t84 v107 w fun t142 w =>
              wFieldA P T_ref05_Slot t142 2 w fun t143 w =>
              wLoad P T_int t143 w fun t144 w =>
              wBin P .neq T_int t139 t144 w fun t145 w =>
              k145 t145 w) w fun _ t145 w =>
            wPick t133 (.bool true) t145 w fun t146 w =>
            wGrp t146 false (fun k158 =>
              wIndexA P T_Lcodec_Slot t79 v107 w fun t150 w =>
              wFieldA P T_codec_Slot t150 3 w fun t151 w =>
              wLoad P T_int t151 w fun t152 w =>
              wIndexA P T_Lref05_Slot t84 v107 w fun t155 w =>
              wFieldA P T_ref05_Slot t155 3 w fun t156 w =>
              wLoad P T_int t156 w fun t157 w =>
              wBin P .neq T_int t152 t157 w fun t158 w =>
              k158 t158 w) w fun _ t158 w =>
            wPick t146 (.bool true) t158 w fun t159 w =>
            wIf t159 (
              k (.bool false) w) (
              wBin P .add T_int v107 (.int .i64 1) w fun t160 w =>
              k4 t160 w)) (
            k (.bool true) w)))))

theorem call_law05_CodecSlots (a0 a1 : Value) {w : World} {k : Value → World → Prop} (h : F_law05_CodecSlots a0 a1 w k) : wCall P n_law05_CodecSlots [a0, a1] w k :=
  call_of_den mixedP Try.func11 (by kernel_rfl) (.s .z (.s .z (.j [0] [1] .z (.s .z (.j [5] [0, 1] (.s .z (.b (.l [5, 25] [0, 1, 23, 24] .z))) (.s .z (.s .z (.s (.s (.r (.ops [0, 1, 2, 3] (.grp 3 false 59 [56, 57, 58] (.ops [4, 5, 6, 7] .nil) (.ops [8, 9] (.grp 9 false 67 [62, 63, 64, 65, 66] (.ops [10, 11, 12] (.grp 12 true 66 [65] (.ops [13, 14] .nil) (.ops [15] .nil))) (.ops [16] .nil)))))) .z) (.s .z (.j [] [12] .z (.s .z (.s .z (.s (.s (.r (.ops [0, 1, 2, 3, 4, 5] (.grp 5 false 95 [92, 93, 94] (.ops [6, 7, 8, 9] .nil) (.ops [10, 11] (.grp 11 false 103 [98, 99, 100, 101, 102] (.ops [12, 13, 14] (.grp 14 true 102 [101] (.ops [15, 16] .nil) (.ops [17] .nil))) (.ops [18] .nil)))))) .z) (.s (.s .z (.b (.l [107] [13, 14, 106] (.s .z (.s .z (.s (.b (.s .z (.s (.r (.ops [0, 1, 2, 3, 4, 5, 6, 7, 8, 9, 10, 11] (.grp 11 false 132 [122, 123, 124, 125, 126, 127, 128, 129, 130, 131] (.ops [12, 13, 14, 15, 16, 17, 18, 19, 20, 21, 22] .nil) (.ops [23, 24] (.grp 24 false 145 [135, 136, 137, 138, 139, 140, 141, 142, 143, 144] (.ops [25, 26, 27, 28, 29, 30, 31, 32, 33, 34, 35] .nil) (.ops [36, 37] (.grp 37 false 158 [148, 149, 150, 151, 152, 153, 154, 155, 156, 157] (.ops [38, 39, 40, 41, 42, 43, 44, 45, 46, 47, 48] .nil) (.ops [49] .nil)))))))) .z))) .z)))))) .z)))))))))))))) (by kernel_rfl) (Eq.mp (by kernel_rfl) h)

def F_law05_CodecRecords (a0 a1 : Value) (w : World) (k : Value → World → Prop) : Prop :=
  wCall P n_law05_awake [] w fun t16 w =>
  wUn P .not t16 w fun t17 w =>
  wIf t17 (
    k (.bool false) w) (
    wJ1 (fun k2 =>
      wLen P .len #[T_Lref05_Record] [a0] w fun t19 w =>
      wBin P .gtr T_int t19 (.int .i64 20) w fun t20 w =>
      wIf t20 (
        wSlice P T_Lref05_Record a0 none (some (.int .i64 20)) none w fun t22 w =>
        k2 t22 w) (
        k2 a0 w)) fun _ v0 w =>
    wJ1 (fun k2 =>
      wLen P .len #[T_Lref05_Record] [v0] w fun t24 w =>
      wL2 (.slice none 0 0) (.int .i64 0) w (fun _ v5 v25 w k3 =>
        wBin P .lss T_int v25 t24 w fun t26 w =>
        wIf t26 (
          wIndexA P T_Lref05_Record v0 v25 w fun t27 w =>
          wLoad P T_ref05_Record t27 w fun t28 w =>
          wAlloc P T_ref05_Record w fun t7 w =>
          wStore P T_ref05_Record t7 t28 w fun w =>
          wFieldA P T_ref05_Record t7 0 w fun t30 w =>
          wLoad P T_uint32 t30 w fun t31 w =>
          wFieldA P T_ref05_Record t7 1 w fun t32 w =>
          wLoad P T_uint32 t32 w fun t33 w =>
          wFieldA P T_ref05_Record t7 2 w fun t34 w =>
          wLoad P T_int t34 w fun t35 w =>
          wFieldA P T_ref05_Record t7 3 w fun t36 w =>
          wLoad P T_int t36 w fun t37 w =>
          wBuild P T_codec_Record [(0, t31), (1, t33), (2, t35), (3, t37)] w fun t38 w =>
          wBuildS P T_Lcodec_Record 1 [(0, t38)] w fun t39 w =>
          wBuiltin P .append #[T_Lcodec_Record, T_Lcodec_Record] [v5, t39] w fun t40 w =>
          wBin P .add T_int v25 (.int .i64 1) w fun t41 w =>
          k3 t40 t41 w) (
          k2 v5 w))) fun _ v5 w =>
    wCall P n_codec_WriteRecords [v5] w fun t44 w =>
    wExtract P t44 0 w fun t45 w =>
    wExtract P t44 1 w fun t46 w =>
    wAlloc P T_api_Sector w fun t8 w =>
    wStore P T_api_Sector t8 t45 w fun w =>
    wCall P n_ref05_WriteRecords [v0] w fun t49 w =>
    wExtract P t49 0 w fun t50 w =>
    wExtract P t49 1 w fun t51 w =>
    wAlloc P T_A128uint8 w fun t10 w =>
    wStore P T_A128uint8 t10 t50 w fun w =>
    wLoad P T_api_Sector t8 w fun t52 w =>
    wLoad P T_A128uint8 t10 w fun t53 w =>
    wBin P .neq T_api_Sector t52 t53 w fun t54 w =>
    wGrp t54 false (fun k59 =>
      wBin P .eql T_api_Errno t46 (.int .i64 0) w fun t57 w =>
      wBin P .neq T_bool t57 t51 w fun t59 w =>
      k59 t59 w) w fun _ t59 w =>
    wPick t54 (.bool true) t59 w fun t60 w =>
    wGrp t60 false (fun k67 =>
      wUn P .not t51 w fun t63 w =>
      wGrp t63 true (fun k66 =>
        wBin P .neq T_api_Errno t46 (.int .i64 1) w fun t66 w =>
        k66 t66 w) w fun _ t66 w =>
      wPick t63 t66 (.bool false) w fun t67 w =>
      k67 t67 w) w fun _ t67 w =>
    wPick t60 (.bool true) t67 w fun t68 w =>
    wIf t68 (
      k (.bool false) w) (
      wLoad P T_api_Sector t8 w fun t69 w =>
      wCall P n_law05_turn [t69, a1] w fun t71 w =>
      wAlloc P T_api_Sector w fun t12 w =>
      wStore P T_api_Sector t12 t71 w fun w =>
      wJ0 (fun k3 =>
        wLen P .len #[T_Luint8] [a1] w fun t73 w =>
        wBin P .eql T_int t73 (.int .i64 0) w fun t74 w =>
        wIf t74 (
          wLoad P T_api_Sector t8 w fun t75 w =>
          wStore P T_api_Sector t12 t75 w fun w =>
          k3 w) (
          k3 w)) fun _ w =>
      wLoad P T_api_Sector t12 w fun t77 w =>
      wCall P n_codec_ReadRecords [t77] w fun t78 w =>
      wExtract P t78 0 w fun t79 w =>
      wExtract P t78 1 w fun t80 w =>
      wLoad P T_api_Sector t12 w fun t82 w =>
      wCall P n_ref05_ReadRecords [t82] w fun t83 w =>
      wExtract P t83 0 w fun t84 w =>
      wExtract P t83 1 w fun t85 w =>
      wLen P .len #[T_Lcodec_Record] [t79] w fun t87 w =>
      wLen P .len #[T_Lref05_Record] [t84] w fun t89 w =>
      wBin P .neq T_int t87 t89 w fun t90 w =>
      wGrp t90 false (fun k95 =>
        wBin P .eql T_api_Errno t80 (.int .i64 0) w fun t93 w =>
        wBin P .neq T_bool t93 t85 w fun t95 w =>
        k95 t95 w) w fun _ t95 w =>
      wPick t90 (.bool true) t95 w fun t96 w =>
      wGrp t96 false (fun k103 =>
        wUn P .not t85 w fun t99 w =>
        wGrp t99 true (fun k102 =>
          wBin P .neq T_api_Errno t80 (.int .i64 21) w fun t102 w =>
          k102 t102 w) w fun _ t102 w =>
        wPick t99 t102 (.bool false) w fun t103 w =>
        k103 t103 w) w fun _ t103 w =>
      wPick t96 (.bool true) t103 w fun t104 w =>
      wIf t104 (
        k (.bool false) w) (
        wLen P .len #[T_Lcodec_Record] [t79] w fun t106 w =>
        wL1 (.int .i64 0) w (fun _ v107 w k4 =>
          wBin P .lss T_int v107 t106 w fun t108 w =>
          wIf t108 (
            wDraw w fun w =>
            wIndexA P T_Lcodec_Record t79 v107 w fun t112 w =>
            wFieldA P T_codec_Record t112 0 w fun t113 w =>
            wLoad P T_uint32 t113 w fun t114 w =>
            wIndexA P T_Lref05_Record t84 v107 w fun t117 w =>
            wFieldA P T_ref05_Record t117 0 w fun t118 w =>
            wLoad P T_uint32 t118 w fun t119 w =>
            wBin P .neq T_uint32 t114 t119 w fun t120 w =>
            wGrp t120 false (fun k132 =>
              wIndexA P T_Lcodec_Record t79 v107 w fun t124 w =>
              wFieldA P T_codec_Record t124 1 w fun t125 w =>
              wLoad P T_uint32 t125 w fun t126 w =>
              wIndexA P T_Lref05_Record t84 v107 w fun t129 w =>
              wFieldA P T_ref05_Record t129 1 w fun t130 w =>
              wLoad P T_uint32 t130 w fun t131 w =>
              wBin P .neq T_uint32 t126 t131 w fun t132 w =>
              k132 t132 w) w fun _ t132 w =>
            wPick t120 (.bool true) t132 w fun t133 w =>
            wGrp t133 false (fun k145 =>
              wIndexA P T_Lcodec_Record t79 v107 w fun t137 w =>
              wFieldA P T_codec_Record t137 2 w fun t138 w =>
              wLoad P T_int t138 w fun t139 w =>
              wIndexA P T_Lref05_Record t84 v107 w fun t142 w =>
              wFieldA P T_ref05_Record t142 2 w fun t143 w =>
              wLoad P T_int t143 w fun t144 w =>
              wBin P .neq T_int t139 t144 w fun t145 w =>
              k145 t145 w) w fun _ t145 w =>
            wPick t133 (.bool true) t145 w fun t146 w =>
            wGrp t146 false (fun k158 =>
              wIndexA P T_Lcodec_Record t79 v107 w fun t150 w =>
              wFieldA P T_codec_Record t150 3 w fun t151 w =>
              wLoad P T_int t151 w fun t152 w =>
              wIndexA P T_Lref05_Record t84 v107 w fun t155 w =>
              wFieldA P T_ref05_Record t155 3 w fun t156 w =>
              wLoad P T_int t156 w fun t157 w =>
              wBin P .neq T_int t152 t157 w fun t158 w =>
              k158 t158 w) w fun _ t158 w =>
            wPick t146 (.bool true) t158 w fun t159 w =>
            wIf t159 (
              k (.bool false) w) (
              wBin P .add T_int v107 (.int .i64 1) w fun t160 w =>
              k4 t160 w)) (
            k (.bool true) w)))))

theorem call_law05_CodecRecords (a0 a1 : Value) {w : World} {k : Value → World → Prop} (h : F_law05_CodecRecords a0 a1 w k) : wCall P n_law05_CodecRecords [a0, a1] w k :=
  call_of_den mixedP Try.func12 (by kernel_rfl) (.s .z (.s .z (.j [0] [1] .z (.s .z (.j [5] [0, 1] (.s .z (.b (.l [5, 25] [0, 1, 23, 24] .z))) (.s .z (.s .z (.s (.s (.r (.ops [0, 1, 2, 3] (.grp 3 false 59 [56, 57, 58] (.ops [4, 5, 6, 7] .nil) (.ops [8, 9] (.grp 9 false 67 [62, 63, 64, 65, 66] (.ops [10, 11, 12] (.grp 12 true 66 [65] (.ops [13, 14] .nil) (.ops [15] .nil))) (.ops [16] .nil)))))) .z) (.s .z (.j [] [12] .z (.s .z (.s .z (.s (.s (.r (.ops [0, 1, 2, 3, 4, 5] (.grp 5 false 95 [92, 93, 94] (.ops [6, 7, 8, 9] .nil) (.ops [10, 11] (.grp 11 false 103 [98, 99, 100, 101, 102] (.ops [12, 13, 14] (.grp 14 true 102 [101] (.ops [15, 16] .nil) (.ops [17] .nil))) (.ops [18] .nil)))))) .z) (.s (.s .z (.b (.l [107] [13, 14, 106] (.s .z (.s .z (.s (.b (.s .z (.s (.r (.ops [0, 1, 2, 3, 4, 5, 6, 7, 8, 9, 10, 11] (.grp 11 false 132 [122, 123, 124, 125, 126, 127, 128, 129, 130, 131] (.ops [12, 13, 14, 15, 16, 17, 18, 19, 20, 21, 22] .nil) (.ops [23, 24] (.grp 24 false 145 [135, 136, 137, 138, 139, 140, 141, 142, 143, 144] (.ops [25, 26, 27, 28, 29, 30, 31, 32, 33, 34, 35] .nil) (.ops [36, 37] (.grp 37 false 158 [148, 149, 150, 151, 152, 153, 154, 155, 156, 157] (.ops [38, 39, 40, 41, 42, 43, 44, 45, 46, 47, 48] .nil) (.ops [49] .nil)))))))) .z))) .z)))))) .z)))))))))))))) (by kernel_rfl) (Eq.mp (by kernel_rfl) h)

def F_law05_CodecSummaries (a0 a1 : Value) (w : World) (k : Value → World → Prop) : Prop :=
  wBox P T_ref05_Summary a0 w fun t2 w =>
  wCall P n_law05_awake [] w fun t14 w =>
  wUn P .not t14 w fun t15 w =>
  wIf t15 (
    k (.bool false) w) (
    wJ0 (fun k2 =>
      wFieldA P T_ref05_Summary t2 5 w fun t16 w =>
      wLoad P T_Lref05_Entry t16 w fun t17 w =>
      wLen P .len #[T_Lref05_Entry] [t17] w fun t18 w =>
      wBin P .gtr T_int t18 (.int .i64 12) w fun t19 w =>
      wIf t19 (
        wFieldA P T_ref05_Summary t2 5 w fun t20 w =>
        wLoad P T_Lref05_Entry t20 w fun t21 w =>
        wSlice P T_Lref05_Entry t21 none (some (.int .i64 12)) none w fun t22 w =>
        wFieldA P T_ref05_Summary t2 5 w fun t23 w =>
        wStore P T_Lref05_Entry t23 t22 w fun w =>
        k2 w) (
        k2 w)) fun _ w =>
    wLoad P T_ref05_Summary t2 w fun t25 w =>
    wCall P n_law05_Summary [t25] w fun t26 w =>
    wCall P n_codec_WriteSummary [t26] w fun t27 w =>
    wExtract P t27 0 w fun t28 w =>
    wExtract P t27 1 w fun t29 w =>
    wAlloc P T_api_Sector w fun t5 w =>
    wStore P T_api_Sector t5 t28 w fun w =>
    wLoad P T_ref05_Summary t2 w fun t31 w =>
    wCall P n_ref05_WriteSummary [t31] w fun t32 w =>
    wExtract P t32 0 w fun t33 w =>
    wExtract P t32 1 w fun t34 w =>
    wAlloc P T_A128uint8 w fun t7 w =>
    wStore P T_A128uint8 t7 t33 w fun w =>
    wLoad P T_api_Sector t5 w fun t35 w =>
    wLoad P T_A128uint8 t7 w fun t36 w =>
    wBin P .neq T_api_Sector t35 t36 w fun t37 w =>
    wGrp t37 false (fun k42 =>
      wBin P .eql T_api_Errno t29 (.int .i64 0) w fun t40 w =>
      wBin P .neq T_bool t40 t34 w fun t42 w =>
      k42 t42 w) w fun _ t42 w =>
    wPick t37 (.bool true) t42 w fun t43 w =>
    wGrp t43 false (fun k50 =>
      wUn P .not t34 w fun t46 w =>
      wGrp t46 true (fun k49 =>
        wBin P .neq T_api_Errno t29 (.int .i64 1) w fun t49 w =>
        k49 t49 w) w fun _ t49 w =>
      wPick t46 t49 (.bool false) w fun t50 w =>
      k50 t50 w) w fun _ t50 w =>
    wPick t43 (.bool true) t50 w fun t51 w =>
    wIf t51 (
      k (.bool false) w) (
      wLoad P T_api_Sector t5 w fun t53 w =>
      wCall P n_codec_ReadSummary [t53] w fun t54 w =>
      wExtract P t54 0 w fun t55 w =>
      wExtract P t54 1 w fun t56 w =>
      wAlloc P T_codec_Summary w fun t9 w =>
      wStore P T_codec_Summary t9 t55 w fun w =>
      wDraw w fun w =>
      wGrp t34 true (fun k67 =>
        wBin P .neq T_api_Errno t56 (.int .i64 0) w fun t60 w =>
        wGrp t60 false (fun k66 =>
          wLoad P T_codec_Summary t9 w fun t62 w =>
          wLoad P T_ref05_Summary t2 w fun t64 w =>
          wCall P n_law05_Told [t62] w fun t63 w =>
          wKeep P [(T_ref05_Summary, t2, t64)] w ∧ wCall P n_law05_same [t63, t64] w fun t65 w =>
          wUn P .not t65 w fun t66 w =>
          k66 t66 w) w fun _ t66 w =>
        wPick t60 (.bool true) t66 w fun t67 w =>
        k67 t67 w) w fun _ t67 w =>
      wPick t34 t67 (.bool false) w fun t68 w =>
      wIf t68 (
        k (.bool false) w) (
        wLoad P T_api_Sector t5 w fun t69 w =>
        wCall P n_law05_turn [t69, a1] w fun t71 w =>
        wAlloc P T_api_Sector w fun t11 w =>
        wStore P T_api_Sector t11 t71 w fun w =>
        wLoad P T_api_Sector t11 w fun t73 w =>
        wCall P n_codec_ReadSummary [t73] w fun t74 w =>
        wExtract P t74 0 w fun t75 w =>
        wExtract P t74 1 w fun t76 w =>
        wAlloc P T_codec_Summary w fun t12 w =>
        wStore P T_codec_Summary t12 t75 w fun w =>
        wLoad P T_api_Sector t11 w fun t78 w =>
        wCall P n_ref05_ReadSummary [t78] w fun t79 w =>
        wExtract P t79 0 w fun t80 w =>
        wExtract P t79 1 w fun t81 w =>
        wAlloc P T_ref05_Summary w fun t13 w =>
        wStore P T_ref05_Summary t13 t80 w fun w =>
        wJ0 (fun k4 =>
          wUn P .not t81 w fun t83 w =>
          wIf t83 (
            wBuild P T_ref05_Summary [] w fun t84 w =>
            wStore P T_ref05_Summary t13 t84 w fun w =>
            k4 w) (
            k4 w)) fun _ w =>
        wDraw w fun w =>
        wLoad P T_codec_Summary t12 w fun t85 w =>
        wLoad P T_ref05_Summary t13 w fun t87 w =>
        wCall P n_law05_Told [t85] w fun t86 w =>
        wKeep P [(T_ref05_Summary, t13, t87)] w ∧ wCall P n_law05_same [t86, t87] w fun t88 w =>
        wGrp t88 true (fun k93 =>
          wBin P .eql T_api_Errno t76 (.int .i64 0) w fun t91 w =>
          wBin P .eql T_bool t91 t81 w fun t93 w =>
          k93 t93 w) w fun _ t93 w =>
        wPick t88 t93 (.bool false) w fun t94 w =>
        wGrp t94 true (fun k100 =>
          wGrp t81 false (fun k99 =>
            wBin P .eql T_api_Errno t76 (.int .i64 21) w fun t99 w =>
            k99 t99 w) w fun _ t99 w =>
          wPick t81 (.bool true) t99 w fun t100 w =>
          k100 t100 w) w fun _ t100 w =>
        wPick t94 t100 (.bool false) w fun t101 w =>
        k t101 w)))

theorem call_law05_CodecSummaries (a0 a1 : Value) {w : World} {k : Value → World → Prop} (h : F_law05_CodecSummaries a0 a1 w k) : wCall P n_law05_CodecSummaries [a0, a1] w k :=
  call_of_den mixedP Try.func13 (by kernel_rfl) (.s .z (.s .z (.j [] [1, 2] .z (.s .z (.s .z (.s (.s (.r (.ops [0, 1, 2, 3] (.grp 3 false 42 [39, 40, 41] (.ops [4, 5, 6, 7] .nil) (.ops [8, 9] (.grp 9 false 50 [45, 46, 47, 48, 49] (.ops [10, 11, 12] (.grp 12 true 49 [48] (.ops [13, 14] .nil) (.ops [15] .nil))) (.ops [16] .nil)))))) .z) (.s (.s .z (.s (.r (.ops [0, 1] (.grp 1 true 67 [59, 60, 61, 62, 63, 64, 65, 66] (.ops [2, 3, 4] (.grp 4 false 66 [62, 63, 64, 65] (.ops [5, 7] (.eff 6 [7] (.eff 8 [] (.ops [9] .nil)))) (.ops [10] .nil))) (.ops [11] .nil)))) .z)) (.s .z (.s .z (.s .z (.j [] [6, 8, 12, 13] .z (.s (.r (.ops [0, 2] (.eff 1 [2] (.eff 3 [] (.ops [4] (.grp 4 true 93 [90, 91, 92] (.ops [5, 6, 7, 8] .nil) (.ops [9, 10] (.grp 10 true 100 [96, 97, 98, 99] (.ops [11, 12] (.grp 12 false 99 [98] (.ops [13, 14] .nil) (.ops [15] .nil))) (.ops [16, 17] .nil))))))))) .z)))))))))))) (by kernel_rfl) (Eq.mp (by kernel_rfl) h)

def F_law05_awake (w : World) (k : Value → World → Prop) : Prop :=
  wBuild P T_codec_Inode [(0, (.int .u32 3)), (1, (.int .u32 9)), (2, (.int .i64 1)), (3, (.int .i64 300)), (6, (.int .i64 77))] w fun t8 w =>
  wAlloc P T_codec_Inode w fun t1 w =>
  wStore P T_codec_Inode t1 t8 w fun w =>
  wLoad P T_codec_Inode t1 w fun t10 w =>
  wCall P n_codec_WriteInode [t10] w fun t11 w =>
  wExtract P t11 0 w fun t12 w =>
  wExtract P t11 1 w fun t13 w =>
  wAlloc P T_api_Sector w fun t2 w =>
  wStore P T_api_Sector t2 t12 w fun w =>
  wLoad P T_api_Sector t2 w fun t15 w =>
  wCall P n_codec_ReadInode [t15] w fun t16 w =>
  wExtract P t16 0 w fun t17 w =>
  wExtract P t16 1 w fun t18 w =>
  wAlloc P T_codec_Inode w fun t4 w =>
  wStore P T_codec_Inode t4 t17 w fun w =>
  wBuild P T_codec_Inode [] w fun t20 w =>
  wCall P n_codec_WriteInode [t20] w fun t21 w =>
  wExtract P t21 0 w fun t22 w =>
  wExtract P t21 1 w fun t23 w =>
  wAlloc P T_api_Sector w fun t6 w =>
  wStore P T_api_Sector t6 t22 w fun w =>
  wBin P .eql T_api_Errno t13 (.int .i64 0) w fun t25 w =>
  wGrp t25 true (fun k28 =>
    wBin P .eql T_api_Errno t18 (.int .i64 0) w fun t28 w =>
    k28 t28 w) w fun _ t28 w =>
  wPick t25 t28 (.bool false) w fun t29 w =>
  wGrp t29 true (fun k33 =>
    wLoad P T_codec_Inode t1 w fun t31 w =>
    wLoad P T_codec_Inode t4 w fun t32 w =>
    wBin P .eql T_codec_Inode t31 t32 w fun t33 w =>
    k33 t33 w) w fun _ t33 w =>
  wPick t29 t33 (.bool false) w fun t34 w =>
  wGrp t34 true (fun k37 =>
    wBin P .eql T_api_Errno t23 (.int .i64 1) w fun t37 w =>
    k37 t37 w) w fun _ t37 w =>
  wPick t34 t37 (.bool false) w fun t38 w =>
  k t38 w

theorem call_law05_awake {w : World} {k : Value → World → Prop} (h : F_law05_awake w k) : wCall P n_law05_awake [] w k :=
  call_of_den mixedP Try.func54 (by kernel_rfl) (.s .z (.s .z (.s .z (.s .z (.s .z (.s (.r (.ops [0, 1, 2] (.grp 2 true 28 [27] (.ops [3, 4] .nil) (.ops [5, 6] (.grp 6 true 33 [31, 32] (.ops [7, 8, 9] .nil) (.ops [10, 11] (.grp 11 true 37 [36] (.ops [12, 13] .nil) (.ops [14, 15] .nil)))))))) .z)))))) (by kernel_rfl) (Eq.mp (by kernel_rfl) h)

def F_law05_Inode (a0 : Value) (w : World) (k : Value → World → Prop) : Prop :=
  wBox P T_ref05_Inode a0 w fun t1 w =>
  wAlloc P T_codec_Inode w fun t2 w =>
  wFieldA P T_ref05_Inode t1 0 w fun t3 w =>
  wLoad P T_uint32 t3 w fun t4 w =>
  wFieldA P T_ref05_Inode t1 1 w fun t5 w =>
  wLoad P T_uint32 t5 w fun t6 w =>
  wFieldA P T_ref05_Inode t1 2 w fun t7 w =>
  wLoad P T_int t7 w fun t8 w =>
  wFieldA P T_ref05_Inode t1 3 w fun t9 w =>
  wLoad P T_int t9 w fun t10 w =>
  wFieldA P T_ref05_Inode t1 4 w fun t11 w =>
  wLoad P T_uint32 t11 w fun t12 w =>
  wFieldA P T_ref05_Inode t1 5 w fun t13 w =>
  wLoad P T_A8int t13 w fun t14 w =>
  wFieldA P T_ref05_Inode t1 6 w fun t15 w =>
  wLoad P T_int t15 w fun t16 w =>
  wFieldA P T_ref05_Inode t1 7 w fun t17 w =>
  wLoad P T_int t17 w fun t18 w =>
  wBuild P T_codec_Inode [(0, t4), (1, t6), (2, t8), (3, t10), (4, t12), (5, t14), (6, t16), (7, t18)] w fun t19 w =>
  wStore P T_codec_Inode t2 t19 w fun w =>
  wRes P T_codec_Inode t2 w fun r2 =>
  k r2 w

theorem call_law05_Inode (a0 : Value) {w : World} {k : Value → World → Prop} (h : F_law05_Inode a0 w k) : wCall P n_law05_Inode [a0] w k :=
  call_of_den mixedP Try.func56 (by kernel_rfl) .z (by kernel_rfl) (Eq.mp (by kernel_rfl) h)

def F_law05_turn (a0 a1 : Value) (w : World) (k : Value → World → Prop) : Prop :=
  wBox P T_api_Sector a0 w fun t2 w =>
  wAlloc P T_api_Sector w fun t4 w =>
  wJ0 (fun k1 =>
    wL1 (.int .i64 0) w (fun _ v5 w k2 =>
      wBin P .add T_int v5 (.int .i64 1) w fun t9 w =>
      wLen P .len #[T_Luint8] [a1] w fun t11 w =>
      wBin P .lss T_int t9 t11 w fun t12 w =>
      wGrp t12 true (fun k15 =>
        wBin P .lss T_int v5 (.int .i64 8) w fun t15 w =>
        k15 t15 w) w fun _ t15 w =>
      wPick t12 t15 (.bool false) w fun t16 w =>
      wIf t16 (
        wDraw w fun w =>
        wIndexA P T_Luint8 a1 v5 w fun t21 w =>
        wLoad P T_uint8 t21 w fun t22 w =>
        wConv P T_uint8 T_int t22 w fun t23 w =>
        wBin P .rem T_int t23 (.int .i64 122) w fun t24 w =>
        wBin P .add T_int (.int .i64 2) t24 w fun t25 w =>
        wBin P .add T_int v5 (.int .i64 1) w fun t28 w =>
        wIndexA P T_Luint8 a1 t28 w fun t29 w =>
        wLoad P T_uint8 t29 w fun t30 w =>
        wIndexA P T_api_Sector t2 t25 w fun t31 w =>
        wStore P T_uint8 t31 t30 w fun w =>
        wBin P .add T_int v5 (.int .i64 2) w fun t18 w =>
        k2 t18 w) (
        k1 w))) fun _ w =>
  wSlice P T_api_Sector t2 none (some (.int .i64 124)) none w fun t32 w =>
  wCall P n_ref02_Crc [t32] w fun t33 w =>
  wJ0 (fun k1 =>
    wL1 (.int .i64 0) w (fun _ v7 w k2 =>
      wBin P .lss T_int v7 (.int .i64 4) w fun t35 w =>
      wIf t35 (
        wBin P .add T_int (.int .i64 124) v7 w fun t39 w =>
        wBin P .mul T_int (.int .i64 8) v7 w fun t42 w =>
        wBin P .shr T_uint32 t33 t42 w fun t43 w =>
        wConv P T_uint32 T_uint8 t43 w fun t44 w =>
        wIndexA P T_api_Sector t2 t39 w fun t45 w =>
        wStore P T_uint8 t45 t44 w fun w =>
        wBin P .add T_int v7 (.int .i64 1) w fun t37 w =>
        k2 t37 w) (
        k1 w))) fun _ w =>
  wLoad P T_api_Sector t2 w fun t46 w =>
  wStore P T_api_Sector t4 t46 w fun w =>
  wRes P T_api_Sector t4 w fun r4 =>
  k r4 w

theorem call_law05_turn (a0 a1 : Value) {w : World} {k : Value → World → Prop} (h : F_law05_turn a0 a1 w k) : wCall P n_law05_turn [a0, a1] w k :=
  call_of_den mixedP Try.func59 (by kernel_rfl) (.s .z (.j [] [2, 4] (.s .z (.b (.l [5] [1, 2, 4] (.s (.s (.r (.ops [0, 1, 2, 3, 4, 5] (.grp 5 true 15 [14] (.ops [6, 7] .nil) (.ops [8] .nil)))) .z) (.s (.b (.r (.ops [0, 1, 2, 3, 4, 5, 6, 7, 8, 9, 10, 11, 12] (.eff 13 [] .nil)))) .z))))) (.s .z (.j [] [2, 4] (.s .z (.b (.l [7] [2, 4, 6] .z))) .z)))) (by kernel_rfl) (Eq.mp (by kernel_rfl) h)

def F_law05_Summary (a0 : Value) (w : World) (k : Value → World → Prop) : Prop :=
  wBox P T_ref05_Summary a0 w fun t1 w =>
  wAlloc P T_codec_Summary w fun t2 w =>
  wFieldA P T_ref05_Summary t1 0 w fun t6 w =>
  wLoad P T_uint64 t6 w fun t7 w =>
  wFieldA P T_ref05_Summary t1 1 w fun t8 w =>
  wLoad P T_uint64 t8 w fun t9 w =>
  wFieldA P T_ref05_Summary t1 2 w fun t10 w =>
  wLoad P T_bool t10 w fun t11 w =>
  wFieldA P T_ref05_Summary t1 3 w fun t12 w =>
  wLoad P T_int t12 w fun t13 w =>
  wFieldA P T_ref05_Summary t1 4 w fun t14 w =>
  wLoad P T_uint32 t14 w fun t15 w =>
  wBuild P T_codec_Summary [(0, t7), (1, t9), (2, t11), (3, t13), (4, t15)] w fun t16 w =>
  wAlloc P T_codec_Summary w fun t3 w =>
  wStore P T_codec_Summary t3 t16 w fun w =>
  wJ0 (fun k1 =>
    wFieldA P T_ref05_Summary t1 5 w fun t17 w =>
    wLoad P T_Lref05_Entry t17 w fun t18 w =>
    wLen P .len #[T_Lref05_Entry] [t18] w fun t19 w =>
    wL1 (.int .i64 0) w (fun _ v20 w k2 =>
      wBin P .lss T_int v20 t19 w fun t21 w =>
      wIf t21 (
        wIndexA P T_Lref05_Entry t18 v20 w fun t22 w =>
        wLoad P T_ref05_Entry t22 w fun t23 w =>
        wAlloc P T_ref05_Entry w fun t5 w =>
        wStore P T_ref05_Entry t5 t23 w fun w =>
        wFieldA P T_codec_Summary t3 5 w fun t24 w =>
        wLoad P T_Lcodec_Entry t24 w fun t25 w =>
        wFieldA P T_ref05_Entry t5 0 w fun t26 w =>
        wLoad P T_int t26 w fun t27 w =>
        wFieldA P T_ref05_Entry t5 1 w fun t28 w =>
        wLoad P T_uint32 t28 w fun t29 w =>
        wFieldA P T_ref05_Entry t5 2 w fun t30 w =>
        wLoad P T_uint32 t30 w fun t31 w =>
        wFieldA P T_ref05_Entry t5 3 w fun t32 w =>
        wLoad P T_int t32 w fun t33 w =>
        wBuild P T_codec_Entry [(0, t27), (1, t29), (2, t31), (3, t33)] w fun t34 w =>
        wBuildS P T_Lcodec_Entry 1 [(0, t34)] w fun t35 w =>
        wBuiltin P .append #[T_Lcodec_Entry, T_Lcodec_Entry] [t25, t35] w fun t36 w =>
        wFieldA P T_codec_Summary t3 5 w fun t37 w =>
        wStore P T_Lcodec_Entry t37 t36 w fun w =>
        wBin P .add T_int v20 (.int .i64 1) w fun t38 w =>
        k2 t38 w) (
        k1 w))) fun _ w =>
  wLoad P T_codec_Summary t3 w fun t39 w =>
  wStore P T_codec_Summary t2 t39 w fun w =>
  wRes P T_codec_Summary t2 w fun r2 =>
  k r2 w

theorem call_law05_Summary (a0 : Value) {w : World} {k : Value → World → Prop} (h : F_law05_Summary a0 w k) : wCall P n_law05_Summary [a0] w k :=
  call_of_den mixedP Try.func83 (by kernel_rfl) (.s .z (.s .z (.j [] [2, 3] (.s .z (.b (.l [20] [2, 3, 18, 19] .z))) .z))) (by kernel_rfl) (Eq.mp (by kernel_rfl) h)

def F_law05_same (a0 a1 : Value) (w : World) (k : Value → World → Prop) : Prop :=
  wBox P T_ref05_Summary a0 w fun t2 w =>
  wBox P T_ref05_Summary a1 w fun t3 w =>
  wFieldA P T_ref05_Summary t2 0 w fun t6 w =>
  wLoad P T_uint64 t6 w fun t7 w =>
  wFieldA P T_ref05_Summary t3 0 w fun t8 w =>
  wLoad P T_uint64 t8 w fun t9 w =>
  wBin P .neq T_uint64 t7 t9 w fun t10 w =>
  wGrp t10 false (fun k16 =>
    wFieldA P T_ref05_Summary t2 1 w fun t12 w =>
    wLoad P T_uint64 t12 w fun t13 w =>
    wFieldA P T_ref05_Summary t3 1 w fun t14 w =>
    wLoad P T_uint64 t14 w fun t15 w =>
    wBin P .neq T_uint64 t13 t15 w fun t16 w =>
    k16 t16 w) w fun _ t16 w =>
  wPick t10 (.bool true) t16 w fun t17 w =>
  wGrp t17 false (fun k23 =>
    wFieldA P T_ref05_Summary t2 2 w fun t19 w =>
    wLoad P T_bool t19 w fun t20 w =>
    wFieldA P T_ref05_Summary t3 2 w fun t21 w =>
    wLoad P T_bool t21 w fun t22 w =>
    wBin P .neq T_bool t20 t22 w fun t23 w =>
    k23 t23 w) w fun _ t23 w =>
  wPick t17 (.bool true) t23 w fun t24 w =>
  wGrp t24 false (fun k30 =>
    wFieldA P T_ref05_Summary t2 3 w fun t26 w =>
    wLoad P T_int t26 w fun t27 w =>
    wFieldA P T_ref05_Summary t3 3 w fun t28 w =>
    wLoad P T_int t28 w fun t29 w =>
    wBin P .neq T_int t27 t29 w fun t30 w =>
    k30 t30 w) w fun _ t30 w =>
  wPick t24 (.bool true) t30 w fun t31 w =>
  wGrp t31 false (fun k37 =>
    wFieldA P T_ref05_Summary t2 4 w fun t33 w =>
    wLoad P T_uint32 t33 w fun t34 w =>
    wFieldA P T_ref05_Summary t3 4 w fun t35 w =>
    wLoad P T_uint32 t35 w fun t36 w =>
    wBin P .neq T_uint32 t34 t36 w fun t37 w =>
    k37 t37 w) w fun _ t37 w =>
  wPick t31 (.bool true) t37 w fun t38 w =>
  wGrp t38 false (fun k46 =>
    wFieldA P T_ref05_Summary t2 5 w fun t40 w =>
    wLoad P T_Lref05_Entry t40 w fun t41 w =>
    wLen P .len #[T_Lref05_Entry] [t41] w fun t42 w =>
    wFieldA P T_ref05_Summary t3 5 w fun t43 w =>
    wLoad P T_Lref05_Entry t43 w fun t44 w =>
    wLen P .len #[T_Lref05_Entry] [t44] w fun t45 w =>
    wBin P .neq T_int t42 t45 w fun t46 w =>
    k46 t46 w) w fun _ t46 w =>
  wPick t38 (.bool true) t46 w fun t47 w =>
  wIf t47 (
    k (.bool false) w) (
    wFieldA P T_ref05_Summary t2 5 w fun t48 w =>
    wLoad P T_Lref05_Entry t48 w fun t49 w =>
    wLen P .len #[T_Lref05_Entry] [t49] w fun t50 w =>
    wL1 (.int .i64 0) w (fun _ v51 w k2 =>
      wBin P .lss T_int v51 t50 w fun t52 w =>
      wIf t52 (
        wDraw w fun w =>
        wFieldA P T_ref05_Summary t2 5 w fun t54 w =>
        wLoad P T_Lref05_Entry t54 w fun t55 w =>
        wIndexA P T_Lref05_Entry t55 v51 w fun t57 w =>
        wLoad P T_ref05_Entry t57 w fun t58 w =>
        wFieldA P T_ref05_Summary t3 5 w fun t59 w =>
        wLoad P T_Lref05_Entry t59 w fun t60 w =>
        wIndexA P T_Lref05_Entry t60 v51 w fun t62 w =>
        wLoad P T_ref05_Entry t62 w fun t63 w =>
        wBin P .neq T_ref05_Entry t58 t63 w fun t64 w =>
        wIf t64 (
          k (.bool false) w) (
          wBin P .add T_int v51 (.int .i64 1) w fun t65 w =>
          k2 t65 w)) (
        k (.bool true) w)))

theorem call_law05_same (a0 a1 : Value) {w : World} {k : Value → World → Prop} (h : F_law05_same a0 a1 w k) : wCall P n_law05_same [a0, a1] w k :=
  call_of_den mixedP Try.func86 (by kernel_rfl) (.s .z (.s (.s (.r (.ops [0, 1, 2, 3, 4, 5] (.grp 5 false 16 [12, 13, 14, 15] (.ops [6, 7, 8, 9, 10] .nil) (.ops [11, 12] (.grp 12 false 23 [19, 20, 21, 22] (.ops [13, 14, 15, 16, 17] .nil) (.ops [18, 19] (.grp 19 false 30 [26, 27, 28, 29] (.ops [20, 21, 22, 23, 24] .nil) (.ops [25, 26] (.grp 26 false 37 [33, 34, 35, 36] (.ops [27, 28, 29, 30, 31] .nil) (.ops [32, 33] (.grp 33 false 46 [40, 41, 42, 43, 44, 45] (.ops [34, 35, 36, 37, 38, 39, 40] .nil) (.ops [41] .nil)))))))))))) .z) (.s (.s .z (.b (.l [51] [2, 3, 50] (.s .z (.s .z (.s (.b (.s .z (.s (.r (.ops [0, 1, 2, 3, 4, 5, 6, 7, 8, 9, 10] .nil)) .z))) .z)))))) .z))) (by kernel_rfl) (Eq.mp (by kernel_rfl) h)

def F_law05_Told (a0 : Value) (w : World) (k : Value → World → Prop) : Prop :=
  wBox P T_codec_Summary a0 w fun t1 w =>
  wAlloc P T_ref05_Summary w fun t2 w =>
  wFieldA P T_codec_Summary t1 0 w fun t6 w =>
  wLoad P T_uint64 t6 w fun t7 w =>
  wFieldA P T_codec_Summary t1 1 w fun t8 w =>
  wLoad P T_uint64 t8 w fun t9 w =>
  wFieldA P T_codec_Summary t1 2 w fun t10 w =>
  wLoad P T_bool t10 w fun t11 w =>
  wFieldA P T_codec_Summary t1 3 w fun t12 w =>
  wLoad P T_int t12 w fun t13 w =>
  wFieldA P T_codec_Summary t1 4 w fun t14 w =>
  wLoad P T_uint32 t14 w fun t15 w =>
  wBuild P T_ref05_Summary [(0, t7), (1, t9), (2, t11), (3, t13), (4, t15)] w fun t16 w =>
  wAlloc P T_ref05_Summary w fun t3 w =>
  wStore P T_ref05_Summary t3 t16 w fun w =>
  wJ0 (fun k1 =>
    wFieldA P T_codec_Summary t1 5 w fun t17 w =>
    wLoad P T_Lcodec_Entry t17 w fun t18 w =>
    wLen P .len #[T_Lcodec_Entry] [t18] w fun t19 w =>
    wL1 (.int .i64 0) w (fun _ v20 w k2 =>
      wBin P .lss T_int v20 t19 w fun t21 w =>
      wIf t21 (
        wIndexA P T_Lcodec_Entry t18 v20 w fun t22 w =>
        wLoad P T_codec_Entry t22 w fun t23 w =>
        wAlloc P T_codec_Entry w fun t5 w =>
        wStore P T_codec_Entry t5 t23 w fun w =>
        wFieldA P T_ref05_Summary t3 5 w fun t24 w =>
        wLoad P T_Lref05_Entry t24 w fun t25 w =>
        wFieldA P T_codec_Entry t5 0 w fun t26 w =>
        wLoad P T_int t26 w fun t27 w =>
        wFieldA P T_codec_Entry t5 1 w fun t28 w =>
        wLoad P T_uint32 t28 w fun t29 w =>
        wFieldA P T_codec_Entry t5 2 w fun t30 w =>
        wLoad P T_uint32 t30 w fun t31 w =>
        wFieldA P T_codec_Entry t5 3 w fun t32 w =>
        wLoad P T_int t32 w fun t33 w =>
        wBuild P T_ref05_Entry [(0, t27), (1, t29), (2, t31), (3, t33)] w fun t34 w =>
        wBuildS P T_Lref05_Entry 1 [(0, t34)] w fun t35 w =>
        wBuiltin P .append #[T_Lref05_Entry, T_Lref05_Entry] [t25, t35] w fun t36 w =>
        wFieldA P T_ref05_Summary t3 5 w fun t37 w =>
        wStore P T_Lref05_Entry t37 t36 w fun w =>
        wBin P .add T_int v20 (.int .i64 1) w fun t38 w =>
        k2 t38 w) (
        k1 w))) fun _ w =>
  wLoad P T_ref05_Summary t3 w fun t39 w =>
  wStore P T_ref05_Summary t2 t39 w fun w =>
  wRes P T_ref05_Summary t2 w fun r2 =>
  k r2 w

theorem call_law05_Told (a0 : Value) {w : World} {k : Value → World → Prop} (h : F_law05_Told a0 w k) : wCall P n_law05_Told [a0] w k :=
  call_of_den mixedP Try.func87 (by kernel_rfl) (.s .z (.s .z (.j [] [2, 3] (.s .z (.b (.l [20] [2, 3, 18, 19] .z))) .z))) (by kernel_rfl) (Eq.mp (by kernel_rfl) h)

end Go.Dn
