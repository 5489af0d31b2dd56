import Derived.Test.YtflnhihdbhjlnaaXSum1
import Derived.Test.YtflnhihdbhjlnaaXSum2
import Derived.Test.YtflnhihdbhjlnaaXSum4
import Derived.Deep.Slices
import Derived.Deep.Fields
import Derived.ChangeSame
import Derived.ChangeArms
import Derived.OpenShut
section
/-! Texts of functions, printed by mkg.py. -/
set_option maxRecDepth 100000
set_option linter.unusedVariables false
namespace Go.Dn
open Go Go.Proofs
def F_law05_CodecInodes (a0 a1 : Value) (w : World) (k : Value → World → Prop) : Prop :=
  wBox P T_ref05_Inode a0 w fun t2 w =>
  wCall P n_law05_awake [] w fun t14 w =>
  wUn P .not t14 w fun t15 w =>
  wIf t15 (
    k (.bool false) w) (
    wLoad P T_ref05_Inode t2 w fun t17 w =>
    wCall P n_law05_Inode [t17] w fun t18 w =>
    wCall P n_codec_WriteInode [t18] w fun t19 w =>
    wExtract P t19 0 w fun t20 w =>
    wExtract P t19 1 w fun t21 w =>
    wAlloc P T_api_Sector w fun t5 w =>
    wStore P T_api_Sector t5 t20 w fun w =>
    wLoad P T_ref05_Inode t2 w fun t23 w =>
    wCall P n_ref05_WriteInode [t23] w fun t24 w =>
    wExtract P t24 0 w fun t25 w =>
    wExtract P t24 1 w fun t26 w =>
    wAlloc P T_A128uint8 w fun t7 w =>
    wStore P T_A128uint8 t7 t25 w fun w =>
    wLoad P T_api_Sector t5 w fun t27 w =>
    wLoad P T_A128uint8 t7 w fun t28 w =>
    wBin P .neq T_api_Sector t27 t28 w fun t29 w =>
    wGrp t29 false (fun k34 =>
      wBin P .eql T_api_Errno t21 (.int .i64 0) w fun t32 w =>
      wBin P .neq T_bool t32 t26 w fun t34 w =>
      k34 t34 w) w fun _ t34 w =>
    wPick t29 (.bool true) t34 w fun t35 w =>
    wGrp t35 false (fun k42 =>
      wUn P .not t26 w fun t38 w =>
      wGrp t38 true (fun k41 =>
        wBin P .neq T_api_Errno t21 (.int .i64 1) w fun t41 w =>
        k41 t41 w) w fun _ t41 w =>
      wPick t38 t41 (.bool false) w fun t42 w =>
      k42 t42 w) w fun _ t42 w =>
    wPick t35 (.bool true) t42 w fun t43 w =>
    wIf t43 (
      k (.bool false) w) (
      wLoad P T_api_Sector t5 w fun t45 w =>
      wCall P n_codec_ReadInode [t45] w fun t46 w =>
      wExtract P t46 0 w fun t47 w =>
      wExtract P t46 1 w fun t48 w =>
      wAlloc P T_codec_Inode w fun t9 w =>
      wStore P T_codec_Inode t9 t47 w fun w =>
      wDraw w fun w =>
      wGrp t26 true (fun k58 =>
        wBin P .neq T_api_Errno t48 (.int .i64 0) w fun t52 w =>
        wGrp t52 false (fun k57 =>
          wLoad P T_codec_Inode t9 w fun t54 w =>
          wLoad P T_ref05_Inode t2 w fun t55 w =>
          wCall P n_law05_Inode [t55] w fun t56 w =>
          wKeep P [(T_codec_Inode, t9, t54)] w ∧ wBin P .neq T_codec_Inode t54 t56 w fun t57 w =>
          k57 t57 w) w fun _ t57 w =>
        wPick t52 (.bool true) t57 w fun t58 w =>
        k58 t58 w) w fun _ t58 w =>
      wPick t26 t58 (.bool false) w fun t59 w =>
      wIf t59 (
        k (.bool false) w) (
        wLoad P T_api_Sector t5 w fun t60 w =>
        wCall P n_law05_turn [t60, a1] w fun t62 w =>
        wAlloc P T_api_Sector w fun t11 w =>
        wStore P T_api_Sector t11 t62 w fun w =>
        wLoad P T_api_Sector t11 w fun t64 w =>
        wCall P n_codec_ReadInode [t64] w fun t65 w =>
        wExtract P t65 0 w fun t66 w =>
        wExtract P t65 1 w fun t67 w =>
        wAlloc P T_codec_Inode w fun t12 w =>
        wStore P T_codec_Inode t12 t66 w fun w =>
        wLoad P T_api_Sector t11 w fun t69 w =>
        wCall P n_ref05_ReadInode [t69] w fun t70 w =>
        wExtract P t70 0 w fun t71 w =>
        wExtract P t70 1 w fun t72 w =>
        wAlloc P T_ref05_Inode w fun t13 w =>
        wStore P T_ref05_Inode t13 t71 w fun w =>
        wDraw w fun w =>
        wLoad P T_codec_Inode t12 w fun t73 w =>
        wLoad P T_ref05_Inode t13 w fun t74 w =>
        wCall P n_law05_Inode [t74] w fun t75 w =>
        wKeep P [(T_codec_Inode, t12, t73)] w ∧ wBin P .eql T_codec_Inode t73 t75 w fun t76 w =>
        wGrp t76 true (fun k81 =>
          wBin P .eql T_api_Errno t67 (.int .i64 0) w fun t79 w =>
          wBin P .eql T_bool t79 t72 w fun t81 w =>
          k81 t81 w) w fun _ t81 w =>
        wPick t76 t81 (.bool false) w fun t82 w =>
        wGrp t82 true (fun k88 =>
          wGrp t72 false (fun k87 =>
            wBin P .eql T_api_Errno t67 (.int .i64 21) w fun t87 w =>
            k87 t87 w) w fun _ t87 w =>
          wPick t72 (.bool true) t87 w fun t88 w =>
          k88 t88 w) w fun _ t88 w =>
        wPick t82 t88 (.bool false) w fun t89 w =>
        k t89 w)))

theorem call_law05_CodecInodes (a0 a1 : Value) {w : World} {k : Value → World → Prop} (h : F_law05_CodecInodes a0 a1 w k) : wCall P n_law05_CodecInodes [a0, a1] w k :=
  call_of_den mixedP Try.func6 (by kernel_rfl) (.s .z (.s .z (.s .z (.s .z (.s (.s (.r (.ops [0, 1, 2, 3] (.grp 3 false 34 [31, 32, 33] (.ops [4, 5, 6, 7] .nil) (.ops [8, 9] (.grp 9 false 42 [37, 38, 39, 40, 41] (.ops [10, 11, 12] (.grp 12 true 41 [40] (.ops [13, 14] .nil) (.ops [15] .nil))) (.ops [16] .nil)))))) .z) (.s (.s .z (.s (.r (.ops [0, 1] (.grp 1 true 58 [51, 52, 53, 54, 55, 56, 57] (.ops [2, 3, 4] (.grp 4 false 57 [54, 55, 56] (.ops [5, 6] (.eff 7 [5] (.ops [8] .nil))) (.ops [9] .nil))) (.ops [10] .nil)))) .z)) (.s .z (.s .z (.s .z (.s (.r (.ops [0, 1] (.eff 2 [0] (.ops [3, 4] (.grp 4 true 81 [78, 79, 80] (.ops [5, 6, 7, 8] .nil) (.ops [9, 10] (.grp 10 true 88 [84, 85, 86, 87] (.ops [11, 12] (.grp 12 false 87 [86] (.ops [13, 14] .nil) (.ops [15] .nil))) (.ops [16, 17] .nil)))))))) .z)))))))))) (by kernel_rfl) (Eq.mp (by kernel_rfl) h)

def F_law05_CodecHeaders (a0 a1 : Value) (w : World) (k : Value → World → Prop) : Prop :=
  wBox P T_ref05_Header a0 w fun t2 w =>
  wCall P n_law05_awake [] w fun t15 w =>
  wUn P .not t15 w fun t16 w =>
  wIf t16 (
    k (.bool false) w) (
    wFieldA P T_ref05_Header t2 0 w fun t17 w =>
    wLoad P T_uint64 t17 w fun t18 w =>
    wFieldA P T_ref05_Header t2 1 w fun t19 w =>
    wLoad P T_uint64 t19 w fun t20 w =>
    wFieldA P T_ref05_Header t2 2 w fun t21 w =>
    wLoad P T_int t21 w fun t22 w =>
    wFieldA P T_ref05_Header t2 3 w fun t23 w =>
    wLoad P T_int t23 w fun t24 w =>
    wFieldA P T_ref05_Header t2 4 w fun t25 w =>
    wLoad P T_int t25 w fun t26 w =>
    wFieldA P T_ref05_Header t2 5 w fun t27 w =>
    wLoad P T_uint32 t27 w fun t28 w =>
    wBuild P T_codec_Header [(0, t18), (1, t20), (2, t22), (3, t24), (4, t26), (5, t28)] w fun t29 w =>
    wAlloc P T_codec_Header w fun t5 w =>
    wStore P T_codec_Header t5 t29 w fun w =>
    wLoad P T_codec_Header t5 w fun t31 w =>
    wCall P n_codec_WriteHeader [t31] w fun t32 w =>
    wExtract P t32 0 w fun t33 w =>
    wExtract P t32 1 w fun t34 w =>
    wAlloc P T_api_Sector w fun t6 w =>
    wStore P T_api_Sector t6 t33 w fun w =>
    wLoad P T_ref05_Header t2 w fun t36 w =>
    wCall P n_ref05_WriteHeader [t36] w fun t37 w =>
    wExtract P t37 0 w fun t38 w =>
    wExtract P t37 1 w fun t39 w =>
    wAlloc P T_A128uint8 w fun t8 w =>
    wStore P T_A128uint8 t8 t38 w fun w =>
    wLoad P T_api_Sector t6 w fun t40 w =>
    wLoad P T_A128uint8 t8 w fun t41 w =>
    wBin P .neq T_api_Sector t40 t41 w fun t42 w =>
    wGrp t42 false (fun k47 =>
      wBin P .eql T_api_Errno t34 (.int .i64 0) w fun t45 w =>
      wBin P .neq T_bool t45 t39 w fun t47 w =>
      k47 t47 w) w fun _ t47 w =>
    wPick t42 (.bool true) t47 w fun t48 w =>
    wGrp t48 false (fun k55 =>
      wUn P .not t39 w fun t51 w =>
      wGrp t51 true (fun k54 =>
        wBin P .neq T_api_Errno t34 (.int .i64 1) w fun t54 w =>
        k54 t54 w) w fun _ t54 w =>
      wPick t51 t54 (.bool false) w fun t55 w =>
      k55 t55 w) w fun _ t55 w =>
    wPick t48 (.bool true) t55 w fun t56 w =>
    wIf t56 (
      k (.bool false) w) (
      wLoad P T_api_Sector t6 w fun t58 w =>
      wCall P n_codec_ReadHeader [t58] w fun t59 w =>
      wExtract P t59 0 w fun t60 w =>
      wExtract P t59 1 w fun t61 w =>
      wAlloc P T_codec_Header w fun t10 w =>
      wStore P T_codec_Header t10 t60 w fun w =>
      wGrp t39 true (fun k70 =>
        wBin P .neq T_api_Errno t61 (.int .i64 0) w fun t65 w =>
        wGrp t65 false (fun k69 =>
          wLoad P T_codec_Header t10 w fun t67 w =>
          wLoad P T_codec_Header t5 w fun t68 w =>
          wBin P .neq T_codec_Header t67 t68 w fun t69 w =>
          k69 t69 w) w fun _ t69 w =>
        wPick t65 (.bool true) t69 w fun t70 w =>
        k70 t70 w) w fun _ t70 w =>
      wPick t39 t70 (.bool false) w fun t71 w =>
      wIf t71 (
        k (.bool false) w) (
        wLoad P T_api_Sector t6 w fun t72 w =>
        wCall P n_law05_turn [t72, a1] w fun t74 w =>
        wAlloc P T_api_Sector w fun t12 w =>
        wStore P T_api_Sector t12 t74 w fun w =>
        wLoad P T_api_Sector t12 w fun t76 w =>
        wCall P n_codec_ReadHeader [t76] w fun t77 w =>
        wExtract P t77 0 w fun t78 w =>
        wExtract P t77 1 w fun t79 w =>
        wAlloc P T_codec_Header w fun t13 w =>
        wStore P T_codec_Header t13 t78 w fun w =>
        wLoad P T_api_Sector t12 w fun t81 w =>
        wCall P n_ref05_ReadHeader [t81] w fun t82 w =>
        wExtract P t82 0 w fun t83 w =>
        wExtract P t82 1 w fun t84 w =>
        wAlloc P T_ref05_Header w fun t14 w =>
        wStore P T_ref05_Header t14 t83 w fun w =>
        wLoad P T_codec_Header t13 w fun t85 w =>
        wFieldA P T_ref05_Header t14 0 w fun t86 w =>
        wLoad P T_uint64 t86 w fun t87 w =>
        wFieldA P T_ref05_Header t14 1 w fun t88 w =>
        wLoad P T_uint64 t88 w fun t89 w =>
        wFieldA P T_ref05_Header t14 2 w fun t90 w =>
        wLoad P T_int t90 w fun t91 w =>
        wFieldA P T_ref05_Header t14 3 w fun t92 w =>
        wLoad P T_int t92 w fun t93 w =>
        wFieldA P T_ref05_Header t14 4 w fun t94 w =>
        wLoad P T_int t94 w fun t95 w =>
        wFieldA P T_ref05_Header t14 5 w fun t96 w =>
        wLoad P T_uint32 t96 w fun t97 w =>
        wBuild P T_codec_Header [(0, t87), (1, t89), (2, t91), (3, t93), (4, t95), (5, t97)] w fun t98 w =>
        wBin P .eql T_codec_Header t85 t98 w fun t99 w =>
        wGrp t99 true (fun k104 =>
          wBin P .eql T_api_Errno t79 (.int .i64 0) w fun t102 w =>
          wBin P .eql T_bool t102 t84 w fun t104 w =>
          k104 t104 w) w fun _ t104 w =>
        wPick t99 t104 (.bool false) w fun t105 w =>
        wGrp t105 true (fun k111 =>
          wGrp t84 false (fun k110 =>
            wBin P .eql T_api_Errno t79 (.int .i64 21) w fun t110 w =>
            k110 t110 w) w fun _ t110 w =>
          wPick t84 (.bool true) t110 w fun t111 w =>
          k111 t111 w) w fun _ t111 w =>
        wPick t105 t111 (.bool false) w fun t112 w =>
        k t112 w)))

theorem call_law05_CodecHeaders (a0 a1 : Value) {w : World} {k : Value → World → Prop} (h : F_law05_CodecHeaders a0 a1 w k) : wCall P n_law05_CodecHeaders [a0, a1] w k :=
  call_of_den mixedP Try.func7 (by kernel_rfl) (.s .z (.s .z (.s .z (.s .z (.s .z (.s (.s (.r (.ops [0, 1, 2, 3] (.grp 3 false 47 [44, 45, 46] (.ops [4, 5, 6, 7] .nil) (.ops [8, 9] (.grp 9 false 55 [50, 51, 52, 53, 54] (.ops [10, 11, 12] (.grp 12 true 54 [53] (.ops [13, 14] .nil) (.ops [15] .nil))) (.ops [16] .nil)))))) .z) (.s (.s .z (.s (.r (.ops [0, 1] (.grp 1 true 70 [64, 65, 66, 67, 68, 69] (.ops [2, 3, 4] (.grp 4 false 69 [67, 68] (.ops [5, 6, 7] .nil) (.ops [8] .nil))) (.ops [9] .nil)))) .z)) (.s .z (.s .z (.s .z (.s (.r (.ops [0, 1, 2, 3, 4, 5, 6, 7, 8, 9, 10, 11, 12, 13, 14, 15] (.grp 15 true 104 [101, 102, 103] (.ops [16, 17, 18, 19] .nil) (.ops [20, 21] (.grp 21 true 111 [107, 108, 109, 110] (.ops [22, 23] (.grp 23 false 110 [109] (.ops [24, 25] .nil) (.ops [26] .nil))) (.ops [27, 28] .nil)))))) .z))))))))))) (by kernel_rfl) (Eq.mp (by kernel_rfl) h)

def F_law05_CodecPointers (a0 a1 : Value) (w : World) (k : Value → World → Prop) : Prop :=
  wBox P T_A32int a0 w fun t2 w =>
  wCall P n_law05_awake [] w fun t14 w =>
  wUn P .not t14 w fun t15 w =>
  wIf t15 (
    k (.bool false) w) (
    wLoad P T_A32int t2 w fun t17 w =>
    wCall P n_codec_WritePointers [t17] w fun t18 w =>
    wExtract P t18 0 w fun t19 w =>
    wExtract P t18 1 w fun t20 w =>
    wAlloc P T_api_Sector w fun t5 w =>
    wStore P T_api_Sector t5 t19 w fun w =>
    wLoad P T_A32int t2 w fun t22 w =>
    wCall P n_ref05_WritePointers [t22] w fun t23 w =>
    wExtract P t23 0 w fun t24 w =>
    wExtract P t23 1 w fun t25 w =>
    wAlloc P T_A128uint8 w fun t7 w =>
    wStore P T_A128uint8 t7 t24 w fun w =>
    wLoad P T_api_Sector t5 w fun t26 w =>
    wLoad P T_A128uint8 t7 w fun t27 w =>
    wBin P .neq T_api_Sector t26 t27 w fun t28 w =>
    wGrp t28 false (fun k33 =>
      wBin P .eql T_api_Errno t20 (.int .i64 0) w fun t31 w =>
      wBin P .neq T_bool t31 t25 w fun t33 w =>
      k33 t33 w) w fun _ t33 w =>
    wPick t28 (.bool true) t33 w fun t34 w =>
    wGrp t34 false (fun k41 =>
      wUn P .not t25 w fun t37 w =>
      wGrp t37 true (fun k40 =>
        wBin P .neq T_api_Errno t20 (.int .i64 1) w fun t40 w =>
        k40 t40 w) w fun _ t40 w =>
      wPick t37 t40 (.bool false) w fun t41 w =>
      k41 t41 w) w fun _ t41 w =>
    wPick t34 (.bool true) t41 w fun t42 w =>
    wIf t42 (
      k (.bool false) w) (
      wLoad P T_api_Sector t5 w fun t44 w =>
      wCall P n_codec_ReadPointers [t44] w fun t45 w =>
      wExtract P t45 0 w fun t46 w =>
      wExtract P t45 1 w fun t47 w =>
      wAlloc P T_A32int w fun t9 w =>
      wStore P T_A32int t9 t46 w fun w =>
      wGrp t25 true (fun k56 =>
        wBin P .neq T_api_Errno t47 (.int .i64 0) w fun t51 w =>
        wGrp t51 false (fun k55 =>
          wLoad P T_A32int t9 w fun t53 w =>
          wLoad P T_A32int t2 w fun t54 w =>
          wBin P .neq T_A32int t53 t54 w fun t55 w =>
          k55 t55 w) w fun _ t55 w =>
        wPick t51 (.bool true) t55 w fun t56 w =>
        k56 t56 w) w fun _ t56 w =>
      wPick t25 t56 (.bool false) w fun t57 w =>
      wIf t57 (
        k (.bool false) w) (
        wCall P n_ref01_Full [a1] w fun t59 w =>
        wAlloc P T_A128uint8 w fun t11 w =>
        wStore P T_A128uint8 t11 t59 w fun w =>
        wLoad P T_A128uint8 t11 w fun t61 w =>
        wCall P n_codec_ReadPointers [t61] w fun t62 w =>
        wExtract P t62 0 w fun t63 w =>
        wExtract P t62 1 w fun t64 w =>
        wAlloc P T_A32int w fun t12 w =>
        wStore P T_A32int t12 t63 w fun w =>
        wLoad P T_A128uint8 t11 w fun t66 w =>
        wCall P n_ref05_ReadPointers [t66] w fun t67 w =>
        wExtract P t67 0 w fun t68 w =>
        wExtract P t67 1 w fun t69 w =>
        wAlloc P T_A32int w fun t13 w =>
        wStore P T_A32int t13 t68 w fun w =>
        wLoad P T_A32int t12 w fun t70 w =>
        wLoad P T_A32int t13 w fun t71 w =>
        wBin P .eql T_A32int t70 t71 w fun t72 w =>
        wGrp t72 true (fun k77 =>
          wBin P .eql T_api_Errno t64 (.int .i64 0) w fun t75 w =>
          wBin P .eql T_bool t75 t69 w fun t77 w =>
          k77 t77 w) w fun _ t77 w =>
        wPick t72 t77 (.bool false) w fun t78 w =>
        wGrp t78 true (fun k84 =>
          wGrp t69 false (fun k83 =>
            wBin P .eql T_api_Errno t64 (.int .i64 21) w fun t83 w =>
            k83 t83 w) w fun _ t83 w =>
          wPick t69 (.bool true) t83 w fun t84 w =>
          k84 t84 w) w fun _ t84 w =>
        wPick t78 t84 (.bool false) w fun t85 w =>
        k t85 w)))

theorem call_law05_CodecPointers (a0 a1 : Value) {w : World} {k : Value → World → Prop} (h : F_law05_CodecPointers a0 a1 w k) : wCall P n_law05_CodecPointers [a0, a1] w k :=
  call_of_den mixedP Try.func8 (by kernel_rfl) (.s .z (.s .z (.s .z (.s .z (.s (.s (.r (.ops [0, 1, 2, 3] (.grp 3 false 33 [30, 31, 32] (.ops [4, 5, 6, 7] .nil) (.ops [8, 9] (.grp 9 false 41 [36, 37, 38, 39, 40] (.ops [10, 11, 12] (.grp 12 true 40 [39] (.ops [13, 14] .nil) (.ops [15] .nil))) (.ops [16] .nil)))))) .z) (.s (.s .z (.s (.r (.ops [0, 1] (.grp 1 true 56 [50, 51, 52, 53, 54, 55] (.ops [2, 3, 4] (.grp 4 false 55 [53, 54] (.ops [5, 6, 7] .nil) (.ops [8] .nil))) (.ops [9] .nil)))) .z)) (.s .z (.s .z (.s .z (.s (.r (.ops [0, 1, 2, 3] (.grp 3 true 77 [74, 75, 76] (.ops [4, 5, 6, 7] .nil) (.ops [8, 9] (.grp 9 true 84 [80, 81, 82, 83] (.ops [10, 11] (.grp 11 false 83 [82] (.ops [12, 13] .nil) (.ops [14] .nil))) (.ops [15, 16] .nil)))))) .z)))))))))) (by kernel_rfl) (Eq.mp (by kernel_rfl) h)

def F_law05_CodecUses (a0 a1 : Value) (w : World) (k : Value → World → Prop) : Prop :=
  wCall P n_law05_awake [] w fun t16 w =>
  wUn P .not t16 w fun t17 w =>
  wIf t17 (
    k (.bool false) w) (
    wJ1 (fun k2 =>
      wLen P .len #[T_Lref05_Use] [a0] w fun t19 w =>
      wBin P .gtr T_int t19 (.int .i64 20) w fun t20 w =>
      wIf t20 (
        wSlice P T_Lref05_Use a0 none (some (.int .i64 20)) none w fun t22 w =>
        k2 t22 w) (
        k2 a0 w)) fun _ v0 w =>
    wJ1 (fun k2 =>
      wLen P .len #[T_Lref05_Use] [v0] w fun t24 w =>
      wL2 (.slice none 0 0) (.int .i64 0) w (fun _ v5 v25 w k3 =>
        wBin P .lss T_int v25 t24 w fun t26 w =>
        wIf t26 (
          wIndexA P T_Lref05_Use v0 v25 w fun t27 w =>
          wLoad P T_ref05_Use t27 w fun t28 w =>
          wAlloc P T_ref05_Use w fun t7 w =>
          wStore P T_ref05_Use t7 t28 w fun w =>
          wFieldA P T_ref05_Use t7 0 w fun t30 w =>
          wLoad P T_int t30 w fun t31 w =>
          wFieldA P T_ref05_Use t7 1 w fun t32 w =>
          wLoad P T_int t32 w fun t33 w =>
          wFieldA P T_ref05_Use t7 2 w fun t34 w =>
          wLoad P T_uint32 t34 w fun t35 w =>
          wBuild P T_codec_Use [(0, t31), (1, t33), (2, t35)] w fun t36 w =>
          wBuildS P T_Lcodec_Use 1 [(0, t36)] w fun t37 w =>
          wBuiltin P .append #[T_Lcodec_Use, T_Lcodec_Use] [v5, t37] w fun t38 w =>
          wBin P .add T_int v25 (.int .i64 1) w fun t39 w =>
          k3 t38 t39 w) (
          k2 v5 w))) fun _ v5 w =>
    wCall P n_codec_WriteUses [v5] w fun t42 w =>
    wExtract P t42 0 w fun t43 w =>
    wExtract P t42 1 w fun t44 w =>
    wAlloc P T_api_Sector w fun t8 w =>
    wStore P T_api_Sector t8 t43 w fun w =>
    wCall P n_ref05_WriteUses [v0] w fun t47 w =>
    wExtract P t47 0 w fun t48 w =>
    wExtract P t47 1 w fun t49 w =>
    wAlloc P T_A128uint8 w fun t10 w =>
    wStore P T_A128uint8 t10 t48 w fun w =>
    wLoad P T_api_Sector t8 w fun t50 w =>
    wLoad P T_A128uint8 t10 w fun t51 w =>
    wBin P .neq T_api_Sector t50 t51 w fun t52 w =>
    wGrp t52 false (fun k57 =>
      wBin P .eql T_api_Errno t44 (.int .i64 0) w fun t55 w =>
      wBin P .neq T_bool t55 t49 w fun t57 w =>
      k57 t57 w) w fun _ t57 w =>
    wPick t52 (.bool true) t57 w fun t58 w =>
    wGrp t58 false (fun k65 =>
      wUn P .not t49 w fun t61 w =>
      wGrp t61 true (fun k64 =>
        wBin P .neq T_api_Errno t44 (.int .i64 1) w fun t64 w =>
        k64 t64 w) w fun _ t64 w =>
      wPick t61 t64 (.bool false) w fun t65 w =>
      k65 t65 w) w fun _ t65 w =>
    wPick t58 (.bool true) t65 w fun t66 w =>
    wIf t66 (
      k (.bool false) w) (
      wLoad P T_api_Sector t8 w fun t67 w =>
      wCall P n_law05_turn [t67, a1] w fun t69 w =>
      wAlloc P T_api_Sector w fun t12 w =>
      wStore P T_api_Sector t12 t69 w fun w =>
      wJ0 (fun k3 =>
        wLen P .len #[T_Luint8] [a1] w fun t71 w =>
        wBin P .eql T_int t71 (.int .i64 0) w fun t72 w =>
        wIf t72 (
          wLoad P T_api_Sector t8 w fun t73 w =>
          wStore P T_api_Sector t12 t73 w fun w =>
          k3 w) (
          k3 w)) fun _ w =>
      wLoad P T_api_Sector t12 w fun t75 w =>
      wCall P n_codec_ReadUses [t75] w fun t76 w =>
      wExtract P t76 0 w fun t77 w =>
      wExtract P t76 1 w fun t78 w =>
      wLoad P T_api_Sector t12 w fun t80 w =>
      wCall P n_ref05_ReadUses [t80] w fun t81 w =>
      wExtract P t81 0 w fun t82 w =>
      wExtract P t81 1 w fun t83 w =>
      wLen P .len #[T_Lcodec_Use] [t77] w fun t85 w =>
      wLen P .len #[T_Lref05_Use] [t82] w fun t87 w =>
      wBin P .neq T_int t85 t87 w fun t88 w =>
      wGrp t88 false (fun k93 =>
        wBin P .eql T_api_Errno t78 (.int .i64 0) w fun t91 w =>
        wBin P .neq T_bool t91 t83 w fun t93 w =>
        k93 t93 w) w fun _ t93 w =>
      wPick t88 (.bool true) t93 w fun t94 w =>
      wGrp t94 false (fun k101 =>
        wUn P .not t83 w fun t97 w =>
        wGrp t97 true (fun k100 =>
          wBin P .neq T_api_Errno t78 (.int .i64 21) w fun t100 w =>
          k100 t100 w) w fun _ t100 w =>
        wPick t97 t100 (.bool false) w fun t101 w =>
        k101 t101 w) w fun _ t101 w =>
      wPick t94 (.bool true) t101 w fun t102 w =>
      wIf t102 (
        k (.bool false) w) (
        wLen P .len #[T_Lcodec_Use] [t77] w fun t104 w =>
        wL1 (.int .i64 0) w (fun _ v105 w k4 =>
          wBin P .lss T_int v105 t104 w fun t106 w =>
          wIf t106 (
            wDraw w fun w =>
            wIndexA P T_Lcodec_Use t77 v105 w fun t110 w =>
            wFieldA P T_codec_Use t110 0 w fun t111 w =>
            wLoad P T_int t111 w fun t112 w =>
            wIndexA P T_Lref05_Use t82 v105 w fun t115 w =>
            wFieldA P T_ref05_Use t115 0 w fun t116 w =>
            wLoad P T_int t116 w fun t117 w =>
            wBin P .neq T_int t112 t117 w fun t118 w =>
            wGrp t118 false (fun k130 =>
              wIndexA P T_Lcodec_Use t77 v105 w fun t122 w =>
              wFieldA P T_codec_Use t122 1 w fun t123 w =>
              wLoad P T_int t123 w fun t124 w =>
              wIndexA P T_Lref05_Use t82 v105 w fun t127 w =>
              wFieldA P T_ref05_Use t127 1 w fun t128 w =>
              wLoad P T_int t128 w fun t129 w =>
              wBin P .neq T_int t124 t129 w fun t130 w =>
              k130 t130 w) w fun _ t130 w =>
            wPick t118 (.bool true) t130 w fun t131 w =>
            wGrp t131 false (fun k143 =>
              wIndexA P T_Lcodec_Use t77 v105 w fun t135 w =>
              wFieldA P T_codec_Use t135 2 w fun t136 w =>
              wLoad P T_uint32 t136 w fun t137 w =>
              wIndexA P T_Lref05_Use t82 v105 w fun t140 w =>
              wFieldA P T_ref05_Use t140 2 w fun t141 w =>
              wLoad P T_uint32 t141 w fun t142 w =>
              wBin P .neq T_uint32 t137 t142 w fun t143 w =>
              k143 t143 w) w fun _ t143 w =>
            wPick t131 (.bool true) t143 w fun t144 w =>
            wIf t144 (
              k (.bool false) w) (
              wBin P .add T_int v105 (.int .i64 1) w fun t145 w =>
              k4 t145 w)) (
            k (.bool true) w)))))

theorem call_law05_CodecUses (a0 a1 : Value) {w : World} {k : Value → World → Prop} (h : F_law05_CodecUses a0 a1 w k) : wCall P n_law05_CodecUses [a0, a1] w k :=
  call_of_den mixedP Try.func9 (by kernel_rfl) (.s .z (.s .z (.j [0] [1] .z (.s .z (.j [5] [0, 1] (.s .z (.b (.l [5, 25] [0, 1, 23, 24] .z))) (.s .z (.s .z (.s (.s (.r (.ops [0, 1, 2, 3] (.grp 3 false 57 [54, 55, 56] (.ops [4, 5, 6, 7] .nil) (.ops [8, 9] (.grp 9 false 65 [60, 61, 62, 63, 64] (.ops [10, 11, 12] (.grp 12 true 64 [63] (.ops [13, 14] .nil) (.ops [15] .nil))) (.ops [16] .nil)))))) .z) (.s .z (.j [] [12] .z (.s .z (.s .z (.s (.s (.r (.ops [0, 1, 2, 3, 4, 5] (.grp 5 false 93 [90, 91, 92] (.ops [6, 7, 8, 9] .nil) (.ops [10, 11] (.grp 11 false 101 [96, 97, 98, 99, 100] (.ops [12, 13, 14] (.grp 14 true 100 [99] (.ops [15, 16] .nil) (.ops [17] .nil))) (.ops [18] .nil)))))) .z) (.s (.s .z (.b (.l [105] [13, 14, 104] (.s .z (.s .z (.s (.b (.s .z (.s (.r (.ops [0, 1, 2, 3, 4, 5, 6, 7, 8, 9, 10, 11] (.grp 11 false 130 [120, 121, 122, 123, 124, 125, 126, 127, 128, 129] (.ops [12, 13, 14, 15, 16, 17, 18, 19, 20, 21, 22] .nil) (.ops [23, 24] (.grp 24 false 143 [133, 134, 135, 136, 137, 138, 139, 140, 141, 142] (.ops [25, 26, 27, 28, 29, 30, 31, 32, 33, 34, 35] .nil) (.ops [36] .nil)))))) .z))) .z)))))) .z)))))))))))))) (by kernel_rfl) (Eq.mp (by kernel_rfl) h)

def F_law05_CodecSlots (a0 a1 : Value) (w : World) (k : Value → World → Prop) : Prop :=
  wCall P n_law05_awake [] w fun t16 w =>
  wUn P .not t16 w fun t17 w =>
  wIf t17 (
    k (.bool false) w) (
    wJ1 (fun k2 =>
      wLen P .len #[T_Lref05_Slot] [a0] w fun t19 w =>
      wBin P .gtr T_int t19 (.int .i64 14) w fun t20 w =>
      wIf t20 (
        wSlice P T_Lref05_Slot a0 none (some (.int .i64 14)) none w fun t22 w =>
        k2 t22 w) (
        k2 a0 w)) fun _ v0 w =>
    wJ1 (fun k2 =>
      wLen P .len #[T_Lref05_Slot] [v0] w fun t24 w =>
      wL2 (.slice none 0 0) (.int .i64 0) w (fun _ v5 v25 w k3 =>
        wBin P .lss T_int v25 t24 w fun t26 w =>
        wIf t26 (
          wIndexA P T_Lref05_Slot v0 v25 w fun t27 w =>
          wLoad P T_ref05_Slot t27 w fun t28 w =>
          wAlloc P T_ref05_Slot w fun t7 w =>
          wStore P T_ref05_Slot t7 t28 w fun w =>
          wFieldA P T_ref05_Slot t7 0 w fun t30 w =>
          wLoad P T_int t30 w fun t31 w =>
          wFieldA P T_ref05_Slot t7 1 w fun t32 w =>
          wLoad P T_uint32 t32 w fun t33 w =>
          wFieldA P T_ref05_Slot t7 2 w fun t34 w =>
          wLoad P T_int t34 w fun t35 w =>
          wFieldA P T_ref05_Slot t7 3 w fun t36 w =>
          wLoad P T_int t36 w fun t37 w =>
          wBuild P T_codec_Slot [(0, t31), (1, t33), (2, t35), (3, t37)] w fun t38 w =>
          wBuildS P T_Lcodec_Slot 1 [(0, t38)] w fun t39 w =>
          wBuiltin P .append #[T_Lcodec_Slot, T_Lcodec_Slot] [v5, t39] w fun t40 w =>
          wBin P .add T_int v25 (.int .i64 1) w fun t41 w =>
          k3 t40 t41 w) (
          k2 v5 w))) fun _ v5 w =>
    wCall P n_codec_WriteSlots [v5] w fun t44 w =>
    wExtract P t44 0 w fun t45 w =>
    wExtract P t44 1 w fun t46 w =>
    wAlloc P T_api_Sector w fun t8 w =>
    wStore P T_api_Sector t8 t45 w fun w =>
    wCall P n_ref05_WriteSlots [v0] w fun t49 w =>
    wExtract P t49 0 w fun t50 w =>
    wExtract P t49 1 w fun t51 w =>
    wAlloc P T_A128uint8 w fun t10 w =>
    wStore P T_A128uint8 t10 t50 w fun w =>
    wLoad P T_api_Sector t8 w fun t52 w =>
    wLoad P T_A128uint8 t10 w fun t53 w =>
    wBin P .neq T_api_Sector t52 t53 w fun t54 w =>
    wGrp t54 false (fun k59 =>
      wBin P .eql T_api_Errno t46 (.int .i64 0) w fun t57 w =>
      wBin P .neq T_bool t57 t51 w fun t59 w =>
      k59 t59 w) w fun _ t59 w =>
    wPick t54 (.bool true) t59 w fun t60 w =>
    wGrp t60 false (fun k67 =>
      wUn P .not t51 w fun t63 w =>
      wGrp t63 true (fun k66 =>
        wBin P .neq T_api_Errno t46 (.int .i64 1) w fun t66 w =>
        k66 t66 w) w fun _ t66 w =>
      wPick t63 t66 (.bool false) w fun t67 w =>
      k67 t67 w) w fun _ t67 w =>
    wPick t60 (.bool true) t67 w fun t68 w =>
    wIf t68 (
      k (.bool false) w) (
      wLoad P T_api_Sector t8 w fun t69 w =>
      wCall P n_law05_turn [t69, a1] w fun t71 w =>
      wAlloc P T_api_Sector w fun t12 w =>
      wStore P T_api_Sector t12 t71 w fun w =>
      wJ0 (fun k3 =>
        wLen P .len #[T_Luint8] [a1] w fun t73 w =>
        wBin P .eql T_int t73 (.int .i64 0) w fun t74 w =>
        wIf t74 (
          wLoad P T_api_Sector t8 w fun t75 w =>
          wStore P T_api_Sector t12 t75 w fun w =>
          k3 w) (
          k3 w)) fun _ w =>
      wLoad P T_api_Sector t12 w fun t77 w =>
      wCall P n_codec_ReadSlots [t77] w fun t78 w =>
      wExtract P t78 0 w fun t79 w =>
      wExtract P t78 1 w fun t80 w =>
      wLoad P T_api_Sector t12 w fun t82 w =>
      wCall P n_ref05_ReadSlots [t82] w fun t83 w =>
      wExtract P t83 0 w fun t84 w =>
      wExtract P t83 1 w fun t85 w =>
      wLen P .len #[T_Lcodec_Slot] [t79] w fun t87 w =>
      wLen P .len #[T_Lref05_Slot] [t84] w fun t89 w =>
      wBin P .neq T_int t87 t89 w fun t90 w =>
      wGrp t90 false (fun k95 =>
        wBin P .eql T_api_Errno t80 (.int .i64 0) w fun t93 w =>
        wBin P .neq T_bool t93 t85 w fun t95 w =>
        k95 t95 w) w fun _ t95 w =>
      wPick t90 (.bool true) t95 w fun t96 w =>
      wGrp t96 false (fun k103 =>
        wUn P .not t85 w fun t99 w =>
        wGrp t99 true (fun k102 =>
          wBin P .neq T_api_Errno t80 (.int .i64 21) w fun t102 w =>
          k102 t102 w) w fun _ t102 w =>
        wPick t99 t102 (.bool false) w fun t103 w =>
        k103 t103 w) w fun _ t103 w =>
      wPick t96 (.bool true) t103 w fun t104 w =>
      wIf t104 (
        k (.bool false) w) (
        wLen P .len #[T_Lcodec_Slot] [t79] w fun t106 w =>
        wL1 (.int .i64 0) w (fun _ v107 w k4 =>
          wBin P .lss T_int v107 t106 w fun t108 w =>
          wIf t108 (
            wDraw w fun w =>
            wIndexA P T_Lcodec_Slot t79 v107 w fun t112 w =>
            wFieldA P T_codec_Slot t112 0 w fun t113 w =>
            wLoad P T_int t113 w fun t114 w =>
            wIndexA P T_Lref05_Slot t84 v107 w fun t117 w =>
            wFieldA P T_ref05_Slot t117 0 w fun t118 w =>
            wLoad P T_int t118 w fun t119 w =>
            wBin P .neq T_int t114 t119 w fun t120 w =>
            wGrp t120 false (fun k132 =>
              wIndexA P T_Lcodec_Slot t79 v107 w fun t124 w =>
              wFieldA P T_codec_Slot t124 1 w fun t125 w =>
              wLoad P T_uint32 t125 w fun t126 w =>
              wIndexA P T_Lref05_Slot t84 v107 w fun t129 w =>
              wFieldA P T_ref05_Slot t129 1 w fun t130 w =>
              wLoad P T_uint32 t130 w fun t131 w =>
              wBin P .neq T_uint32 t126 t131 w fun t132 w =>
              k132 t132 w) w fun _ t132 w =>
            wPick t120 (.bool true) t132 w fun t133 w =>
            wGrp t133 false (fun k145 =>
              wIndexA P T_Lcodec_Slot t79 v107 w fun t137 w =>
              wFieldA P T_codec_Slot t137 2 w fun t138 w =>
              wLoad P T_int t138 w fun t139 w =>
              wIndexA P T_Lref05_Slot t84 v107 w fun t142 w =>
              wFieldA P T_ref05_Slot t142 2 w fun t143 w =>
              wLoad P T_int t143 w fun t144 w =>
              wBin P .neq T_int t139 t144 w fun t145 w =>
              k145 t145 w) w fun _ t145 w =>
            wPick t133 (.bool true) t145 w fun t146 w =>
            wGrp t146 false (fun k158 =>
              wIndexA P T_Lcodec_Slot t79 v107 w fun t150 w =>
              wFieldA P T_codec_Slot t150 3 w fun t151 w =>
              wLoad P T_int t151 w fun t152 w =>
              wIndexA P T_Lref05_Slot t84 v107 w fun t155 w =>
              wFieldA P T_ref05_Slot t155 3 w fun t156 w =>
              wLoad P T_int t156 w fun t157 w =>
              wBin P .neq T_int t152 t157 w fun t158 w =>
              k158 t158 w) w fun _ t158 w =>
            wPick t146 (.bool true) t158 w fun t159 w =>
            wIf t159 (
              k (.bool false) w) (
              wBin P .add T_int v107 (.int .i64 1) w fun t160 w =>
              k4 t160 w)) (
            k (.bool true) w)))))

theorem call_law05_CodecSlots (a0 a1 : Value) {w : World} {k : Value → World → Prop} (h : F_law05_CodecSlots a0 a1 w k) : wCall P n_law05_CodecSlots [a0, a1] w k :=
  call_of_den mixedP Try.func11 (by kernel_rfl) (.s .z (.s .z (.j [0] [1] .z (.s .z (.j [5] [0, 1] (.s .z (.b (.l [5, 25] [0, 1, 23, 24] .z))) (.s .z (.s .z (.s (.s (.r (.ops [0, 1, 2, 3] (.grp 3 false 59 [56, 57, 58] (.ops [4, 5, 6, 7] .nil) (.ops [8, 9] (.grp 9 false 67 [62, 63, 64, 65, 66] (.ops [10, 11, 12] (.grp 12 true 66 [65] (.ops [13, 14] .nil) (.ops [15] .nil))) (.ops [16] .nil)))))) .z) (.s .z (.j [] [12] .z (.s .z (.s .z (.s (.s (.r (.ops [0, 1, 2, 3, 4, 5] (.grp 5 false 95 [92, 93, 94] (.ops [6, 7, 8, 9] .nil) (.ops [10, 11] (.grp 11 false 103 [98, 99, 100, 101, 102] (.ops [12, 13, 14] (.grp 14 true 102 [101] (.ops [15, 16] .nil) (.ops [17] .nil))) (.ops [18] .nil)))))) .z) (.s (.s .z (.b (.l [107] [13, 14, 106] (.s .z (.s .z (.s (.b (.s .z (.s (.r (.ops [0, 1, 2, 3, 4, 5, 6, 7, 8, 9, 10, 11] (.grp 11 false 132 [122, 123, 124, 125, 126, 127, 128, 129, 130, 131] (.ops [12, 13, 14, 15, 16, 17, 18, 19, 20, 21, 22] .nil) (.ops [23, 24] (.grp 24 false 145 [135, 136, 137, 138, 139, 140, 141, 142, 143, 144] (.ops [25, 26, 27, 28, 29, 30, 31, 32, 33, 34, 35] .nil) (.ops [36, 37] (.grp 37 false 158 [148, 149, 150, 151, 152, 153, 154, 155, 156, 157] (.ops [38, 39, 40, 41, 42, 43, 44, 45, 46, 47, 48] .nil) (.ops [49] .nil)))))))) .z))) .z)))))) .z)))))))))))))) (by kernel_rfl) (Eq.mp (by kernel_rfl) h)

def F_law05_CodecRecords (a0 a1 : Value) (w : World) (k : Value → World → Prop) : Prop :=
  wCall P n_law05_awake [] w fun t16 w =>
  wUn P .not t16 w fun t17 w =>
  wIf t17 (
    k (.bool false) w) (
    wJ1 (fun k2 =>
      wLen P .len #[T_Lref05_Record] [a0] w fun t19 w =>
      wBin P .gtr T_int t19 (.int .i64 20) w fun t20 w =>
      wIf t20 (
        wSlice P T_Lref05_Record a0 none (some (.int .i64 20)) none w fun t22 w =>
        k2 t22 w) (
        k2 a0 w)) fun _ v0 w =>
    wJ1 (fun k2 =>
      wLen P .len #[T_Lref05_Record] [v0] w fun t24 w =>
      wL2 (.slice none 0 0) (.int .i64 0) w (fun _ v5 v25 w k3 =>
        wBin P .lss T_int v25 t24 w fun t26 w =>
        wIf t26 (
          wIndexA P T_Lref05_Record v0 v25 w fun t27 w =>
          wLoad P T_ref05_Record t27 w fun t28 w =>
          wAlloc P T_ref05_Record w fun t7 w =>
          wStore P T_ref05_Record t7 t28 w fun w =>
          wFieldA P T_ref05_Record t7 0 w fun t30 w =>
          wLoad P T_uint32 t30 w fun t31 w =>
          wFieldA P T_ref05_Record t7 1 w fun t32 w =>
          wLoad P T_uint32 t32 w fun t33 w =>
          wFieldA P T_ref05_Record t7 2 w fun t34 w =>
          wLoad P T_int t34 w fun t35 w =>
          wFieldA P T_ref05_Record t7 3 w fun t36 w =>
          wLoad P T_int t36 w fun t37 w =>
          wBuild P T_codec_Record [(0, t31), (1, t33), (2, t35), (3, t37)] w fun t38 w =>
          wBuildS P T_Lcodec_Record 1 [(0, t38)] w fun t39 w =>
          wBuiltin P .append #[T_Lcodec_Record, T_Lcodec_Record] [v5, t39] w fun t40 w =>
          wBin P .add T_int v25 (.int .i64 1) w fun t41 w =>
          k3 t40 t41 w) (
          k2 v5 w))) fun _ v5 w =>
    wCall P n_codec_WriteRecords [v5] w fun t44 w =>
    wExtract P t44 0 w fun t45 w =>
    wExtract P t44 1 w fun t46 w =>
    wAlloc P T_api_Sector w fun t8 w =>
    wStore P T_api_Sector t8 t45 w fun w =>
    wCall P n_ref05_WriteRecords [v0] w fun t49 w =>
    wExtract P t49 0 w fun t50 w =>
    wExtract P t49 1 w fun t51 w =>
    wAlloc P T_A128uint8 w fun t10 w =>
    wStore P T_A128uint8 t10 t50 w fun w =>
    wLoad P T_api_Sector t8 w fun t52 w =>
    wLoad P T_A128uint8 t10 w fun t53 w =>
    wBin P .neq T_api_Sector t52 t53 w fun t54 w =>
    wGrp t54 false (fun k59 =>
      wBin P .eql T_api_Errno t46 (.int .i64 0) w fun t57 w =>
      wBin P .neq T_bool t57 t51 w fun t59 w =>
      k59 t59 w) w fun _ t59 w =>
    wPick t54 (.bool true) t59 w fun t60 w =>
    wGrp t60 false (fun k67 =>
      wUn P .not t51 w fun t63 w =>
      wGrp t63 true (fun k66 =>
        wBin P .neq T_api_Errno t46 (.int .i64 1) w fun t66 w =>
        k66 t66 w) w fun _ t66 w =>
      wPick t63 t66 (.bool false) w fun t67 w =>
      k67 t67 w) w fun _ t67 w =>
    wPick t60 (.bool true) t67 w fun t68 w =>
    wIf t68 (
      k (.bool false) w) (
      wLoad P T_api_Sector t8 w fun t69 w =>
      wCall P n_law05_turn [t69, a1] w fun t71 w =>
      wAlloc P T_api_Sector w fun t12 w =>
      wStore P T_api_Sector t12 t71 w fun w =>
      wJ0 (fun k3 =>
        wLen P .len #[T_Luint8] [a1] w fun t73 w =>
        wBin P .eql T_int t73 (.int .i64 0) w fun t74 w =>
        wIf t74 (
          wLoad P T_api_Sector t8 w fun t75 w =>
          wStore P T_api_Sector t12 t75 w fun w =>
          k3 w) (
          k3 w)) fun _ w =>
      wLoad P T_api_Sector t12 w fun t77 w =>
      wCall P n_codec_ReadRecords [t77] w fun t78 w =>
      wExtract P t78 0 w fun t79 w =>
      wExtract P t78 1 w fun t80 w =>
      wLoad P T_api_Sector t12 w fun t82 w =>
      wCall P n_ref05_ReadRecords [t82] w fun t83 w =>
      wExtract P t83 0 w fun t84 w =>
      wExtract P t83 1 w fun t85 w =>
      wLen P .len #[T_Lcodec_Record] [t79] w fun t87 w =>
      wLen P .len #[T_Lref05_Record] [t84] w fun t89 w =>
      wBin P .neq T_int t87 t89 w fun t90 w =>
      wGrp t90 false (fun k95 =>
        wBin P .eql T_api_Errno t80 (.int .i64 0) w fun t93 w =>
        wBin P .neq T_bool t93 t85 w fun t95 w =>
        k95 t95 w) w fun _ t95 w =>
      wPick t90 (.bool true) t95 w fun t96 w =>
      wGrp t96 false (fun k103 =>
        wUn P .not t85 w fun t99 w =>
        wGrp t99 true (fun k102 =>
          wBin P .neq T_api_Errno t80 (.int .i64 21) w fun t102 w =>
          k102 t102 w) w fun _ t102 w =>
        wPick t99 t102 (.bool false) w fun t103 w =>
        k103 t103 w) w fun _ t103 w =>
      wPick t96 (.bool true) t103 w fun t104 w =>
      wIf t104 (
        k (.bool false) w) (
        wLen P .len #[T_Lcodec_Record] [t79] w fun t106 w =>
        wL1 (.int .i64 0) w (fun _ v107 w k4 =>
          wBin P .lss T_int v107 t106 w fun t108 w =>
          wIf t108 (
            wDraw w fun w =>
            wIndexA P T_Lcodec_Record t79 v107 w fun t112 w =>
            wFieldA P T_codec_Record t112 0 w fun t113 w =>
            wLoad P T_uint32 t113 w fun t114 w =>
            wIndexA P T_Lref05_Record t84 v107 w fun t117 w =>
            wFieldA P T_ref05_Record t117 0 w fun t118 w =>
            wLoad P T_uint32 t118 w fun t119 w =>
            wBin P .neq T_uint32 t114 t119 w fun t120 w =>
            wGrp t120 false (fun k132 =>
              wIndexA P T_Lcodec_Record t79 v107 w fun t124 w =>
              wFieldA P T_codec_Record t124 1 w fun t125 w =>
              wLoad P T_uint32 t125 w fun t126 w =>
              wIndexA P T_Lref05_Record t84 v107 w fun t129 w =>
              wFieldA P T_ref05_Record t129 1 w fun t130 w =>
              wLoad P T_uint32 t130 w fun t131 w =>
              wBin P .neq T_uint32 t126 t131 w fun t132 w =>
              k132 t132 w) w fun _ t132 w =>
            wPick t120 (.bool true) t132 w fun t133 w =>
            wGrp t133 false (fun k145 =>
              wIndexA P T_Lcodec_Record t79 v107 w fun t137 w =>
              wFieldA P T_codec_Record t137 2 w fun t138 w =>
              wLoad P T_int t138 w fun t139 w =>
              wIndexA P T_Lref05_Record t84 v107 w fun t142 w =>
              wFieldA P T_ref05_Record t142 2 w fun t143 w =>
              wLoad P T_int t143 w fun t144 w =>
              wBin P .neq T_int t139 t144 w fun t145 w =>
              k145 t145 w) w fun _ t145 w =>
            wPick t133 (.bool true) t145 w fun t146 w =>
            wGrp t146 false (fun k158 =>
              wIndexA P T_Lcodec_Record t79 v107 w fun t150 w =>
              wFieldA P T_codec_Record t150 3 w fun t151 w =>
              wLoad P T_int t151 w fun t152 w =>
              wIndexA P T_Lref05_Record t84 v107 w fun t155 w =>
              wFieldA P T_ref05_Record t155 3 w fun t156 w =>
              wLoad P T_int t156 w fun t157 w =>
              wBin P .neq T_int t152 t157 w fun t158 w =>
              k158 t158 w) w fun _ t158 w =>
            wPick t146 (.bool true) t158 w fun t159 w =>
            wIf t159 (
              k (.bool false) w) (
              wBin P .add T_int v107 (.int .i64 1) w fun t160 w =>
              k4 t160 w)) (
            k (.bool true) w)))))

theorem call_law05_CodecRecords (a0 a1 : Value) {w : World} {k : Value → World → Prop} (h : F_law05_CodecRecords a0 a1 w k) : wCall P n_law05_CodecRecords [a0, a1] w k :=
  call_of_den mixedP Try.func12 (by kernel_rfl) (.s .z (.s .z (.j [0] [1] .z (.s .z (.j [5] [0, 1] (.s .z (.b (.l [5, 25] [0, 1, 23, 24] .z))) (.s .z (.s .z (.s (.s (.r (.ops [0, 1, 2, 3] (.grp 3 false 59 [56, 57, 58] (.ops [4, 5, 6, 7] .nil) (.ops [8, 9] (.grp 9 false 67 [62, 63, 64, 65, 66] (.ops [10, 11, 12] (.grp 12 true 66 [65] (.ops [13, 14] .nil) (.ops [15] .nil))) (.ops [16] .nil)))))) .z) (.s .z (.j [] [12] .z (.s .z (.s .z (.s (.s (.r (.ops [0, 1, 2, 3, 4, 5] (.grp 5 false 95 [92, 93, 94] (.ops [6, 7, 8, 9] .nil) (.ops [10, 11] (.grp 11 false 103 [98, 99, 100, 101, 102] (.ops [12, 13, 14] (.grp 14 true 102 [101] (.ops [15, 16] .nil) (.ops [17] .nil))) (.ops [18] .nil)))))) .z) (.s (.s .z (.b (.l [107] [13, 14, 106] (.s .z (.s .z (.s (.b (.s .z (.s (.r (.ops [0, 1, 2, 3, 4, 5, 6, 7, 8, 9, 10, 11] (.grp 11 false 132 [122, 123, 124, 125, 126, 127, 128, 129, 130, 131] (.ops [12, 13, 14, 15, 16, 17, 18, 19, 20, 21, 22] .nil) (.ops [23, 24] (.grp 24 false 145 [135, 136, 137, 138, 139, 140, 141, 142, 143, 144] (.ops [25, 26, 27, 28, 29, 30, 31, 32, 33, 34, 35] .nil) (.ops [36, 37] (.grp 37 false 158 [148, 149, 150, 151, 152, 153, 154, 155, 156, 157] (.ops [38, 39, 40, 41, 42, 43, 44, 45, 46, 47, 48] .nil) (.ops [49] .nil)))))))) .z))) .z)))))) .z)))))))))))))) (by kernel_rfl) (Eq.mp (by kernel_rfl) h)

def F_law05_CodecSummaries (a0 a1 : Value) (w : World) (k : Value → World → Prop) : Prop :=
  wBox P T_ref05_Summary a0 w fun t2 w =>
  wCall P n_law05_awake [] w fun t14 w =>
  wUn P .not t14 w fun t15 w =>
  wIf t15 (
    k (.bool false) w) (
    wJ0 (fun k2 =>
      wFieldA P T_ref05_Summary t2 5 w fun t16 w =>
      wLoad P T_Lref05_Entry t16 w fun t17 w =>
      wLen P .len #[T_Lref05_Entry] [t17] w fun t18 w =>
      wBin P .gtr T_int t18 (.int .i64 12) w fun t19 w =>
      wIf t19 (
        wFieldA P T_ref05_Summary t2 5 w fun t20 w =>
        wLoad P T_Lref05_Entry t20 w fun t21 w =>
        wSlice P T_Lref05_Entry t21 none (some (.int .i64 12)) none w fun t22 w =>
        wFieldA P T_ref05_Summary t2 5 w fun t23 w =>
        wStore P T_Lref05_Entry t23 t22 w fun w =>
        k2 w) (
        k2 w)) fun _ w =>
    wLoad P T_ref05_Summary t2 w fun t25 w =>
    wCall P n_law05_Summary [t25] w fun t26 w =>
    wCall P n_codec_WriteSummary [t26] w fun t27 w =>
    wExtract P t27 0 w fun t28 w =>
    wExtract P t27 1 w fun t29 w =>
    wAlloc P T_api_Sector w fun t5 w =>
    wStore P T_api_Sector t5 t28 w fun w =>
    wLoad P T_ref05_Summary t2 w fun t31 w =>
    wCall P n_ref05_WriteSummary [t31] w fun t32 w =>
    wExtract P t32 0 w fun t33 w =>
    wExtract P t32 1 w fun t34 w =>
    wAlloc P T_A128uint8 w fun t7 w =>
    wStore P T_A128uint8 t7 t33 w fun w =>
    wLoad P T_api_Sector t5 w fun t35 w =>
    wLoad P T_A128uint8 t7 w fun t36 w =>
    wBin P .neq T_api_Sector t35 t36 w fun t37 w =>
    wGrp t37 false (fun k42 =>
      wBin P .eql T_api_Errno t29 (.int .i64 0) w fun t40 w =>
      wBin P .neq T_bool t40 t34 w fun t42 w =>
      k42 t42 w) w fun _ t42 w =>
    wPick t37 (.bool true) t42 w fun t43 w =>
    wGrp t43 false (fun k50 =>
      wUn P .not t34 w fun t46 w =>
      wGrp t46 true (fun k49 =>
        wBin P .neq T_api_Errno t29 (.int .i64 1) w fun t49 w =>
        k49 t49 w) w fun _ t49 w =>
      wPick t46 t49 (.bool false) w fun t50 w =>
      k50 t50 w) w fun _ t50 w =>
    wPick t43 (.bool true) t50 w fun t51 w =>
    wIf t51 (
      k (.bool false) w) (
      wLoad P T_api_Sector t5 w fun t53 w =>
      wCall P n_codec_ReadSummary [t53] w fun t54 w =>
      wExtract P t54 0 w fun t55 w =>
      wExtract P t54 1 w fun t56 w =>
      wAlloc P T_codec_Summary w fun t9 w =>
      wStore P T_codec_Summary t9 t55 w fun w =>
      wDraw w fun w =>
      wGrp t34 true (fun k67 =>
        wBin P .neq T_api_Errno t56 (.int .i64 0) w fun t60 w =>
        wGrp t60 false (fun k66 =>
          wLoad P T_codec_Summary t9 w fun t62 w =>
          wLoad P T_ref05_Summary t2 w fun t64 w =>
          wCall P n_law05_Told [t62] w fun t63 w =>
          wKeep P [(T_ref05_Summary, t2, t64)] w ∧ wCall P n_law05_same [t63, t64] w fun t65 w =>
          wUn P .not t65 w fun t66 w =>
          k66 t66 w) w fun _ t66 w =>
        wPick t60 (.bool true) t66 w fun t67 w =>
        k67 t67 w) w fun _ t67 w =>
      wPick t34 t67 (.bool false) w fun t68 w =>
      wIf t68 (
        k (.bool false) w) (
        wLoad P T_api_Sector t5 w fun t69 w =>
        wCall P n_law05_turn [t69, a1] w fun t71 w =>
        wAlloc P T_api_Sector w fun t11 w =>
        wStore P T_api_Sector t11 t71 w fun w =>
        wLoad P T_api_Sector t11 w fun t73 w =>
        wCall P n_codec_ReadSummary [t73] w fun t74 w =>
        wExtract P t74 0 w fun t75 w =>
        wExtract P t74 1 w fun t76 w =>
        wAlloc P T_codec_Summary w fun t12 w =>
        wStore P T_codec_Summary t12 t75 w fun w =>
        wLoad P T_api_Sector t11 w fun t78 w =>
        wCall P n_ref05_ReadSummary [t78] w fun t79 w =>
        wExtract P t79 0 w fun t80 w =>
        wExtract P t79 1 w fun t81 w =>
        wAlloc P T_ref05_Summary w fun t13 w =>
        wStore P T_ref05_Summary t13 t80 w fun w =>
        wJ0 (fun k4 =>
          wUn P .not t81 w fun t83 w =>
          wIf t83 (
            wBuild P T_ref05_Summary [] w fun t84 w =>
            wStore P T_ref05_Summary t13 t84 w fun w =>
            k4 w) (
            k4 w)) fun _ w =>
        wDraw w fun w =>
        wLoad P T_codec_Summary t12 w fun t85 w =>
        wLoad P T_ref05_Summary t13 w fun t87 w =>
        wCall P n_law05_Told [t85] w fun t86 w =>
        wKeep P [(T_ref05_Summary, t13, t87)] w ∧ wCall P n_law05_same [t86, t87] w fun t88 w =>
        wGrp t88 true (fun k93 =>
          wBin P .eql T_api_Errno t76 (.int .i64 0) w fun t91 w =>
          wBin P .eql T_bool t91 t81 w fun t93 w =>
          k93 t93 w) w fun _ t93 w =>
        wPick t88 t93 (.bool false) w fun t94 w =>
        wGrp t94 true (fun k100 =>
          wGrp t81 false (fun k99 =>
            wBin P .eql T_api_Errno t76 (.int .i64 21) w fun t99 w =>
            k99 t99 w) w fun _ t99 w =>
          wPick t81 (.bool true) t99 w fun t100 w =>
          k100 t100 w) w fun _ t100 w =>
        wPick t94 t100 (.bool false) w fun t101 w =>
        k t101 w)))

theorem call_law05_CodecSummaries (a0 a1 : Value) {w : World} {k : Value → World → Prop} (h : F_law05_CodecSummaries a0 a1 w k) : wCall P n_law05_CodecSummaries [a0, a1] w k :=
  call_of_den mixedP Try.func13 (by kernel_rfl) (.s .z (.s .z (.j [] [1, 2] .z (.s .z (.s .z (.s (.s (.r (.ops [0, 1, 2, 3] (.grp 3 false 42 [39, 40, 41] (.ops [4, 5, 6, 7] .nil) (.ops [8, 9] (.grp 9 false 50 [45, 46, 47, 48, 49] (.ops [10, 11, 12] (.grp 12 true 49 [48] (.ops [13, 14] .nil) (.ops [15] .nil))) (.ops [16] .nil)))))) .z) (.s (.s .z (.s (.r (.ops [0, 1] (.grp 1 true 67 [59, 60, 61, 62, 63, 64, 65, 66] (.ops [2, 3, 4] (.grp 4 false 66 [62, 63, 64, 65] (.ops [5, 7] (.eff 6 [7] (.eff 8 [] (.ops [9] .nil)))) (.ops [10] .nil))) (.ops [11] .nil)))) .z)) (.s .z (.s .z (.s .z (.j [] [6, 8, 12, 13] .z (.s (.r (.ops [0, 2] (.eff 1 [2] (.eff 3 [] (.ops [4] (.grp 4 true 93 [90, 91, 92] (.ops [5, 6, 7, 8] .nil) (.ops [9, 10] (.grp 10 true 100 [96, 97, 98, 99] (.ops [11, 12] (.grp 12 false 99 [98] (.ops [13, 14] .nil) (.ops [15] .nil))) (.ops [16, 17] .nil))))))))) .z)))))))))))) (by kernel_rfl) (Eq.mp (by kernel_rfl) h)

def F_law05_awake (w : World) (k : Value → World → Prop) : Prop :=
  wBuild P T_codec_Inode [(0, (.int .u32 3)), (1, (.int .u32 9)), (2, (.int .i64 1)), (3, (.int .i64 300)), (6, (.int .i64 77))] w fun t8 w =>
  wAlloc P T_codec_Inode w fun t1 w =>
  wStore P T_codec_Inode t1 t8 w fun w =>
  wLoad P T_codec_Inode t1 w fun t10 w =>
  wCall P n_codec_WriteInode [t10] w fun t11 w =>
  wExtract P t11 0 w fun t12 w =>
  wExtract P t11 1 w fun t13 w =>
  wAlloc P T_api_Sector w fun t2 w =>
  wStore P T_api_Sector t2 t12 w fun w =>
  wLoad P T_api_Sector t2 w fun t15 w =>
  wCall P n_codec_ReadInode [t15] w fun t16 w =>
  wExtract P t16 0 w fun t17 w =>
  wExtract P t16 1 w fun t18 w =>
  wAlloc P T_codec_Inode w fun t4 w =>
  wStore P T_codec_Inode t4 t17 w fun w =>
  wBuild P T_codec_Inode [] w fun t20 w =>
  wCall P n_codec_WriteInode [t20] w fun t21 w =>
  wExtract P t21 0 w fun t22 w =>
  wExtract P t21 1 w fun t23 w =>
  wAlloc P T_api_Sector w fun t6 w =>
  wStore P T_api_Sector t6 t22 w fun w =>
  wBin P .eql T_api_Errno t13 (.int .i64 0) w fun t25 w =>
  wGrp t25 true (fun k28 =>
    wBin P .eql T_api_Errno t18 (.int .i64 0) w fun t28 w =>
    k28 t28 w) w fun _ t28 w =>
  wPick t25 t28 (.bool false) w fun t29 w =>
  wGrp t29 true (fun k33 =>
    wLoad P T_codec_Inode t1 w fun t31 w =>
    wLoad P T_codec_Inode t4 w fun t32 w =>
    wBin P .eql T_codec_Inode t31 t32 w fun t33 w =>
    k33 t33 w) w fun _ t33 w =>
  wPick t29 t33 (.bool false) w fun t34 w =>
  wGrp t34 true (fun k37 =>
    wBin P .eql T_api_Errno t23 (.int .i64 1) w fun t37 w =>
    k37 t37 w) w fun _ t37 w =>
  wPick t34 t37 (.bool false) w fun t38 w =>
  k t38 w

theorem call_law05_awake {w : World} {k : Value → World → Prop} (h : F_law05_awake w k) : wCall P n_law05_awake [] w k :=
  call_of_den mixedP Try.func54 (by kernel_rfl) (.s .z (.s .z (.s .z (.s .z (.s .z (.s (.r (.ops [0, 1, 2] (.grp 2 true 28 [27] (.ops [3, 4] .nil) (.ops [5, 6] (.grp 6 true 33 [31, 32] (.ops [7, 8, 9] .nil) (.ops [10, 11] (.grp 11 true 37 [36] (.ops [12, 13] .nil) (.ops [14, 15] .nil)))))))) .z)))))) (by kernel_rfl) (Eq.mp (by kernel_rfl) h)

def F_law05_Inode (a0 : Value) (w : World) (k : Value → World → Prop) : Prop :=
  wBox P T_ref05_Inode a0 w fun t1 w =>
  wAlloc P T_codec_Inode w fun t2 w =>
  wFieldA P T_ref05_Inode t1 0 w fun t3 w =>
  wLoad P T_uint32 t3 w fun t4 w =>
  wFieldA P T_ref05_Inode t1 1 w fun t5 w =>
  wLoad P T_uint32 t5 w fun t6 w =>
  wFieldA P T_ref05_Inode t1 2 w fun t7 w =>
  wLoad P T_int t7 w fun t8 w =>
  wFieldA P T_ref05_Inode t1 3 w fun t9 w =>
  wLoad P T_int t9 w fun t10 w =>
  wFieldA P T_ref05_Inode t1 4 w fun t11 w =>
  wLoad P T_uint32 t11 w fun t12 w =>
  wFieldA P T_ref05_Inode t1 5 w fun t13 w =>
  wLoad P T_A8int t13 w fun t14 w =>
  wFieldA P T_ref05_Inode t1 6 w fun t15 w =>
  wLoad P T_int t15 w fun t16 w =>
  wFieldA P T_ref05_Inode t1 7 w fun t17 w =>
  wLoad P T_int t17 w fun t18 w =>
  wBuild P T_codec_Inode [(0, t4), (1, t6), (2, t8), (3, t10), (4, t12), (5, t14), (6, t16), (7, t18)] w fun t19 w =>
  wStore P T_codec_Inode t2 t19 w fun w =>
  wRes P T_codec_Inode t2 w fun r2 =>
  k r2 w

theorem call_law05_Inode (a0 : Value) {w : World} {k : Value → World → Prop} (h : F_law05_Inode a0 w k) : wCall P n_law05_Inode [a0] w k :=
  call_of_den mixedP Try.func56 (by kernel_rfl) .z (by kernel_rfl) (Eq.mp (by kernel_rfl) h)

def F_law05_turn (a0 a1 : Value) (w : World) (k : Value → World → Prop) : Prop :=
  wBox P T_api_Sector a0 w fun t2 w =>
  wAlloc P T_api_Sector w fun t4 w =>
  wJ0 (fun k1 =>
    wL1 (.int .i64 0) w (fun _ v5 w k2 =>
      wBin P .add T_int v5 (.int .i64 1) w fun t9 w =>
      wLen P .len #[T_Luint8] [a1] w fun t11 w =>
      wBin P .lss T_int t9 t11 w fun t12 w =>
      wGrp t12 true (fun k15 =>
        wBin P .lss T_int v5 (.int .i64 8) w fun t15 w =>
        k15 t15 w) w fun _ t15 w =>
      wPick t12 t15 (.bool false) w fun t16 w =>
      wIf t16 (
        wDraw w fun w =>
        wIndexA P T_Luint8 a1 v5 w fun t21 w =>
        wLoad P T_uint8 t21 w fun t22 w =>
        wConv P T_uint8 T_int t22 w fun t23 w =>
        wBin P .rem T_int t23 (.int .i64 122) w fun t24 w =>
        wBin P .add T_int (.int .i64 2) t24 w fun t25 w =>
        wBin P .add T_int v5 (.int .i64 1) w fun t28 w =>
        wIndexA P T_Luint8 a1 t28 w fun t29 w =>
        wLoad P T_uint8 t29 w fun t30 w =>
        wIndexA P T_api_Sector t2 t25 w fun t31 w =>
        wStore P T_uint8 t31 t30 w fun w =>
        wBin P .add T_int v5 (.int .i64 2) w fun t18 w =>
        k2 t18 w) (
        k1 w))) fun _ w =>
  wSlice P T_api_Sector t2 none (some (.int .i64 124)) none w fun t32 w =>
  wCall P n_ref02_Crc [t32] w fun t33 w =>
  wJ0 (fun k1 =>
    wL1 (.int .i64 0) w (fun _ v7 w k2 =>
      wBin P .lss T_int v7 (.int .i64 4) w fun t35 w =>
      wIf t35 (
        wBin P .add T_int (.int .i64 124) v7 w fun t39 w =>
        wBin P .mul T_int (.int .i64 8) v7 w fun t42 w =>
        wBin P .shr T_uint32 t33 t42 w fun t43 w =>
        wConv P T_uint32 T_uint8 t43 w fun t44 w =>
        wIndexA P T_api_Sector t2 t39 w fun t45 w =>
        wStore P T_uint8 t45 t44 w fun w =>
        wBin P .add T_int v7 (.int .i64 1) w fun t37 w =>
        k2 t37 w) (
        k1 w))) fun _ w =>
  wLoad P T_api_Sector t2 w fun t46 w =>
  wStore P T_api_Sector t4 t46 w fun w =>
  wRes P T_api_Sector t4 w fun r4 =>
  k r4 w

theorem call_law05_turn (a0 a1 : Value) {w : World} {k : Value → World → Prop} (h : F_law05_turn a0 a1 w k) : wCall P n_law05_turn [a0, a1] w k :=
  call_of_den mixedP Try.func59 (by kernel_rfl) (.s .z (.j [] [2, 4] (.s .z (.b (.l [5] [1, 2, 4] (.s (.s (.r (.ops [0, 1, 2, 3, 4, 5] (.grp 5 true 15 [14] (.ops [6, 7] .nil) (.ops [8] .nil)))) .z) (.s (.b (.r (.ops [0, 1, 2, 3, 4, 5, 6, 7, 8, 9, 10, 11, 12] (.eff 13 [] .nil)))) .z))))) (.s .z (.j [] [2, 4] (.s .z (.b (.l [7] [2, 4, 6] .z))) .z)))) (by kernel_rfl) (Eq.mp (by kernel_rfl) h)

def F_law05_Summary (a0 : Value) (w : World) (k : Value → World → Prop) : Prop :=
  wBox P T_ref05_Summary a0 w fun t1 w =>
  wAlloc P T_codec_Summary w fun t2 w =>
  wFieldA P T_ref05_Summary t1 0 w fun t6 w =>
  wLoad P T_uint64 t6 w fun t7 w =>
  wFieldA P T_ref05_Summary t1 1 w fun t8 w =>
  wLoad P T_uint64 t8 w fun t9 w =>
  wFieldA P T_ref05_Summary t1 2 w fun t10 w =>
  wLoad P T_bool t10 w fun t11 w =>
  wFieldA P T_ref05_Summary t1 3 w fun t12 w =>
  wLoad P T_int t12 w fun t13 w =>
  wFieldA P T_ref05_Summary t1 4 w fun t14 w =>
  wLoad P T_uint32 t14 w fun t15 w =>
  wBuild P T_codec_Summary [(0, t7), (1, t9), (2, t11), (3, t13), (4, t15)] w fun t16 w =>
  wAlloc P T_codec_Summary w fun t3 w =>
  wStore P T_codec_Summary t3 t16 w fun w =>
  wJ0 (fun k1 =>
    wFieldA P T_ref05_Summary t1 5 w fun t17 w =>
    wLoad P T_Lref05_Entry t17 w fun t18 w =>
    wLen P .len #[T_Lref05_Entry] [t18] w fun t19 w =>
    wL1 (.int .i64 0) w (fun _ v20 w k2 =>
      wBin P .lss T_int v20 t19 w fun t21 w =>
      wIf t21 (
        wIndexA P T_Lref05_Entry t18 v20 w fun t22 w =>
        wLoad P T_ref05_Entry t22 w fun t23 w =>
        wAlloc P T_ref05_Entry w fun t5 w =>
        wStore P T_ref05_Entry t5 t23 w fun w =>
        wFieldA P T_codec_Summary t3 5 w fun t24 w =>
        wLoad P T_Lcodec_Entry t24 w fun t25 w =>
        wFieldA P T_ref05_Entry t5 0 w fun t26 w =>
        wLoad P T_int t26 w fun t27 w =>
        wFieldA P T_ref05_Entry t5 1 w fun t28 w =>
        wLoad P T_uint32 t28 w fun t29 w =>
        wFieldA P T_ref05_Entry t5 2 w fun t30 w =>
        wLoad P T_uint32 t30 w fun t31 w =>
        wFieldA P T_ref05_Entry t5 3 w fun t32 w =>
        wLoad P T_int t32 w fun t33 w =>
        wBuild P T_codec_Entry [(0, t27), (1, t29), (2, t31), (3, t33)] w fun t34 w =>
        wBuildS P T_Lcodec_Entry 1 [(0, t34)] w fun t35 w =>
        wBuiltin P .append #[T_Lcodec_Entry, T_Lcodec_Entry] [t25, t35] w fun t36 w =>
        wFieldA P T_codec_Summary t3 5 w fun t37 w =>
        wStore P T_Lcodec_Entry t37 t36 w fun w =>
        wBin P .add T_int v20 (.int .i64 1) w fun t38 w =>
        k2 t38 w) (
        k1 w))) fun _ w =>
  wLoad P T_codec_Summary t3 w fun t39 w =>
  wStore P T_codec_Summary t2 t39 w fun w =>
  wRes P T_codec_Summary t2 w fun r2 =>
  k r2 w

theorem call_law05_Summary (a0 : Value) {w : World} {k : Value → World → Prop} (h : F_law05_Summary a0 w k) : wCall P n_law05_Summary [a0] w k :=
  call_of_den mixedP Try.func83 (by kernel_rfl) (.s .z (.s .z (.j [] [2, 3] (.s .z (.b (.l [20] [2, 3, 18, 19] .z))) .z))) (by kernel_rfl) (Eq.mp (by kernel_rfl) h)

def F_law05_same (a0 a1 : Value) (w : World) (k : Value → World → Prop) : Prop :=
  wBox P T_ref05_Summary a0 w fun t2 w =>
  wBox P T_ref05_Summary a1 w fun t3 w =>
  wFieldA P T_ref05_Summary t2 0 w fun t6 w =>
  wLoad P T_uint64 t6 w fun t7 w =>
  wFieldA P T_ref05_Summary t3 0 w fun t8 w =>
  wLoad P T_uint64 t8 w fun t9 w =>
  wBin P .neq T_uint64 t7 t9 w fun t10 w =>
  wGrp t10 false (fun k16 =>
    wFieldA P T_ref05_Summary t2 1 w fun t12 w =>
    wLoad P T_uint64 t12 w fun t13 w =>
    wFieldA P T_ref05_Summary t3 1 w fun t14 w =>
    wLoad P T_uint64 t14 w fun t15 w =>
    wBin P .neq T_uint64 t13 t15 w fun t16 w =>
    k16 t16 w) w fun _ t16 w =>
  wPick t10 (.bool true) t16 w fun t17 w =>
  wGrp t17 false (fun k23 =>
    wFieldA P T_ref05_Summary t2 2 w fun t19 w =>
    wLoad P T_bool t19 w fun t20 w =>
    wFieldA P T_ref05_Summary t3 2 w fun t21 w =>
    wLoad P T_bool t21 w fun t22 w =>
    wBin P .neq T_bool t20 t22 w fun t23 w =>
    k23 t23 w) w fun _ t23 w =>
  wPick t17 (.bool true) t23 w fun t24 w =>
  wGrp t24 false (fun k30 =>
    wFieldA P T_ref05_Summary t2 3 w fun t26 w =>
    wLoad P T_int t26 w fun t27 w =>
    wFieldA P T_ref05_Summary t3 3 w fun t28 w =>
    wLoad P T_int t28 w fun t29 w =>
    wBin P .neq T_int t27 t29 w fun t30 w =>
    k30 t30 w) w fun _ t30 w =>
  wPick t24 (.bool true) t30 w fun t31 w =>
  wGrp t31 false (fun k37 =>
    wFieldA P T_ref05_Summary t2 4 w fun t33 w =>
    wLoad P T_uint32 t33 w fun t34 w =>
    wFieldA P T_ref05_Summary t3 4 w fun t35 w =>
    wLoad P T_uint32 t35 w fun t36 w =>
    wBin P .neq T_uint32 t34 t36 w fun t37 w =>
    k37 t37 w) w fun _ t37 w =>
  wPick t31 (.bool true) t37 w fun t38 w =>
  wGrp t38 false (fun k46 =>
    wFieldA P T_ref05_Summary t2 5 w fun t40 w =>
    wLoad P T_Lref05_Entry t40 w fun t41 w =>
    wLen P .len #[T_Lref05_Entry] [t41] w fun t42 w =>
    wFieldA P T_ref05_Summary t3 5 w fun t43 w =>
    wLoad P T_Lref05_Entry t43 w fun t44 w =>
    wLen P .len #[T_Lref05_Entry] [t44] w fun t45 w =>
    wBin P .neq T_int t42 t45 w fun t46 w =>
    k46 t46 w) w fun _ t46 w =>
  wPick t38 (.bool true) t46 w fun t47 w =>
  wIf t47 (
    k (.bool false) w) (
    wFieldA P T_ref05_Summary t2 5 w fun t48 w =>
    wLoad P T_Lref05_Entry t48 w fun t49 w =>
    wLen P .len #[T_Lref05_Entry] [t49] w fun t50 w =>
    wL1 (.int .i64 0) w (fun _ v51 w k2 =>
      wBin P .lss T_int v51 t50 w fun t52 w =>
      wIf t52 (
        wDraw w fun w =>
        wFieldA P T_ref05_Summary t2 5 w fun t54 w =>
        wLoad P T_Lref05_Entry t54 w fun t55 w =>
        wIndexA P T_Lref05_Entry t55 v51 w fun t57 w =>
        wLoad P T_ref05_Entry t57 w fun t58 w =>
        wFieldA P T_ref05_Summary t3 5 w fun t59 w =>
        wLoad P T_Lref05_Entry t59 w fun t60 w =>
        wIndexA P T_Lref05_Entry t60 v51 w fun t62 w =>
        wLoad P T_ref05_Entry t62 w fun t63 w =>
        wBin P .neq T_ref05_Entry t58 t63 w fun t64 w =>
        wIf t64 (
          k (.bool false) w) (
          wBin P .add T_int v51 (.int .i64 1) w fun t65 w =>
          k2 t65 w)) (
        k (.bool true) w)))

theorem call_law05_same (a0 a1 : Value) {w : World} {k : Value → World → Prop} (h : F_law05_same a0 a1 w k) : wCall P n_law05_same [a0, a1] w k :=
  call_of_den mixedP Try.func86 (by kernel_rfl) (.s .z (.s (.s (.r (.ops [0, 1, 2, 3, 4, 5] (.grp 5 false 16 [12, 13, 14, 15] (.ops [6, 7, 8, 9, 10] .nil) (.ops [11, 12] (.grp 12 false 23 [19, 20, 21, 22] (.ops [13, 14, 15, 16, 17] .nil) (.ops [18, 19] (.grp 19 false 30 [26, 27, 28, 29] (.ops [20, 21, 22, 23, 24] .nil) (.ops [25, 26] (.grp 26 false 37 [33, 34, 35, 36] (.ops [27, 28, 29, 30, 31] .nil) (.ops [32, 33] (.grp 33 false 46 [40, 41, 42, 43, 44, 45] (.ops [34, 35, 36, 37, 38, 39, 40] .nil) (.ops [41] .nil)))))))))))) .z) (.s (.s .z (.b (.l [51] [2, 3, 50] (.s .z (.s .z (.s (.b (.s .z (.s (.r (.ops [0, 1, 2, 3, 4, 5, 6, 7, 8, 9, 10] .nil)) .z))) .z)))))) .z))) (by kernel_rfl) (Eq.mp (by kernel_rfl) h)

def F_law05_Told (a0 : Value) (w : World) (k : Value → World → Prop) : Prop :=
  wBox P T_codec_Summary a0 w fun t1 w =>
  wAlloc P T_ref05_Summary w fun t2 w =>
  wFieldA P T_codec_Summary t1 0 w fun t6 w =>
  wLoad P T_uint64 t6 w fun t7 w =>
  wFieldA P T_codec_Summary t1 1 w fun t8 w =>
  wLoad P T_uint64 t8 w fun t9 w =>
  wFieldA P T_codec_Summary t1 2 w fun t10 w =>
  wLoad P T_bool t10 w fun t11 w =>
  wFieldA P T_codec_Summary t1 3 w fun t12 w =>
  wLoad P T_int t12 w fun t13 w =>
  wFieldA P T_codec_Summary t1 4 w fun t14 w =>
  wLoad P T_uint32 t14 w fun t15 w =>
  wBuild P T_ref05_Summary [(0, t7), (1, t9), (2, t11), (3, t13), (4, t15)] w fun t16 w =>
  wAlloc P T_ref05_Summary w fun t3 w =>
  wStore P T_ref05_Summary t3 t16 w fun w =>
  wJ0 (fun k1 =>
    wFieldA P T_codec_Summary t1 5 w fun t17 w =>
    wLoad P T_Lcodec_Entry t17 w fun t18 w =>
    wLen P .len #[T_Lcodec_Entry] [t18] w fun t19 w =>
    wL1 (.int .i64 0) w (fun _ v20 w k2 =>
      wBin P .lss T_int v20 t19 w fun t21 w =>
      wIf t21 (
        wIndexA P T_Lcodec_Entry t18 v20 w fun t22 w =>
        wLoad P T_codec_Entry t22 w fun t23 w =>
        wAlloc P T_codec_Entry w fun t5 w =>
        wStore P T_codec_Entry t5 t23 w fun w =>
        wFieldA P T_ref05_Summary t3 5 w fun t24 w =>
        wLoad P T_Lref05_Entry t24 w fun t25 w =>
        wFieldA P T_codec_Entry t5 0 w fun t26 w =>
        wLoad P T_int t26 w fun t27 w =>
        wFieldA P T_codec_Entry t5 1 w fun t28 w =>
        wLoad P T_uint32 t28 w fun t29 w =>
        wFieldA P T_codec_Entry t5 2 w fun t30 w =>
        wLoad P T_uint32 t30 w fun t31 w =>
        wFieldA P T_codec_Entry t5 3 w fun t32 w =>
        wLoad P T_int t32 w fun t33 w =>
        wBuild P T_ref05_Entry [(0, t27), (1, t29), (2, t31), (3, t33)] w fun t34 w =>
        wBuildS P T_Lref05_Entry 1 [(0, t34)] w fun t35 w =>
        wBuiltin P .append #[T_Lref05_Entry, T_Lref05_Entry] [t25, t35] w fun t36 w =>
        wFieldA P T_ref05_Summary t3 5 w fun t37 w =>
        wStore P T_Lref05_Entry t37 t36 w fun w =>
        wBin P .add T_int v20 (.int .i64 1) w fun t38 w =>
        k2 t38 w) (
        k1 w))) fun _ w =>
  wLoad P T_ref05_Summary t3 w fun t39 w =>
  wStore P T_ref05_Summary t2 t39 w fun w =>
  wRes P T_ref05_Summary t2 w fun r2 =>
  k r2 w

theorem call_law05_Told (a0 : Value) {w : World} {k : Value → World → Prop} (h : F_law05_Told a0 w k) : wCall P n_law05_Told [a0] w k :=
  call_of_den mixedP Try.func87 (by kernel_rfl) (.s .z (.s .z (.j [] [2, 3] (.s .z (.b (.l [20] [2, 3, 18, 19] .z))) .z))) (by kernel_rfl) (Eq.mp (by kernel_rfl) h)

end Go.Dn
end
section
/-! '==' of structs and arrays whose cells are whole numbers and truths. -/
set_option linter.unusedVariables false
set_option linter.unusedSimpArgs false
namespace Go.Dn
open Go
inductive Lf where
  | i (k : IntKind)
  | b
def wf1 (l : Lf) (v : Value) : Prop :=
  match l, v with
  | .i k, .int k' _ => k = k'
  | .b, .bool _ => True
  | _, _ => False
def wfV : List Lf → List Value → Prop
  | [], [] => True
  | l :: ls, v :: vs => wf1 l v ∧ wfV ls vs
  | _, _ => False
def eq1 (x y : Value) : Bool :=
  match x, y with
  | .int _ a, .int _ b => a == b
  | .bool a, .bool b => a == b
  | _, _ => false
def eqV : List Value → List Value → Bool
  | [], [] => true
  | x :: xs, y :: ys => eq1 x y && eqV xs ys
  | _, _ => false
theorem wfV_length : ∀ {ls : List Lf} {xs : List Value}, wfV ls xs → xs.length = ls.length
  | [], [], _ => rfl
  | _ :: ls, _ :: xs, h => by simp only [List.length_cons]; rw [wfV_length h.2]
  | [], _ :: _, h => h.elim
  | _ :: _, [], h => h.elim
theorem wfV_append : ∀ {l1 l2 : List Lf} {x1 x2 : List Value}, x1.length = l1.length → (wfV (l1 ++ l2) (x1 ++ x2) ↔ wfV l1 x1 ∧ wfV l2 x2)
  | [], l2, [], x2, _ => by simp [wfV]
  | _ :: l1, l2, _ :: x1, x2, h => by
    simp only [List.cons_append, wfV]
    rw [wfV_append (by simpa using h), and_assoc]
  | [], _, _ :: _, _, h => by simp at h
  | _ :: _, _, [], _, h => by simp at h
theorem eqV_append : ∀ {x1 y1 x2 y2 : List Value}, x1.length = y1.length → eqV (x1 ++ x2) (y1 ++ y2) = (eqV x1 y1 && eqV x2 y2)
  | [], [], _, _, _ => by simp [eqV]
  | _ :: x1, _ :: y1, x2, y2, h => by
    simp only [List.cons_append, eqV]
    rw [eqV_append (by simpa using h), Bool.and_assoc]
  | [], _ :: _, _, _, h => by simp at h
  | _ :: _, [], _, _, h => by simp at h
theorem eqV_iff : ∀ {ls : List Lf} {xs ys : List Value}, wfV ls xs → wfV ls ys → (eqV xs ys = true ↔ xs = ys)
  | [], [], [], _, _ => by simp [eqV]
  | l :: ls, x :: xs, y :: ys, hx, hy => by
    simp only [eqV, Bool.and_eq_true, eqV_iff hx.2 hy.2, List.cons.injEq]
    have : eq1 x y = true ↔ x = y := by
      have h1 := hx.1
      have h2 := hy.1
      cases l <;> cases x <;> first | exact h1.elim | skip
      · cases y <;> first | exact h2.elim | skip
        unfold wf1 at h1 h2
        subst h1; subst h2
        simp [eq1]
      · cases y <;> first | exact h2.elim | skip
        simp [eq1]
    rw [this]
  | [], _ :: _, _, h, _ => h.elim
  | [], [], _ :: _, _, h => h.elim
  | _ :: _, [], _, h, _ => h.elim
  | _ :: _, _ :: _, [], _, h => h.elim
theorem wfV_split : ∀ (l1 l2 : List Lf) {xs : List Value}, wfV (l1 ++ l2) xs → ∃ x1 x2, xs = x1 ++ x2 ∧ wfV l1 x1 ∧ wfV l2 x2
  | [], l2, xs, h => ⟨[], xs, rfl, trivial, h⟩
  | l :: l1, l2, x :: xs, h => by
    obtain ⟨x1, x2, rfl, h1, h2⟩ := wfV_split l1 l2 h.2
    exact ⟨x :: x1, x2, rfl, ⟨h.1, h1⟩, h2⟩
  | _ :: _, _, [], h => h.elim
def vOf (a : Bool) (xs : List Value) : Value := if a = true then .agg ⟨xs⟩ else xs.headD undef
structure EqT (P : Program) (D : Nat) (t : TypeId) (a : Bool) (ls : List Lf) : Prop where
  size : ∀ w, (sizeOf t).run P w = .ok ls.length w
  part : ∀ (w : World) (pre xs post : List Value), xs.length = ls.length → (Go.part t ⟨pre ++ xs ++ post⟩ pre.length).run P w = .ok (vOf a xs) w
  heq : ∀ (d : Nat) (w : World) (xs ys : List Value), wfV ls xs → wfV ls ys → (Op.equalIn (d + D) t (vOf a xs) (vOf a ys)).run P w = .ok (eqV xs ys) w
section
variable {P : Program}
theorem EqT.le {D D' : Nat} {t : TypeId} {a : Bool} {ls : List Lf} (h : EqT P D t a ls) (hD : D ≤ D') : EqT P D' t a ls :=
  ⟨h.size, h.part, fun d w xs ys hx hy => by have := h.heq (d + (D' - D)) w xs ys hx hy; rwa [show d + (D' - D) + D = d + D' by omega] at this⟩
theorem part_cell {t : TypeId} (ho : oneT P t = true) (w : World) (pre xs post : List Value) (hl : xs.length = 1) : (Go.part t ⟨pre ++ xs ++ post⟩ pre.length).run P w = .ok (vOf false xs) w := by
  match xs, hl with
  | [x], _ =>
    have := part_one (v := x) (cs := ⟨pre ++ [x] ++ post⟩) (o := pre.length) ho (by simp) w
    exact this
theorem eqT_int {t : TypeId} {k : IntKind} (ho : oneT P t = true) (hu : P.underlying t = some (.int k)) : EqT P 1 t false [.i k] := by
  refine ⟨fun w => sizeOf_one ho w, fun w pre xs post hl => part_cell ho w pre xs post hl, fun d w xs ys hx hy => ?_⟩
  match xs, ys, hx, hy with
  | [x], [y], hx, hy =>
    have h1 := hx.1
    have h2 := hy.1
    cases x <;> first | exact h1.elim | skip
    cases y <;> first | exact h2.elim | skip
    unfold wf1 at h1 h2
    subst h1; subst h2
    simp only [eqV, eq1, Bool.and_true, vOf, Bool.false_eq_true, if_false, List.headD_cons]
    exact eqIn_int d _ _ (by assumption) w
theorem eqT_bool {t : TypeId} (ho : oneT P t = true) (hu : P.underlying t = some .bool) : EqT P 1 t false [.b] := by
  refine ⟨fun w => sizeOf_one ho w, fun w pre xs post hl => part_cell ho w pre xs post hl, fun d w xs ys hx hy => ?_⟩
  match xs, ys, hx, hy with
  | [x], [y], hx, hy =>
    have h1 := hx.1
    have h2 := hy.1
    cases x <;> first | exact h1.elim | skip
    cases y <;> first | exact h2.elim | skip
    simp only [eqV, eq1, Bool.and_true, vOf, Bool.false_eq_true, if_false, List.headD_cons]
    exact eqIn_bool d _ _ hu w
theorem part_agg {t : TypeId} {n : Nat} (hT : aggT P t n = true) (w : World) (pre xs post : List Value) (hl : xs.length = n) : (Go.part t ⟨pre ++ xs ++ post⟩ pre.length).run P w = .ok (vOf true xs) w := by
  unfold Go.part
  simp only [Sem.run_bind, isAgg_agg hT, Result.andThen_ok, if_true, sizeOf_agg hT, Sem.run_pure]
  congr 2
  apply Array.toList_inj.1
  simp [List.take_append, hl]
/-- The fields of a struct, from a cell on. -/
def Chain (P : Program) (D : Nat) : Nat → List (Nat × TypeId × Bool × List Lf) → Prop
  | _, [] => True
  | off, (o, ty, a, ls) :: L => o = off ∧ EqT P D ty a ls ∧ Chain P D (off + ls.length) L
def leavesOf (L : List (Nat × TypeId × Bool × List Lf)) : List Lf := L.flatMap fun x => x.2.2.2
theorem eqFields_chain {D : Nat} (d : Nat) (w : World) : ∀ (fs : List Field) (L : List (Nat × TypeId × Bool × List Lf)) (off : Nat) (px py xs ys : List Value), fs.map (fun f => (f.name == "_", f.offset, f.type)) = L.map (fun x => (false, x.1, x.2.1)) → Chain P D off L → px.length = off → py.length = off → wfV (leavesOf L) xs → wfV (leavesOf L) ys →
    (Op.eqFields (d + D) ⟨px ++ xs⟩ ⟨py ++ ys⟩ fs).run P w = .ok (eqV xs ys) w
  | [], [], off, px, py, xs, ys, _, _, _, _, hx, hy => by
    match xs, ys, hx, hy with
    | [], [], _, _ => rfl
  | f :: fs, (o, ty, a, ls) :: L, off, px, py, xs, ys, hm, hc, hpx, hpy, hx, hy => by
    simp only [List.map_cons, List.cons.injEq, Prod.mk.injEq] at hm
    obtain ⟨⟨h1, h2, h3⟩, hm⟩ := hm
    obtain ⟨ho, hE, hc⟩ := hc
    obtain ⟨x1, x2, rfl, hx1, hx2⟩ := wfV_split ls (leavesOf L) (show wfV (ls ++ leavesOf L) xs from hx)
    obtain ⟨y1, y2, rfl, hy1, hy2⟩ := wfV_split ls (leavesOf L) (show wfV (ls ++ leavesOf L) ys from hy)
    have lx := wfV_length hx1
    have ly := wfV_length hy1
    have hname : f.name ≠ "_" := by simpa using h1
    unfold Op.eqFields
    rw [if_pos hname, h3, h2, ho]
    have p1 := hE.part w px x1 x2 lx
    have p2 := hE.part w py y1 y2 ly
    rw [hpx] at p1
    rw [hpy] at p2
    rw [← List.append_assoc, ← List.append_assoc]
    simp only [Sem.run_bind, p1, p2, Result.andThen_ok, hE.heq d w x1 y1 hx1 hy1]
    rw [eqV_append (by omega)]
    cases he : eqV x1 y1
    · simp [Sem.run_pure]
    · simp only [Bool.not_true, Bool.false_eq_true, if_false, Bool.true_and]
      exact eqFields_chain d w fs L (off + ls.length) (px ++ x1) (py ++ y1) x2 y2 hm hc (by simp; omega) (by simp; omega) hx2 hy2
  | [], _ :: _, _, _, _, _, _, h, _, _, _, _, _ => by simp at h
  | _ :: _, [], _, _, _, _, _, h, _, _, _, _, _ => by simp at h
theorem eqT_struct {D : Nat} {t : TypeId} {L : List (Nat × TypeId × Bool × List Lf)} (ht : P.underlying t = some (.struct (P.fieldsOf t))) (hp : P.stoodInHeld t = false) (hT : aggT P t (leavesOf L).length = true)
    (hm : (P.fieldsOf t).toList.map (fun f => (f.name == "_", f.offset, f.type)) = L.map (fun x => (false, x.1, x.2.1))) (hc : Chain P D 0 L) : EqT P (D + 1) t true (leavesOf L) := by
  refine ⟨fun w => sizeOf_agg hT w, fun w pre xs post hl => part_agg hT w pre xs post hl, fun d w xs ys hx hy => ?_⟩
  have := run_equalIn_struct w (d + D) t ⟨xs⟩ ⟨ys⟩ ht hp
  show (Op.equalIn (d + D + 1) t (.agg ⟨xs⟩) (.agg ⟨ys⟩)).run P w = _
  rw [this]
  exact eqFields_chain d w _ L 0 [] [] xs ys hm hc rfl rfl hx hy
theorem eqItems_chain {D : Nat} {e : TypeId} {a : Bool} {ls : List Lf} (hE : EqT P D e a ls) (d : Nat) (w : World) : ∀ (n i : Nat) (px py xs ys : List Value), px.length = i * ls.length → py.length = i * ls.length → wfV (List.replicate n ls).flatten xs → wfV (List.replicate n ls).flatten ys →
    (Op.eqItems (d + D) e ls.length ⟨px ++ xs⟩ ⟨py ++ ys⟩ (List.range' i n)).run P w = .ok (eqV xs ys) w
  | 0, i, px, py, xs, ys, _, _, hx, hy => by
    match xs, ys, hx, hy with
    | [], [], _, _ => rfl
  | n + 1, i, px, py, xs, ys, hpx, hpy, hx, hy => by
    rw [List.replicate_succ, List.flatten_cons] at hx hy
    obtain ⟨x1, x2, rfl, hx1, hx2⟩ := wfV_split _ _ hx
    obtain ⟨y1, y2, rfl, hy1, hy2⟩ := wfV_split _ _ hy
    have lx := wfV_length hx1
    have ly := wfV_length hy1
    have p1 := hE.part w px x1 x2 lx
    have p2 := hE.part w py y1 y2 ly
    rw [hpx] at p1
    rw [hpy] at p2
    rw [List.range'_succ, Op.eqItems, ← List.append_assoc, ← List.append_assoc]
    simp only [Sem.run_bind, p1, p2, Result.andThen_ok, hE.heq d w x1 y1 hx1 hy1]
    rw [eqV_append (by omega)]
    cases he : eqV x1 y1
    · simp [Sem.run_pure]
    · simp only [Bool.not_true, Bool.false_eq_true, if_false, Bool.true_and]
      exact eqItems_chain hE d w n (i + 1) (px ++ x1) (py ++ y1) x2 y2 (by rw [List.length_append, Nat.succ_mul]; omega) (by rw [List.length_append, Nat.succ_mul]; omega) hx2 hy2
theorem eqT_array {D n : Nat} {t e : TypeId} {a : Bool} {ls : List Lf} (hu : P.underlying t = some (.array n e)) (hT : aggT P t (n * ls.length) = true) (hE : EqT P D e a ls) : EqT P (D + 1) t true (List.replicate n ls).flatten := by
  have hl : (List.replicate n ls).flatten.length = n * ls.length := by simp
  have hi : ∃ i, P.info? e = some i := by
    cases h : P.info? e with
    | some i => exact ⟨i, rfl⟩
    | none =>
      exfalso
      have := hE.size default
      unfold sizeOf typeInfo program at this
      simp [Sem.run_bind, Sem.run, h] at this
  obtain ⟨i, hi⟩ := hi
  have hc : P.cellsOf e = ls.length := by
    have h1 := hE.size default
    rw [sizeOf_run hi] at h1
    injection h1 with h1
    unfold Program.cellsOf
    rw [hi]
    exact h1
  refine ⟨fun w => by rw [hl]; exact sizeOf_agg hT w, fun w pre xs post hx => part_agg hT w pre xs post (by rw [hx, hl]), fun d w xs ys hx hy => ?_⟩
  show (Op.equalIn (d + D + 1) t (.agg ⟨xs⟩) (.agg ⟨ys⟩)).run P w = _
  rw [run_equalIn_array w (d + D) _ _ hu hi, hc, List.range_eq_range']
  exact eqItems_chain hE d w n 0 [] [] xs ys (by simp) (by simp) hx hy
theorem eq_T {D : Nat} {t : TypeId} {ls : List Lf} {xs ys : List Value} {w : World} {K : Value → World → Prop} (E : EqT P D t true ls) (hD : D ≤ 10000) (hg : P.eqGuardType P.depth t = false) (hx : wfV ls xs) (hy : wfV ls ys) : wBin P .eql t (.agg ⟨xs⟩) (.agg ⟨ys⟩) w K = K (.bool (eqV xs ys)) w :=
  bin_eqA hg fun w' => by have := (E.le hD).heq 0 w' xs ys hx hy; simpa [vOf] using this
theorem ne_T {D : Nat} {t : TypeId} {ls : List Lf} {xs ys : List Value} {w : World} {K : Value → World → Prop} (E : EqT P D t true ls) (hD : D ≤ 10000) (hg : P.eqGuardType P.depth t = false) (hx : wfV ls xs) (hy : wfV ls ys) : wBin P .neq t (.agg ⟨xs⟩) (.agg ⟨ys⟩) w K = K (.bool (!(eqV xs ys))) w :=
  bin_neA hg fun w' => by have := (E.le hD).heq 0 w' xs ys hx hy; simpa [vOf] using this
end
end Go.Dn
end
section
/-! Law 05: turn, awake, Inode. -/
set_option maxRecDepth 10000
set_option linter.unusedVariables false
set_option linter.unusedSimpArgs false
namespace Go.Dn
open Go
theorem bin_rem {P : Program} {t : TypeId} {w : World} {K : Value → World → Prop} {k : IntKind} {a b : Int} (h0 : 0 ≤ a) (hb : 0 < b) : wBin P .rem t (.int k a) (.int k b) w K = K (.int k (a % b)) w := by
  refine bin_int ?_
  simp only [binOp, ne_eq, not_true_eq_false, if_false, Op.intDiv]
  rw [if_neg (by omega), Int.tmod_eq_emod_of_nonneg h0]
theorem bin_quo {P : Program} {t : TypeId} {w : World} {K : Value → World → Prop} {k : IntKind} {a b : Int} (h0 : 0 ≤ a) (hb : 0 < b) (hw : k.wrap (a / b) = a / b) : wBin P .quo t (.int k a) (.int k b) w K = K (.int k (a / b)) w := by
  refine bin_int ?_
  simp only [binOp, ne_eq, not_true_eq_false, if_false, Op.intDiv]
  rw [if_neg (by omega), Int.tdiv_eq_ediv_of_nonneg h0, hw]
theorem bvs_set (s : List Nat) (i b : Nat) : (bvs s).set i (.int .u8 (b : Int)) = bvs (s.set i b) := by
  unfold bvs; rw [List.map_set]
theorem set_lt {s : List Nat} (h : ∀ b ∈ s, b < 256) (i : Nat) {b : Nat} (hb : b < 256) : ∀ x ∈ s.set i b, x < 256 := by
  intro x hx
  rcases List.mem_or_eq_of_mem_set hx with h' | rfl
  · exact h x h'
  · exact hb
theorem readR_writeR {kind : Nat} {ws : List Nat} {m : List Int → Bool} {r : List Int} {s : List Nat} (hl : ws.length = r.length) (h : writeR kind ws m r = some s) : readR kind ws m s = some r := by
  unfold writeR at h
  split at h
  · rename_i hm
    unfold sealMk at h
    split at h
    · cases h
    · rename_i hc
      injection h with h
      subst h
      have hop := sealOp_mk (kind := kind) (body := encF ws r) (by omega) (by omega)
      have hd := decF_encF ws r [] hl hm.2
      rw [List.append_nil] at hd
      unfold readR
      rw [hop]
      simp [hd, encF_length ws r hl, hm.1]
  · cases h
theorem writeR_lt {kind : Nat} {ws : List Nat} {m : List Int → Bool} {r : List Int} {s : List Nat} (hk : kind < 256) (h : writeR kind ws m r = some s) : ∀ b ∈ s, b < 256 := by
  unfold writeR at h
  split at h
  · unfold sealMk at h
    split at h
    · cases h
    · rename_i hc
      injection h with h
      subst h
      exact sealS_lt hk (by omega) (encF_lt ws r)
  · cases h
theorem writeL_lt {kind : Nat} {ws : List Nat} {m : List (List Int) → Bool} {rs : List (List Int)} {s : List Nat} (hk : kind < 256) (h : writeL kind ws m rs = some s) : ∀ b ∈ s, b < 256 := by
  unfold writeL at h
  split at h
  · unfold sealMk at h
    split at h
    · cases h
    · rename_i hc
      injection h with h
      subst h
      exact sealS_lt hk (by omega) (encR_lt ws rs)
  · cases h
theorem zeroS_lt : ∀ b ∈ zeroS, b < 256 := by
  intro b hb
  unfold zeroS at hb
  rw [List.mem_replicate] at hb
  omega
theorem getD_s {o : Option (List Nat)} (h : ∀ s, o = some s → ∀ b ∈ s, b < 256) : ∀ b ∈ o.getD zeroS, b < 256 := by
  cases o with
  | none => exact zeroS_lt
  | some s => exact h s rfl
def lfs (ks : List IntKind) : List Lf := ks.map Lf.i
theorem wf_rc : ∀ (ks : List IntKind) (r : List Int), r.length = ks.length → wfV (lfs ks) (rc ks r)
  | [], [], _ => trivial
  | k :: ks, n :: r, h => ⟨rfl, wf_rc ks r (by simpa using h)⟩
  | [], _ :: _, h => by simp at h
  | _ :: _, [], h => by simp at h
theorem eqV_rc : ∀ (ks : List IntKind) (r q : List Int), r.length = ks.length → q.length = ks.length → eqV (rc ks r) (rc ks q) = decide (r = q)
  | [], [], [], _, _ => rfl
  | k :: ks, n :: r, m :: q, h1, h2 => by
    have := eqV_rc ks r q (by simpa using h1) (by simpa using h2)
    show ((n == m) && eqV (rc ks r) (rc ks q)) = _
    rw [this, Bool.eq_iff_iff]
    simp
  | [], _ :: _, _, h, _ => by simp at h
  | [], [], _ :: _, _, h => by simp at h
  | _ :: _, [], _, h, _ => by simp at h
  | _ :: _, _ :: _, [], _, h => by simp at h
theorem E_Inode : EqT P 3 T_codec_Inode true (lfs kInode) := by
  have h1 := eqT_int (P := P) (t := T_uint32) o_T_uint32 i_T_uint32
  have h2 := eqT_int (P := P) (t := T_int) o_T_int i_T_int
  have h3 : EqT P 2 T_A8int true (List.replicate 8 [Lf.i .i64]).flatten := eqT_array v_T_A8int (by kernel_rfl) h2
  exact eqT_struct (L := [(0, T_uint32, false, [.i .u32]), (1, T_uint32, false, [.i .u32]), (2, T_int, false, [.i .i64]), (3, T_int, false, [.i .i64]), (4, T_uint32, false, [.i .u32]), (5, T_A8int, true, (List.replicate 8 [Lf.i .i64]).flatten), (13, T_int, false, [.i .i64]), (14, T_int, false, [.i .i64])])
    (by kernel_rfl) (by kernel_rfl) (by kernel_rfl) (by kernel_rfl)
    ⟨rfl, h1.le (by omega), rfl, h1.le (by omega), rfl, h2.le (by omega), rfl, h2.le (by omega), rfl, h1.le (by omega), rfl, h3, rfl, h2.le (by omega), rfl, h2.le (by omega), trivial⟩
section
variable {w : World} {K : Value → World → Prop}
theorem eq_Inode {r q : List Int} (h1 : r.length = 15) (h2 : q.length = 15) : wBin P .eql T_codec_Inode (.agg ⟨rc kInode r⟩) (.agg ⟨rc kInode q⟩) w K = K (.bool (decide (r = q))) w := by
  rw [eq_T E_Inode (by omega) e_T_codec_Inode (wf_rc kInode r h1) (wf_rc kInode q h2), eqV_rc kInode r q h1 h2]
theorem ne_Inode {r q : List Int} (h1 : r.length = 15) (h2 : q.length = 15) : wBin P .neq T_codec_Inode (.agg ⟨rc kInode r⟩) (.agg ⟨rc kInode q⟩) w K = K (.bool (!decide (r = q))) w := by
  rw [ne_T E_Inode (by omega) e_T_codec_Inode (wf_rc kInode r h1) (wf_rc kInode q h2), eqV_rc kInode r q h1 h2]
theorem ix_s {g i : Nat} {x : Int} {ik : IntKind} (hx : x = (i : Int)) (hi : i < 128) : wIndexA P T_api_Sector (.pointer (some ⟨g, 0, none⟩)) (.int ik x) w K = K (.pointer (some ⟨g, i, none⟩)) w := ix_sec a_T_api_Sector hx hi
theorem law05_turn {s bs : List Nat} {v : Value} {k : Value → World → Prop} (hs : s.length = 128) (hb : ∀ b ∈ s, b < 256) (S : SlG w 1 v (bvs bs)) (hbs : ∀ b ∈ bs, b < 256)
    (hk : ∀ s' w', s'.length = 128 → (∀ b ∈ s', b < 256) → Ex [] w w' → k (sv s') w') : wCall P n_law05_turn [sv s, v] w k := by
  refine call_law05_turn _ _ ?_
  unfold F_law05_turn
  refine box_i (sv_cells s) fun w1 g1 hg1 hE1 B1 => ?_
  refine alloc_i z_T_api_Sector (vs := List.replicate 128 (.int .u8 0)) rfl fun w2 g2 hg2 hE2 B2 => ?_
  have l1 := hE1.le
  have l2 := hE2.le
  have lt1 := B1.lt
  refine j0_of (fun w' => Ex [g1] w2 w' ∧ ∃ s1, s1.length = 128 ∧ (∀ b ∈ s1, b < 256) ∧ Blk w' g1 T_api_Sector (bvs s1)) (fun k1 hk1 => ?_) ?_
  · refine loop_up 4 (fun i x w' => x = .int .i64 ((2 * i : Nat) : Int) ∧ Ex [g1] w2 w' ∧ ∃ s1, s1.length = 128 ∧ (∀ b ∈ s1, b < 256) ∧ Blk w' g1 T_api_Sector (bvs s1)) ⟨rfl, Ex.refl _ _, s, hs, hb, B1.ex hE2 (by simp)⟩ ?_
    rintro i J x w3 k2 hi ⟨rfl, hE3, s1, hs1, hb1, B3⟩ hk2
    have l3 := hE3.le
    have hvb : bs ≠ [] → ∀ g, v.ownBlock = some g → g ∉ [g1] := by
      intro hne g hg
      obtain ⟨A, n, c, rfl, hl', _, hr⟩ := S
      have hn : n ≠ 0 := by
        intro h0; subst h0
        apply hne
        have : (bvs bs).length = 0 := by simpa using hl'
        rw [bvs_length] at this
        exact List.eq_nil_of_length_eq_zero this
      obtain ⟨b, o, rfl, hcs⟩ := hr hn
      have hlt := hcs.lt (by intro h'; apply hne; have := congrArg List.length h'; rw [bvs_length] at this; exact List.eq_nil_of_length_eq_zero (by simpa using this))
      simp [Value.ownBlock] at hg
      subst hg
      simp
      omega
    have hlen : ∀ (wa : World) (K : Value → World → Prop), wLen P .len #[T_Luint8] [v] wa K = K (.int .i64 (bs.length : Int)) wa := by
      intro wa K
      obtain ⟨A, n, c, rfl, hl', _, _⟩ := S
      have : n = bs.length := by rw [bvs_length] at hl'; omega
      rw [len_s u_T_Luint8, this]
    rw [bin_add (by omega), hlen, bin_lss]
    refine and_i (r := decide (((2 * i : Nat) : Int) < 8)) (fun _ k' hk' => by rw [bin_lss]; exact hk') ?_
    refine wIf_i _ (fun hc => ?_) (fun hc => ?_)
    · simp only [Bool.and_eq_true, decide_eq_true_eq] at hc
      have hne : bs ≠ [] := by intro h; rw [h] at hc; simp at hc; omega
      refine draw_i fun w4 hE4 _ => ?_
      have l4 := hE4.le
      have S4 := (((S.ex0 hE1).ex0 hE2).ex hE3 (hvb hne)).ex0 hE4
      have B4 := B3.ex hE4 (by simp)
      have h1 : 2 * i < bs.length := by omega
      have h2 : 2 * i + 1 < bs.length := by omega
      have hg1' : (bvs bs)[((2 * i : Nat) : Int).toNat]? = some (.int .u8 (bs[2 * i] : Nat)) := by rw [Int.toNat_natCast]; exact bvs_get (List.getElem?_eq_getElem h1)
      refine S4.ix1 s_T_Luint8 (by omega) hg1' fun a ha => ?_
      have hb4 := hbs _ (List.getElem_mem h1)
      have hb5 := hbs _ (List.getElem_mem h2)
      rw [ld_one o_T_uint8 ha, conv_8_i hb4, bin_rem (by omega) (by omega), bin_add (by omega), bin_add (by omega)]
      have hg2' : (bvs bs)[(((2 * i : Nat) : Int) + 1).toNat]? = some (.int .u8 (bs[2 * i + 1] : Nat)) := by
        rw [show (((2 * i : Nat) : Int) + 1).toNat = 2 * i + 1 by omega]; exact bvs_get (List.getElem?_eq_getElem h2)
      refine S4.ix1 s_T_Luint8 (by omega) hg2' fun a ha => ?_
      rw [ld_one o_T_uint8 ha, ix_s (i := 2 + bs[2 * i] % 122) (by omega) (by omega)]
      refine st_one o_T_uint8 rfl B4 (by rw [bvs_length]; omega) fun w5 hE5 B5 => ?_
      rw [bvs_set] at B5
      rw [bin_add (by omega)]
      exact hk2 _ _ (by omega) ⟨by first | rfl | (congr 1; omega), (hE3.trans hE4.nil).trans hE5, _, by rw [List.length_set]; exact hs1, set_lt hb1 _ hb5, B5⟩
    · exact hk1 w3 ⟨hE3, s1, hs1, hb1, B3⟩
  rintro J w3 ⟨hE3, s1, hs1, hb1, B3⟩
  have l3 := hE3.le
  rw [sliceA_hi a_T_api_Sector (by omega) (by omega)]
  have hS3 : SlG w3 1 (.slice (some ⟨g1, 0, none⟩) (124 : Int).toNat 128) (bvs (s1.take 124)) := by
    refine SlG.of_cs (fun i x hx => ?_) (by rw [bvs_length, List.length_take, hs1]; rfl) (by omega)
    rw [Nat.zero_add, B3.cell]
    unfold bvs at hx ⊢
    rw [List.map_take, List.getElem?_take] at hx
    split at hx
    · exact hx
    · cases hx
  refine ref02_Crc hS3 (fun b hb' => hb1 b (List.mem_of_mem_take hb')) (by rw [List.length_take]; omega) ?_
  have hcl := crc_lt (s1.take 124)
  generalize crc (s1.take 124) = c at *
  refine j0_of (fun w' => Ex [g1] w2 w' ∧ ∃ s1, s1.length = 128 ∧ (∀ b ∈ s1, b < 256) ∧ Blk w' g1 T_api_Sector (bvs s1)) (fun k1 hk1 => ?_) ?_
  · refine loop_up 4 (fun i x w' => x = .int .i64 (i : Int) ∧ Ex [g1] w2 w' ∧ ∃ s1, s1.length = 128 ∧ (∀ b ∈ s1, b < 256) ∧ Blk w' g1 T_api_Sector (bvs s1)) ⟨rfl, hE3, s1, hs1, hb1, B3⟩ ?_
    rintro i J x w4 k2 hi ⟨rfl, hE4, s2, hs2, hb2, B4⟩ hk2
    rw [bin_lss]
    refine wIf_d (fun hlt => ?_) (fun hge => ?_)
    · rw [bin_add (by omega), bin_mul (by omega), bin_shr (by omega), conv_i i_T_uint32 i_T_uint8]
      obtain ⟨b, hb256, he⟩ : ∃ b : Nat, b < 256 ∧ IntKind.wrap .u8 ((c : Int).fdiv (2 ^ min (8 * (i : Int)).toNat IntKind.u32.bits)) = (b : Int) := by
        rw [IntKind.wrap_u8]
        exact ⟨(((c : Int).fdiv (2 ^ min (8 * (i : Int)).toNat IntKind.u32.bits)) % 256).toNat, by omega, by omega⟩
      rw [he, ix_s (i := 124 + i) (by omega) (by omega)]
      refine st_one o_T_uint8 rfl B4 (by rw [bvs_length]; omega) fun w5 hE5 B5 => ?_
      rw [bvs_set] at B5
      rw [bin_add (by omega)]
      exact hk2 _ _ (by omega) ⟨by simp, hE4.trans hE5, _, by rw [List.length_set]; exact hs2, set_lt hb2 _ hb256, B5⟩
    · exact hk1 w4 ⟨hE4, s2, hs2, hb2, B4⟩
  rintro J w4 ⟨hE4, s2, hs2, hb2, B4⟩
  rw [ld_sector g_T_api_Sector hs2 B4]
  refine st_sector g_T_api_Sector hs2 (B2.ex hE4 (by simp; omega)) List.length_replicate fun w5 hE5 B5 => ?_
  refine res_sector g_T_api_Sector hs2 B5 ?_
  exact hk s2 w5 hs2 hb2 (((hE1.trans hE2).step hE4 (by simp; omega)).new hE5 (by omega))
theorem law05_awake {k : Value → World → Prop} (hk : ∀ w', Ex [] w w' → k (.bool true) w') : wCall P n_law05_awake [] w k := by
  refine call_law05_awake ?_
  unfold F_law05_awake
  obtain ⟨r, hr⟩ : ∃ r : List Int, r = [3, 9, 1, 300, 0, 0, 0, 0, 0, 0, 0, 0, 0, 77, 0] := ⟨_, rfl⟩
  have hl : r.length = 15 := by rw [hr]; rfl
  have hin : inR kInode r := by rw [hr]; simp [inR, inR1, kInode]
  rw [bl_T_codec_Inode (cs := rc kInode r) (by
    rw [fill_cons (off := 0) (size := 1) rfl rfl rfl (by simp), fill_cons (off := 1) (size := 1) rfl rfl rfl (by simp [splice]), fill_cons (off := 2) (size := 1) rfl rfl rfl (by simp [splice]), fill_cons (off := 3) (size := 1) rfl rfl rfl (by simp [splice]), fill_cons (off := 13) (size := 1) rfl rfl rfl (by simp [splice])]
    rw [hr]; rfl)]
  refine alloc_i z_Inode (vs := rc kInode (zs kInode)) rfl fun w1 g1 hg1 hE1 B1 => ?_
  refine st_all g_T_codec_Inode (rc_length hl) (rc_isC _ _) B1 (rc_length (zs_length _)) fun w2 hE2 B2 => ?_
  have E2 : Ex [] w w2 := hE1.new hE2 (by omega)
  rw [ld_aggT g_T_codec_Inode (rc_length hl) _ _ _ B2]
  obtain ⟨s, hs⟩ : ∃ s, writeR 2 wInode (mayB 2 1 2) r = some s := by
    unfold writeR sealMk
    rw [if_pos (by rw [hr]; decide), if_neg (by rw [encF_length _ _ (by rw [hl]; rfl)]; decide)]
    exact ⟨_, rfl⟩
  have hsl := writeR_len _ hs
  have hsb := writeR_lt (by omega) hs
  refine codec_WriteInode hl hin fun w3 hE3 => ?_
  rw [hs]
  show wExtract P (.tuple #[sv s, .int .i64 0]) 0 w3 _
  rw [ext_0]
  show wExtract P (.tuple #[sv s, .int .i64 0]) 1 w3 _
  rw [ext_1]
  refine alloc_i z_T_api_Sector (vs := List.replicate 128 (.int .u8 0)) rfl fun w4 g4 hg4 hE4 B4 => ?_
  refine st_sector g_T_api_Sector hsl B4 List.length_replicate fun w5 hE5 B5 => ?_
  have E5 : Ex [] w w5 := (E2.trans hE3).trans (hE4.new hE5 (by omega))
  rw [ld_sector g_T_api_Sector hsl B5]
  have hrd := readR_writeR (by rw [hl]; rfl) hs
  refine codec_ReadInode hsl hsb (fun h => by rw [hrd] at h; cases h) fun q hq w6 hE6 => ?_
  rw [hrd] at hq
  injection hq with hq
  subst hq
  rw [ext_0, ext_1]
  refine alloc_i z_Inode (vs := rc kInode (zs kInode)) rfl fun w7 g7 hg7 hE7 B7 => ?_
  refine st_all g_T_codec_Inode (rc_length hl) (rc_isC _ _) B7 (rc_length (zs_length _)) fun w8 hE8 B8 => ?_
  have E8 : Ex [] w5 w8 := hE6.trans (hE7.new hE8 (by omega))
  rw [bl_T_codec_Inode (cs := rc kInode (zs kInode)) rfl]
  have hz : writeR 2 wInode (mayB 2 1 2) (zs kInode) = none := by unfold writeR; rw [if_neg (by decide)]
  refine codec_WriteInode (zs_length _) (by simp [inR, inR1, kInode, zs]) fun w9 hE9 => ?_
  rw [hz]
  show wExtract P (.tuple #[sv zeroS, .int .i64 1]) 0 w9 _
  rw [ext_0]
  show wExtract P (.tuple #[sv zeroS, .int .i64 1]) 1 w9 _
  rw [ext_1]
  refine alloc_i z_T_api_Sector (vs := List.replicate 128 (.int .u8 0)) rfl fun w10 g10 hg10 hE10 B10 => ?_
  refine st_sector g_T_api_Sector zeroS_length B10 List.length_replicate fun w11 hE11 B11 => ?_
  have E11 : Ex [] w8 w11 := hE9.trans (hE10.new hE11 (by omega))
  rw [bin_eql]
  refine and_i (r := true) (fun _ k' hk' => by rw [bin_eql]; exact hk') ?_
  refine and_i (r := true) (fun _ k' hk' => ?_) ?_
  · have E25 : Ex [] w2 w5 := hE3.trans (hE4.new hE5 (by omega))
    rw [ld_aggT g_T_codec_Inode (rc_length hl) _ _ _ (((B2.ex E25 (by simp)).ex E8 (by simp)).ex E11 (by simp)), ld_aggT g_T_codec_Inode (rc_length hl) _ _ _ (B8.ex E11 (by simp)), eq_Inode hl hl, decide_eq_true rfl]
    exact hk'
  refine and_i (r := true) (fun _ k' hk' => by rw [bin_eql]; exact hk') ?_
  exact hk w11 ((E5.trans E8).trans E11)
end
end Go.Dn
end
section
/-! codec.ReadSummary; the reference's WriteSummary. -/
set_option maxRecDepth 10000
set_option linter.unusedVariables false
set_option linter.unusedSimpArgs false
namespace Go.Dn
open Go
theorem mayEs_len {es : List (List Int)} (h : mayEs es = true) : es.length ≤ 8 := by
  unfold mayEs mayL at h
  rw [Bool.and_eq_true, decide_eq_true_eq] at h
  omega
theorem rdS1_some {s : List Nat} {x : Sm} (hb : ∀ b ∈ s, b < 256) (h : rdS1 s = some x) : ∃ body, sealOp s = some (3, body) ∧ rdSm body = some x ∧ mayEs x.es = true ∧ x.ok := by
  unfold rdS1 at h
  split at h
  · rename_i k body hop
    split at h
    · rename_i hk
      subst hk
      split at h
      · rename_i y hy
        split at h
        · rename_i hm
          injection h with h
          subst h
          exact ⟨body, hop, hy, hm, (rdSm_ok (sealOp_lt hb hop).2 hy).1⟩
        · cases h
      · cases h
    · cases h
  · cases h
theorem writeSm_len {x : Sm} : ∀ s, writeSm x = some s → s.length = 128 := by
  intro s h
  unfold writeSm at h
  split at h
  · exact sealMk_len h
  · cases h
section
variable {w : World}
theorem codec_ReadSummary {s : List Nat} {k : Value → World → Prop} (hs : s.length = 128) (hb : ∀ b ∈ s, b < 256)
    (hk : ∀ v w', Ex [] w w' → Own w' w.heap.size T_codec_Entry 4 v (rcs kEntry ((rdS2 s).getD sm0).es) → k (.tuple #[.agg ⟨((rdS2 s).getD sm0).cells v⟩, .int .i64 (if (rdS2 s).isSome = true then 0 else 21)]) w') :
    wCall P n_codec_ReadSummary [sv s] w k := by
  refine call_codec_ReadSummary _ ?_
  unfold F_codec_ReadSummary
  have hT := g_T_codec_Summary
  have hz : zeroT P T_codec_Summary = some (.agg ⟨sm0.cells (.slice none 0 0)⟩) := z_T_codec_Summary
  refine box_i (sv_cells s) fun w1 g1 hg1 hE1 B1 => ?_
  refine alloc_i hz (vs := sm0.cells (.slice none 0 0)) rfl fun w2 g2 hg2 hE2 B2 => ?_
  have l1 := hE1.le
  have l2 := hE2.le
  have lt1 := B1.lt
  have lt2 := B2.lt
  have E2 := hE1.trans hE2
  have B12 := B1.ex hE2 (by simp)
  rw [ld_sector g_T_api_Sector hs B12]
  refine codec_read_Summary hs hb fun v w3 hE3 hO3 => ?_
  generalize ho : rdS1 s = o at *
  have hx : (o.getD sm0).ok ∧ (o.getD sm0).es.length ≤ 8 := by
    cases o with
    | none => exact ⟨sm0_ok, by simp [sm0]⟩
    | some x =>
      obtain ⟨_, _, _, h1, h2⟩ := rdS1_some hb ho
      exact ⟨h2, mayEs_len h1⟩
  have l3 := hE3.le
  rw [ext_0, ext_1]
  refine alloc_i hz (vs := sm0.cells (.slice none 0 0)) rfl fun w4 g4 hg4 hE4 B4 => ?_
  have l4 := hE4.le
  refine st_all hT rfl (cells_isC _ (own_isC hO3)) B4 rfl fun w5 hE5 B5 => ?_
  have E35 : Ex [] w3 w5 := hE4.new hE5 (by omega)
  rw [ld_aggT hT rfl _ _ _ B5]
  refine codec_WriteSummary hx.1 (hO3.ex0 E35).slb (by omega) fun w6 hE6 => ?_
  unfold wrV
  rw [ext_0, ext_1]
  have hwl : ((writeSm (o.getD sm0)).getD zeroS).length = 128 := wrV_len writeSm_len
  refine alloc_i z_T_api_Sector (vs := List.replicate 128 (.int .u8 0)) rfl fun w7 g7 hg7 hE7 B7 => ?_
  refine st_sector g_T_api_Sector hwl B7 List.length_replicate fun w8 hE8 B8 => ?_
  have E68 : Ex [] w6 w8 := hE7.new hE8 (by omega)
  have E28 : Ex [] w2 w8 := ((hE3.trans E35).trans hE6).trans E68
  have E8 := E2.trans E28
  have B58 := (B5.ex hE6 (by simp)).ex E68 (by simp)
  have hO8 := ((hO3.ex0 E35).ex0 hE6).ex0 E68
  rw [bin_neq]
  refine or_i (r := decide ((if (writeSm (o.getD sm0)).isSome = true then (0 : Int) else 1) ≠ 0)) (fun _ k' hk' => by rw [bin_neq]; exact hk') ?_
  refine or_i (r := !decide ((writeSm (o.getD sm0)).getD zeroS = s)) (fun _ k' hk' => ?_) ?_
  · rw [ld_sector g_T_api_Sector hwl B8, ld_sector g_T_api_Sector hs (B12.ex E28 (by simp)), ne_sector hwl hs]
    exact hk'
  have hzl : (sm0.cells (.slice none 0 0)).length = 6 := rfl
  refine wIf_i _ (fun hc => ?_) (fun hc => ?_)
  · rw [bl_T_codec_Summary (cs := sm0.cells (.slice none 0 0)) rfl]
    refine st_all hT rfl (cells_isC sm0 rfl) (B2.ex E28 (by simp)) rfl fun w9 hE9 B9 => ?_
    refine res_agg hT B9.all rfl ?_
    have hno : rdS2 s = none := by
      unfold rdS2
      rw [ho]
      cases o with
      | none => rfl
      | some x =>
        simp only
        rw [if_neg]
        intro hws
        simp only [Option.getD_some, hws, Option.isSome_some, if_true] at hc
        simp at hc
    have := hk (.slice none 0 0) w9 (E8.new hE9 (by omega)) (by rw [hno]; exact Own.nil _ _ _ _)
    rw [hno] at this
    exact this
  · simp only [Bool.or_eq_false_iff, decide_eq_false_iff_not, Bool.not_eq_false', decide_eq_true_eq, Decidable.not_not] at hc
    obtain ⟨⟨h1, h2⟩, h3⟩ := hc
    obtain ⟨x, rfl⟩ : ∃ x, o = some x := by
      cases o with
      | none => simp at h1
      | some x => exact ⟨x, rfl⟩
    simp only [Option.getD_some] at *
    have hr : rdS2 s = some x := by
      unfold rdS2
      rw [ho]
      simp only
      rw [if_pos]
      have h2' : (if (writeSm x).isSome = true then (0 : Int) else 1) = 0 := h2
      have h3' : (writeSm x).getD zeroS = s := h3
      cases hw : writeSm x with
      | none => simp [hw] at h2'
      | some t => simp only [hw, Option.getD_some] at h3'; rw [h3']
    rw [ld_aggT hT rfl _ _ _ B58]
    refine st_all hT rfl (cells_isC x (own_isC hO3)) (B2.ex E28 (by simp)) rfl fun w9 hE9 B9 => ?_
    refine res_agg hT B9.all rfl ?_
    have hO9 := (hO8.base (show w.heap.size ≤ w2.heap.size by omega)).ex hE9 fun g hg hm => by
      have := hO3.newb g (by rw [hg]; simp)
      simp at hm
      omega
    have := hk v w9 (E8.new hE9 (by omega)) (by rw [hr]; exact hO9)
    rw [hr] at this
    exact this
/-- Where a slice of one's own has gone. -/
def Went (w : World) (v v' : Value) : Prop := v'.ownBlock = v.ownBlock ∨ ∃ g, v'.ownBlock = some g ∧ w.heap.size ≤ g
theorem Went.off {v v' : Value} {g : Nat} (h : Went w v v') (hg : g < w.heap.size) (hv : g ∉ v.ownBlock.toList) : g ∉ v'.ownBlock.toList := by
  rcases h with h | ⟨g', h, hge⟩
  · rw [h]; exact hv
  · rw [h]; simp; omega
theorem push_b {base : Nat} {v : Value} {bs : List Nat} {n : Int} {K : Value → World → Prop} (hO : Own w base T_uint8 1 v (bvs bs)) (hbl : bs.length ≤ 1000) (h0 : 0 ≤ n) (h1 : n ≤ 255) (hba : base ≤ w.heap.size)
    (hk : ∀ v' w', Own w' base T_uint8 1 v' (bvs (bs ++ [n.toNat])) → Ex v.ownBlock.toList w w' → Went w v v' → K v' w') : wConv P T_int T_uint8 (.int .i64 n) w fun t w => wBuildS P T_Luint8 1 [(0, t)] w fun t w => wBuiltin P .append #[T_Luint8, T_Luint8] [v, t] w K := by
  rw [conv_i i_T_int i_T_uint8, IntWalk.u8_in _ (by omega)]
  have e : n = ((n.toNat : Nat) : Int) := by omega
  rw [e]
  exact push_u8 hO rfl (by omega) hba fun v' w' hO' hE' hW => hk v' w' hO' hE' hW
theorem app_lowN {base x wd : Nat} {v : Value} {bs : List Nat} {K : Value → World → Prop} (hO : Own w base T_uint8 1 v (bvs bs)) (hbl : bs.length ≤ 1000) (hx : x < 18446744073709551616) (hw : wd ≤ 8) (hba : base ≤ w.heap.size)
    (hk : ∀ v' w', Own w' base T_uint8 1 v' (bvs (bs ++ low x wd)) → Ex v.ownBlock.toList w w' → Went w v v' → K v' w') : wCall P n_ref01_Low [.int .u64 (x : Int), .int .i64 (wd : Int)] w fun t w => wBuiltin P .append #[T_Luint8, T_Luint8] [v, t] w K := by
  refine ref01_Low hx (by omega) fun u w1 hE1 hO1 => ?_
  have l1 := hE1.le
  refine app_T_Luint8 (n := bs.length) (m := wd) (hO.ex0 hE1) hO1.slg (by rw [bvs_length]; omega) (by rw [bvs_length, low_length]; omega) (bvs_isC _) (by omega) (by omega) fun v' w2 hO2 hE2 hv => ?_
  refine hk v' w2 ?_ (hE1.nil.trans hE2) ?_
  · rw [bvs_append]
    exact hO2
  · rcases hv with h | h
    · exact .inl h
    · exact .inr ⟨_, h, by omega⟩
def okE (r : List Int) : Bool := !((((decide (r.getD 0 0 < 1) || decide (6 < r.getD 0 0)) || decide (65535 < r.getD 1 0)) || decide (r.getD 3 0 < 0)) || decide (65535 < r.getD 3 0))
theorem okE_iff {r : List Int} (hl : r.length = 4) (hin : inR kEntry r) : okE r = (mayB 0 1 6 r && okNs wEnt r) := by
  match r, hl with
  | [a, b, c, d], _ =>
    obtain ⟨⟨ha0, ha1⟩, ⟨hb0, hb1⟩, ⟨hc0, hc1⟩, ⟨hd0, hd1⟩, _⟩ := hin
    rw [Bool.eq_iff_iff]
    unfold okE mayB
    simp only [wEnt, okNs, okN, List.getD_cons_zero, List.getD_cons_succ, Bool.not_eq_true', Bool.or_eq_false_iff, decide_eq_false_iff_not, Bool.and_eq_true, decide_eq_true_eq]
    constructor
    · rintro ⟨⟨⟨⟨h1, h2⟩, h3⟩, h4⟩, h5⟩
      exact ⟨⟨by omega, by omega⟩, ⟨by omega, by omega⟩, ⟨by omega, by omega⟩, ⟨by omega, by omega⟩, ⟨by omega, by omega⟩, trivial⟩
    · rintro ⟨⟨h1, h2⟩, ⟨h3, h4⟩, ⟨h5, h6⟩, ⟨h7, h8⟩, ⟨h9, h10⟩, _⟩
      exact ⟨⟨⟨⟨by omega, by omega⟩, by omega⟩, by omega⟩, by omega⟩
theorem writeSm_eq {x : Sm} (hok : x.ok) : writeSm x = if decide ((x.es.length : Int) ≤ 8) = true ∧ okN 2 x.next = true ∧ x.es.all okE = true then sealMk 3 x.body else none := by
  obtain ⟨⟨h1, h1'⟩, ⟨h2, h2'⟩, _, ⟨h4, h4'⟩, hlen, hin⟩ := hok
  have hall : x.es.all okE = (x.es.all (mayB 0 1 6) && okR wEnt x.es) := by
    unfold okR
    rw [Bool.eq_iff_iff, Bool.and_eq_true, List.all_eq_true, List.all_eq_true, List.all_eq_true]
    constructor
    · intro h
      exact ⟨fun r hr => by have := h r hr; rw [okE_iff (hlen r hr) (hin r hr), Bool.and_eq_true] at this; exact this.1, fun r hr => by have := h r hr; rw [okE_iff (hlen r hr) (hin r hr), Bool.and_eq_true] at this; exact this.2⟩
    · rintro ⟨ha, hb⟩ r hr
      rw [okE_iff (hlen r hr) (hin r hr), Bool.and_eq_true]
      exact ⟨ha r hr, hb r hr⟩
  have oka : okN 8 x.seq = true := by unfold okN; rw [decide_eq_true h1, Bool.true_and, decide_eq_true]; omega
  have okb : okN 8 x.first = true := by unfold okN; rw [decide_eq_true h2, Bool.true_and, decide_eq_true]; omega
  have okt : okN 4 x.time = true := by unfold okN; rw [decide_eq_true h4, Bool.true_and, decide_eq_true]; omega
  have okc : okN 1 (b01 x.c) = true := by unfold b01 okN; cases x.c <;> rfl
  have hnums : okNs wSum x.nums = (okN 1 (x.es.length : Int) && okN 2 x.next) := by
    show (okN 8 x.seq && (okN 8 x.first && (okN 1 (b01 x.c) && (okN 1 (x.es.length : Int) && (okN 2 x.next && (okN 4 x.time && true)))))) = _
    rw [oka, okb, okc, okt]
    simp
  unfold writeSm
  by_cases hl : (x.es.length : Int) ≤ 8
  · have okn : okN 1 (x.es.length : Int) = true := by unfold okN; rw [decide_eq_true (by omega), Bool.true_and, decide_eq_true]; omega
    rw [hnums, okn, Bool.true_and, hall]
    unfold mayEs mayL
    have : decide ((x.es.length : Int) ≤ ((8 : Nat) : Int)) = true := decide_eq_true (by omega)
    rw [this, Bool.and_true, decide_eq_true hl]
    by_cases hB : okN 2 x.next = true ∧ x.es.all (mayB 0 1 6) = true ∧ okR wEnt x.es = true
    · obtain ⟨b, a, c⟩ := hB
      rw [if_pos ⟨a, b, c⟩, if_pos ⟨rfl, b, by rw [a, c]; rfl⟩]
    · rw [if_neg fun h => hB ⟨h.2.1, h.1, h.2.2⟩, if_neg fun h => hB (by rw [Bool.and_eq_true] at h; exact ⟨h.2.1, h.2.2.1, h.2.2.2⟩)]
  · have hm : mayEs x.es = false := by
      unfold mayEs mayL
      rw [Bool.and_eq_false_iff]
      exact .inr (decide_eq_false (by omega))
    rw [if_neg (by simp [hm]), if_neg (by simp [decide_eq_false hl])]
theorem encR_take {ws : List Nat} {es : List (List Int)} {i : Nat} (h : i < es.length) : encR ws (es.take (i + 1)) = encR ws (es.take i) ++ encF ws es[i] := by
  unfold encR
  rw [List.take_succ_eq_append_getElem h, List.flatMap_append, List.flatMap_cons, List.flatMap_nil, List.append_nil]
theorem conv_i_u64w {n : Int} (h : 0 ≤ n) (h1 : n ≤ 9223372036854775807) {K : Value → World → Prop} : wConv P T_int T_uint64 (.int .i64 n) w K = K (.int .u64 ((n.toNat : Nat) : Int)) w := conv_i_u64 h h1
theorem ref05_WriteSummary {x : Sm} {v : Value} {k : Value → World → Prop} (hok : x.ok) (S : SlG w 4 v (rcs kEntry x.es)) (hvc : isC v = true) (hn : x.es.length ≤ 1000) (hk : ∀ w', Ex [] w w' → k (wrB (writeSm x)) w') : wCall P n_ref05_WriteSummary [.agg ⟨x.cells v⟩] w k := by
  refine call_ref05_WriteSummary _ ?_
  unfold F_ref05_WriteSummary
  rw [writeSm_eq hok] at hk
  obtain ⟨⟨h1, h1'⟩, ⟨h2, h2'⟩, ⟨h3, h3'⟩, ⟨h4, h4'⟩, hlen, hin⟩ := hok
  refine box_i (vs := x.cells v) rfl fun w1 g1 hg1 hE1 B1 => ?_
  refine alloc_i z_T_A128uint8 (vs := List.replicate 128 (.int .u8 0)) rfl fun w2 g2 hg2 hE2 B2 => ?_
  refine draw_i fun w3 hE3 _ => ?_
  have l1 := hE1.le
  have l2 := hE2.le
  have l3 := hE3.le
  have E3 := (hE1.trans hE2).trans hE3
  have B13 := (B1.ex hE2 (by simp)).ex hE3 (by simp)
  have B23 := B2.ex hE3 (by simp)
  have lt1 := B13.lt
  have lt2 := B23.lt
  have c0 : w3.cell? ⟨g1, 0 + 0, none⟩ = some (.int .u64 x.seq) := B13.cell 0
  have c1 : w3.cell? ⟨g1, 0 + 1, none⟩ = some (.int .u64 x.first) := B13.cell 1
  have c2 : w3.cell? ⟨g1, 0 + 2, none⟩ = some (.bool x.c) := B13.cell 2
  have c3 : w3.cell? ⟨g1, 0 + 3, none⟩ = some (.int .i64 x.next) := B13.cell 3
  have c4 : w3.cell? ⟨g1, 0 + 4, none⟩ = some (.int .u32 x.time) := B13.cell 4
  have c5 : w3.cell? ⟨g1, 0 + 5, none⟩ = some v := B13.cell 5
  have hsl : (rcs kEntry x.es).length = x.es.length * 4 := rcs_length hlen
  have S3 := S.ex0 E3
  have vlen : ∀ (w' : World) (K : Value → World → Prop), wLen P .len #[T_Lref05_Entry] [v] w' K = K (.int .i64 (x.es.length : Int)) w' := fun w' K => len_slb (t := T_Lref05_Entry) S3 (by omega) (n := x.es.length) hsl w' K u_T_Lref05_Entry
  rw [fA_T_ref05_Summary_0, ld_one o_T_uint64 c0, fA_T_ref05_Summary_1, ld_one o_T_uint64 c1]
  have ea : x.seq = ((x.seq.toNat : Nat) : Int) := by omega
  have eb : x.first = ((x.first.toNat : Nat) : Int) := by omega
  generalize hsq : x.seq.toNat = sq at *
  generalize hfi : x.first.toNat = fi at *
  rw [ea, eb]
  refine ref01_Low (wd := 8) (by omega) (by omega) fun v4 w4 hE4 hO4 => ?_
  have l4 := hE4.le
  refine ⟨keep_cons (loadAt_one o_T_uint64 (by rw [← eb]; exact hE4.cell c1)) keep_nil, ?_⟩
  refine app_low (wd := 8) hO4 (by rw [low_length]; omega) (by omega) (by omega) (by omega) fun v5 w5 hO5 hE5 => ?_
  have E5 : Ex [] w3 w5 := hE4.step hE5 fun y hy => .inr (hO4.newb y hy).1
  have l5 := E5.le
  have none_ : ∀ wa, Ex [] w3 wa → ((decide ((x.es.length : Int) ≤ 8) = true ∧ okN 2 x.next = true ∧ x.es.all okE = true) → False) → (wBuild P T_A128uint8 [] wa fun t29 w => wStore P T_A128uint8 (ptr g2) t29 w fun w => wRes P T_A128uint8 (ptr g2) w fun r2 => k (.tuple #[r2, (.bool false)]) w) := by
    intro wa hEa hno
    refine wrB_none (B23.ex hEa (by simp)) fun w' hE' => ?_
    have := hk w' ((E3.trans hEa).new hE' (by omega))
    rw [if_neg hno] at this
    exact this
  rw [fA_T_ref05_Summary_5, ld_one o_T_Lref05_Entry (E5.cell c5), vlen, bin_gtr]
  refine or_i (r := decide (x.next < 0)) (fun _ k' hk' => by rw [fA_T_ref05_Summary_3, ld_one o_T_int (E5.cell c3), bin_lss]; exact hk') ?_
  refine or_i (r := decide (65535 < x.next)) (fun _ k' hk' => by rw [fA_T_ref05_Summary_3, ld_one o_T_int (E5.cell c3), bin_gtr]; exact hk') ?_
  refine wIf_i _ (fun hc => ?_) (fun hc => ?_)
  · refine none_ w5 E5 ?_
    rintro ⟨ha, hb, _⟩
    rw [okN_2] at hb
    simp only [Bool.or_eq_true, decide_eq_true_eq, Bool.and_eq_true, Bool.not_eq_true', decide_eq_false_iff_not] at hc ha hb
    omega
  · simp only [Bool.or_eq_false_iff, decide_eq_false_iff_not] at hc
    obtain ⟨⟨hl8, hn0⟩, hn1⟩ := hc
    have hnx : okN 2 x.next = true := by
      rw [okN_2]
      simp only [Bool.and_eq_true, Bool.not_eq_true', decide_eq_false_iff_not]
      exact ⟨hn0, hn1⟩
    refine j1_of (fun u w' => u = .int .u8 (b01 x.c) ∧ w' = w5) (fun k1 hk1 => ?_) ?_
    · rw [fA_T_ref05_Summary_2, ld_one o_T_bool (E5.cell c2)]
      cases hcc : x.c
      · rw [wIf_f]; exact hk1 _ _ ⟨by rw [hcc]; rfl, rfl⟩
      · rw [wIf_t]; exact hk1 _ _ ⟨by rw [hcc]; rfl, rfl⟩
    rintro J u wx ⟨rfl, rfl⟩
    rw [fA_T_ref05_Summary_5, ld_one o_T_Lref05_Entry (E5.cell c5), vlen, conv_i i_T_int i_T_uint8, IntWalk.u8_in _ (by omega)]
    have eb01 : b01 x.c = (((b01 x.c).toNat : Nat) : Int) := by unfold b01; cases x.c <;> rfl
    have hb01 : (b01 x.c).toNat < 256 := by unfold b01; cases x.c <;> decide
    generalize hcn : (b01 x.c).toNat = cn at *
    rw [eb01]
    refine buildS_ones (xs := bvs [cn, x.es.length]) rfl u_T_Luint8 o_T_uint8 z_T_uint8 rfl rfl (by omega) (fun y hy => by obtain ⟨n, _, rfl⟩ := List.mem_map.1 hy; rfl) fun w6 g6 hg6 hE6 B6 => ?_
    have l6 := hE6.le
    have hb5 : (low sq 8 ++ low fi 8).length = 16 := by simp [low_length]
    refine app_T_Luint8 (n := 16) (m := 2) (hO5.ex0 hE6) (SlG.of_cs B6.all rfl (Nat.le_refl _)) (by rw [bvs_length, hb5]) rfl (bvs_isC _) (by omega) (by omega) fun v7 w7 hO7 hE7 _ => ?_
    rw [← bvs_append] at hO7
    have E7 : Ex [] w3 w7 := (E5.trans hE6).step hE7 fun y hy => .inr (hO5.newb y hy).1
    have l7 := E7.le
    rw [fA_T_ref05_Summary_3, ld_one o_T_int (E7.cell c3), conv_i_u64 (by omega) (by omega)]
    refine app_low (wd := 2) hO7 (by simp [low_length]) (by omega) (by omega) (by omega) fun v8 w8 hO8 hE8 => ?_
    have E8 : Ex [] w3 w8 := E7.step hE8 fun y hy => .inr (hO7.newb y hy).1
    have l8 := E8.le
    rw [fA_T_ref05_Summary_4, ld_one o_T_uint32 (E8.cell c4), conv_32_u64 ⟨h4, h4'⟩]
    refine app_low (wd := 4) hO8 (by simp [low_length]) (by omega) (by omega) (by omega) fun v9 w9 hO9 hE9 => ?_
    have E9 : Ex [] w3 w9 := E8.step hE9 fun y hy => .inr (hO8.newb y hy).1
    have l9 := E9.le
    have hpre : low sq 8 ++ low fi 8 ++ [cn, x.es.length] ++ low x.next.toNat 2 ++ low x.time.toNat 4 = encF wSum x.nums := by
      rw [← hsq, ← hfi, ← hcn]
      have e1 : low (b01 x.c).toNat 1 = [(b01 x.c).toNat] := by
        show [(b01 x.c).toNat % 256] = _
        rw [Nat.mod_eq_of_lt (by omega)]
      have e2 : low ((x.es.length : Int).toNat) 1 = [x.es.length] := by
        show [(x.es.length : Int).toNat % 256] = _
        rw [Int.toNat_natCast, Nat.mod_eq_of_lt (by omega)]
      simp only [wSum, Sm.nums, encF, e1, e2]
      simp
    rw [hpre] at hO9
    have hpl : (encF wSum x.nums).length = 24 := encF_length wSum x.nums rfl
    have htl : ∀ i, (encR wEnt (x.es.take i)).length = (x.es.take i).length * 9 := fun i => by
      have := encR_length wEnt (x.es.take i) fun r hr => (hlen r (List.mem_of_mem_take hr)).symm
      simpa [wEnt] using this
    refine j1_of (fun u w' => Ex [] w3 w' ∧ x.es.all okE = true ∧ Own w' w3.heap.size T_uint8 1 u (bvs x.body)) (fun k1 hk1 => ?_) ?_
    · refine loop_up2 x.es.length (fun i u y w' => y = .int .i64 (i : Int) ∧ Ex [] w3 w' ∧ (x.es.take i).all okE = true ∧ Own w' w3.heap.size T_uint8 1 u (bvs (encF wSum x.nums ++ encR wEnt (x.es.take i)))) ⟨rfl, E9, rfl, by simpa [encR] using hO9⟩ ?_
      rintro i J u y wa k2 hi ⟨rfl, hEa, hall, hO⟩ hk2
      have la := hEa.le
      rw [fA_T_ref05_Summary_5, ld_one o_T_Lref05_Entry (hEa.cell c5), vlen, bin_lss]
      refine wIf_d (fun hlt => ?_) (fun hge => ?_)
      · have hlt : i < x.es.length := by omega
        have hrl := hlen _ (List.getElem_mem hlt)
        have hri := hin _ (List.getElem_mem hlt)
        have hel := rcs_elem hlen hlt
        have htk := encR_take (ws := wEnt) hlt
        have hokt : (x.es.take (i + 1)).all okE = ((x.es.take i).all okE && okE x.es[i]) := by
          rw [List.take_succ_eq_append_getElem hlt, List.all_append]
          simp
        have hbadall : okE x.es[i] = false → x.es.all okE = false := fun h => by
          rw [List.all_eq_false]
          exact ⟨x.es[i], List.getElem_mem hlt, by simp [h]⟩
        rw [fA_T_ref05_Summary_5, ld_one o_T_Lref05_Entry (hEa.cell c5)]
        refine (S3.ex0 hEa).ix s_T_Lref05_Entry (by omega) hsl (by omega) (by omega) fun b o hcs => ?_
        rw [Int.toNat_natCast] at hcs
        generalize hre : x.es[i] = r at *
        rw [show kEntry.length = 4 from rfl] at hel
        rw [hel] at hcs
        rw [ld_agg g_T_ref05_Entry hcs (rc_length hrl)]
        refine alloc_i z_T_ref05_Entry (vs := rc kEntry (zs kEntry)) rfl fun wb gb hgb hEb Bb => ?_
        refine st_all g_T_ref05_Entry (rc_length hrl) (rc_isC _ _) Bb rfl fun wc hEc Bc => ?_
        have Eac : Ex [] wa wc := hEb.new hEc (by omega)
        have Ec := hEa.trans Eac
        have lc := Ec.le
        have lac := Eac.le
        obtain ⟨a, b', c', d, rfl⟩ : ∃ a b c d, r = [a, b, c, d] := by
          match r, hrl with
          | [a, b, c, d], _ => exact ⟨a, b, c, d, rfl⟩
        obtain ⟨⟨ha0, ha1⟩, ⟨hb0, hb1⟩, ⟨hc0, hc1⟩, ⟨hd0, hd1⟩, _⟩ := hri
        have d0 : wc.cell? ⟨gb, 0 + 0, none⟩ = some (.int .i64 a) := Bc.cell 0
        have d1 : wc.cell? ⟨gb, 0 + 1, none⟩ = some (.int .u32 b') := Bc.cell 1
        have d2 : wc.cell? ⟨gb, 0 + 2, none⟩ = some (.int .u32 c') := Bc.cell 2
        have d3 : wc.cell? ⟨gb, 0 + 3, none⟩ = some (.int .i64 d) := Bc.cell 3
        rw [fA_T_ref05_Entry_0, ld_one o_T_int d0, bin_lss]
        refine or_i (r := decide (6 < a)) (fun _ k' hk' => by rw [fA_T_ref05_Entry_0, ld_one o_T_int d0, bin_gtr]; exact hk') ?_
        refine or_i (r := decide (65535 < b')) (fun _ k' hk' => by rw [fA_T_ref05_Entry_1, ld_one o_T_uint32 d1, bin_gtr]; exact hk') ?_
        refine or_i (r := decide (d < 0)) (fun _ k' hk' => by rw [fA_T_ref05_Entry_3, ld_one o_T_int d3, bin_lss]; exact hk') ?_
        refine or_i (r := decide (65535 < d)) (fun _ k' hk' => by rw [fA_T_ref05_Entry_3, ld_one o_T_int d3, bin_gtr]; exact hk') ?_
        refine wIf_i _ (fun hc => ?_) (fun hc => ?_)
        · refine none_ wc Ec ?_
          rintro ⟨_, _, hall'⟩
          have : okE [a, b', c', d] = false := by
            unfold okE
            simp only [List.getD_cons_zero, List.getD_cons_succ]
            rw [hc]; rfl
          rw [hbadall this] at hall'
          cases hall'
        · have hoke : okE [a, b', c', d] = true := by
            unfold okE
            simp only [List.getD_cons_zero, List.getD_cons_succ]
            rw [hc]; rfl
          simp only [Bool.or_eq_false_iff, decide_eq_false_iff_not] at hc
          obtain ⟨⟨⟨⟨q1, q2⟩, q3⟩, q4⟩, q5⟩ := hc
          have hOc := hO.ex0 Eac
          have hbl : (encF wSum x.nums ++ encR wEnt (x.es.take i)).length ≤ 96 := by
            rw [List.length_append, hpl, htl, List.length_take]
            omega
          rw [fA_T_ref05_Entry_0, ld_one o_T_int d0]
          have hgu : gb ∉ u.ownBlock.toList := fun hm => by have := hOc.newb gb hm; have := (hO.newb gb hm).2; omega
          have ltb := Bc.lt
          refine push_b hOc (by omega) (by omega) (by omega) (by omega) fun u1 wd hO1 hEd hW1 => ?_
          have Ed : Ex [] w3 wd := Ec.step hEd fun y hy => .inr (hOc.newb y hy).1
          have ld := hEd.le
          have Bd := Bc.ex hEd hgu
          have hg1u := hW1.off ltb hgu
          have d1 : wd.cell? ⟨gb, 0 + 1, none⟩ = some (.int .u32 b') := Bd.cell 1
          rw [fA_T_ref05_Entry_1, ld_one o_T_uint32 d1, conv_32_u64 ⟨hb0, hb1⟩]
          refine app_lowN (wd := 2) hO1 (by rw [List.length_append, List.length_singleton]; omega) (by omega) (by omega) (by omega) fun u2 we hO2 hEe hW2 => ?_
          have Ee : Ex [] w3 we := Ed.step hEe fun y hy => .inr (hO1.newb y hy).1
          have le := hEe.le
          have Be := Bd.ex hEe hg1u
          have hg2u := hW2.off (by omega) hg1u
          have d2 : we.cell? ⟨gb, 0 + 2, none⟩ = some (.int .u32 c') := Be.cell 2
          rw [fA_T_ref05_Entry_2, ld_one o_T_uint32 d2, conv_32_u64 ⟨hc0, hc1⟩]
          refine app_lowN (wd := 4) hO2 (by rw [List.length_append, List.length_append, List.length_singleton, low_length]; omega) (by omega) (by omega) (by omega) fun u3 wf hO3 hEf hW3 => ?_
          have Ef : Ex [] w3 wf := Ee.step hEf fun y hy => .inr (hO2.newb y hy).1
          have lf := hEf.le
          have Bf := Be.ex hEf hg2u
          have d3 : wf.cell? ⟨gb, 0 + 3, none⟩ = some (.int .i64 d) := Bf.cell 3
          rw [fA_T_ref05_Entry_3, ld_one o_T_int d3, conv_i_u64 (by omega) (by omega)]
          refine app_lowN (wd := 2) hO3 (by rw [List.length_append, List.length_append, List.length_append, List.length_singleton, low_length, low_length]; omega) (by omega) (by omega) (by omega) fun u4 wg hO4 hEg hW4 => ?_
          have Eg : Ex [] w3 wg := Ef.step hEg fun y hy => .inr (hO3.newb y hy).1
          rw [bin_add (by omega)]
          refine hk2 _ _ _ (by omega) ⟨by simp, Eg, by rw [hokt, hall, hoke]; rfl, ?_⟩
          rw [htk]
          have e1 : low a.toNat 1 = [a.toNat] := by
            show [a.toNat % 256] = _
            rw [Nat.mod_eq_of_lt (by omega)]
          have ee : encF wEnt [a, b', c', d] = [a.toNat] ++ low b'.toNat 2 ++ low c'.toNat 4 ++ low d.toNat 2 := by
            simp only [wEnt, encF, e1]
            simp
          rw [ee, ← List.append_assoc, ← List.append_assoc, ← List.append_assoc, ← List.append_assoc]
          exact hO4
      · obtain rfl : i = x.es.length := by omega
        rw [List.take_length] at hall hO
        exact hk1 _ _ ⟨hEa, hall, hO⟩
    · rintro J u wa ⟨hEa, hall, hO⟩
      refine ref02_MakeB (kind := 3) hO.slg (by omega) (fun y hy => ?_) ?_ fun wb hEb => ?_
      · unfold Sm.body at hy
        rcases List.mem_append.1 hy with h | h
        · exact encF_lt _ _ y h
        · exact encR_lt _ _ y h
      · have := htl x.es.length
        rw [List.take_length] at this
        unfold Sm.body
        rw [List.length_append, hpl, this]
        omega
      · refine wrB_end (fun s h => sealMk_len h) ((B23.ex hEa (by simp)).ex hEb (by simp)) fun wc hEc => ?_
        have := hk wc (((E3.trans hEa).trans hEb).new hEc (by omega))
        rw [if_pos ⟨decide_eq_true (by omega), hnx, hall⟩] at this
        exact this
end
end Go.Dn
end
section
/-! Summaries: the reference's reading is codec's. -/
set_option maxRecDepth 10000
set_option linter.unusedVariables false
set_option linter.unusedSimpArgs false
namespace Go.Dn
open Go
def rdS3 (s : List Nat) : Option Sm :=
  match sealOp s with
  | some (k, body) => if k = 3 ∧ 24 ≤ body.length ∧ body.getD 16 0 ≤ 1 ∧ body.length = 24 + 9 * body.getD 17 0 ∧ mayEs (decR wEnt (body.drop 24) (body.getD 17 0)) = true then some (smOf body (decR wEnt (body.drop 24) (body.getD 17 0))) else none
  | none => none
theorem encR_decR (ws : List Nat) : ∀ (n : Nat) (b : List Nat), (∀ x ∈ b, x < 256) → n * ws.sum ≤ b.length → encR ws (decR ws b n) = b.take (n * ws.sum)
  | 0, b, _, _ => by simp [decR, encR]
  | n + 1, b, hb, hl => by
    rw [Nat.succ_mul] at hl
    have h1 := encR_decR ws n (b.drop ws.sum) (fun x hx => hb x (List.mem_of_mem_drop hx)) (by rw [List.length_drop]; omega)
    show encF ws (decF ws b) ++ encR ws (decR ws (b.drop ws.sum) n) = _
    rw [h1, encF_decF ws b hb (by omega), Nat.succ_mul, Nat.add_comm (n * ws.sum), List.take_add]
theorem splitB {body : List Nat} (h : 24 ≤ body.length) : ∃ A B p q C D R, body = A ++ (B ++ (p :: q :: (C ++ (D ++ R)))) ∧ A.length = 8 ∧ B.length = 8 ∧ C.length = 2 ∧ D.length = 4 := by
  refine ⟨body.take 8, (body.drop 8).take 8, body[16], body[17], (body.drop 18).take 2, (body.drop 20).take 4, body.drop 24, ?_, by simp; omega, by simp; omega, by simp; omega, by simp; omega⟩
  have e1 : (body.drop 20).take 4 ++ body.drop 24 = body.drop 20 := by
    have := List.take_append_drop 4 (body.drop 20); rwa [List.drop_drop] at this
  have e2 : (body.drop 18).take 2 ++ body.drop 20 = body.drop 18 := by
    have := List.take_append_drop 2 (body.drop 18); rwa [List.drop_drop] at this
  have e3 : body[16] :: body[17] :: body.drop 18 = body.drop 16 := by
    rw [List.drop_eq_getElem_cons (i := 16) (by omega), List.drop_eq_getElem_cons (i := 17) (by omega)]
  have e4 : (body.drop 8).take 8 ++ body.drop 16 = body.drop 8 := by
    have := List.take_append_drop 8 (body.drop 8); rwa [List.drop_drop] at this
  rw [e1, e2, e3, e4, List.take_append_drop]
theorem low_num {l : List Nat} (h : ∀ b ∈ l, b < 256) {n : Nat} (hn : l.length = n) : low (((numOf l : Nat) : Int).toNat) n = l := by
  subst hn
  rw [Int.toNat_natCast, low_numOf l h]
theorem sealS_inj {k : Nat} {a b : List Nat} (hk : k ≠ 0) (ha : a.length ≤ 120) (hb : b.length ≤ 120) (h : sealS k a = sealS k b) : a = b := by
  have h1 := sealOp_mk hk ha
  have h2 := sealOp_mk hk hb
  rw [h, h2] at h1
  injection h1 with h1
  injection h1 with _ h1
  exact h1.symm
theorem rdS2_eq {s : List Nat} (hb : ∀ b ∈ s, b < 256) : rdS2 s = rdS3 s := by
  unfold rdS2 rdS1 rdS3
  cases hop : sealOp s with
  | none => rfl
  | some kb =>
    obtain ⟨k, body⟩ := kb
    simp only
    by_cases hk : k = 3
    · subst hk
      obtain ⟨_, hl120, hs⟩ := sealOp_some hop
      have hbb := (sealOp_lt hb hop).2
      rw [if_pos rfl]
      unfold rdSm
      by_cases h24 : 24 ≤ body.length
      · rw [if_pos h24]
        unfold recsOf
        have hsum : wEnt.sum = 9 := by simp [wEnt]
        rw [hsum, List.length_drop]
        by_cases hm : (body.length - 24) % 9 = 0
        · rw [if_pos hm]
          simp only
          generalize hN : (body.length - 24) / 9 = N
          have hlen : body.length = 24 + 9 * N := by omega
          generalize hes : decR wEnt (body.drop 24) N = es
          have hel : es.length = N := by rw [← hes, decR_length]
          have hxe : (smOf body es).es = es := rfl
          rw [hxe]
          by_cases hmay : mayEs es = true
          · rw [if_pos hmay]
            simp only
            have hN8 : N ≤ 8 := by have := mayEs_len hmay; omega
            have hokR : okR wEnt es = true := by rw [← hes]; exact decR_ok wEnt N _ (fun x hx => hbb x (List.mem_of_mem_drop hx)) (by rw [hsum, List.length_drop]; omega)
            have henc : encR wEnt es = body.drop 24 := by
              rw [← hes, encR_decR wEnt N _ (fun x hx => hbb x (List.mem_of_mem_drop hx)) (by rw [hsum, List.length_drop]; omega), hsum, List.take_of_length_le (by rw [List.length_drop]; omega)]
            have hwid : wid wEnt es := by rw [← hes]; exact decR_wid wEnt N _
            have hok : (smOf body es).ok := smOf_ok hbb hwid hokR
            -- the numbers
            have hnums : okNs wSum (smOf body es).nums = true := by
              have h18 := nb_rng hbb 18 2
              have h20 := nb_rng hbb 20 4
              have h0 := nb_rng hbb 0 8
              have h8 := nb_rng hbb 8 8
              show (okN 8 (nb body 0 8) && (okN 8 (nb body 8 8) && (okN 1 (b01 (decide (nb body 16 1 = 1))) && (okN 1 (es.length : Int) && (okN 2 (nb body 18 2) && (okN 4 (nb body 20 4) && true)))))) = true
              have f : ∀ (wd : Nat) (n : Int), 0 ≤ n → n < ((256 ^ wd : Nat) : Int) → okN wd n = true := fun wd n a b => by unfold okN; rw [decide_eq_true a, Bool.true_and, decide_eq_true]; omega
              rw [f 8 _ h0.1 h0.2, f 8 _ h8.1 h8.2, f 2 _ h18.1 h18.2, f 4 _ h20.1 h20.2, f 1 (es.length : Int) (by omega) (by show (es.length : Int) < 256; omega)]
              have : okN 1 (b01 (decide (nb body 16 1 = 1))) = true := by cases decide (nb body 16 1 = 1) <;> rfl
              rw [this]; rfl
            have hwr : writeSm (smOf body es) = sealMk 3 (smOf body es).body := by
              unfold writeSm
              rw [if_pos ⟨hmay, hnums, hokR⟩]
            have hbl : (smOf body es).body.length = 24 + 9 * N := by
              unfold Sm.body
              rw [List.length_append, encF_length wSum _ rfl, hxe, henc, List.length_drop]
              simp [wSum]
              omega
            have hmk : sealMk 3 (smOf body es).body = some (sealS 3 (smOf body es).body) := by
              unfold sealMk
              rw [if_neg (by omega)]
            rw [hwr, hmk, hs]
            obtain ⟨A, B, p, q, C, D, R, hbody, hA, hB, hC, hD⟩ := splitB h24
            have g16 : body.getD 16 0 = p := by
              rw [hbody, List.getD_eq_getElem?_getD, List.getElem?_append_right (by omega), List.getElem?_append_right (by omega), show 16 - A.length - B.length = 0 by omega]; rfl
            have g17 : body.getD 17 0 = q := by
              rw [hbody, List.getD_eq_getElem?_getD, List.getElem?_append_right (by omega), List.getElem?_append_right (by omega), show 17 - A.length - B.length = 1 by omega]; rfl
            have d8 : body.drop 8 = B ++ (p :: q :: (C ++ (D ++ R))) := by rw [hbody, List.drop_left' hA]
            have d16 : body.drop 16 = p :: q :: (C ++ (D ++ R)) := by
              have : body.drop 16 = (body.drop 8).drop 8 := by rw [List.drop_drop]
              rw [this, d8, List.drop_left' hB]
            have d18 : body.drop 18 = C ++ (D ++ R) := by
              have : body.drop 18 = (body.drop 16).drop 2 := by rw [List.drop_drop]
              rw [this, d16]; rfl
            have d20 : body.drop 20 = D ++ R := by
              have : body.drop 20 = (body.drop 18).drop 2 := by rw [List.drop_drop]
              rw [this, d18, List.drop_left' hC]
            have d24 : body.drop 24 = R := by
              have : body.drop 24 = (body.drop 20).drop 4 := by rw [List.drop_drop]
              rw [this, d20, List.drop_left' hD]
            have n0 : nb body 0 8 = ((numOf A : Nat) : Int) := by unfold nb; rw [List.drop_zero, hbody, List.take_left' hA]
            have n8 : nb body 8 8 = ((numOf B : Nat) : Int) := by unfold nb; rw [d8, List.take_left' hB]
            have n16 : nb body 16 1 = (p : Int) := by unfold nb; rw [d16]; simp [numOf]
            have n18 : nb body 18 2 = ((numOf C : Nat) : Int) := by unfold nb; rw [d18, List.take_left' hC]
            have n20 : nb body 20 4 = ((numOf D : Nat) : Int) := by unfold nb; rw [d20, List.take_left' hD]
            have hmem : ∀ x, x ∈ A ∨ x ∈ B ∨ x = p ∨ x = q ∨ x ∈ C ∨ x ∈ D → x < 256 := fun x hx => hbb x (by
              rw [hbody]
              simp only [List.mem_append, List.mem_cons]
              rcases hx with h | h | h | h | h | h <;> simp [h])
            have hxb : (smOf body es).body = A ++ (B ++ ((b01 (decide ((p : Int) = 1))).toNat % 256 :: (N % 256) :: (C ++ (D ++ R)))) := by
              show low (nb body 0 8).toNat 8 ++ (low (nb body 8 8).toNat 8 ++ (low (b01 (decide (nb body 16 1 = 1))).toNat 1 ++ (low ((es.length : Int)).toNat 1 ++ (low (nb body 18 2).toNat 2 ++ (low (nb body 20 4).toNat 4 ++ []))))) ++ encR wEnt es = _
              rw [henc, d24, n0, n8, n16, n18, n20, low_num (fun x hx => hmem x (.inl hx)) hA, low_num (fun x hx => hmem x (.inr (.inl hx))) hB, low_num (fun x hx => hmem x (by simp [hx])) hC, low_num (fun x hx => hmem x (by simp [hx])) hD, hel, Int.toNat_natCast]
              simp [low]
            have hp256 := hmem p (by simp)
            have hq256 := hmem q (by simp)
            have key : (smOf body es).body = body ↔ p ≤ 1 ∧ q = N := by
              rw [hxb]
              conv => lhs; rhs; rw [hbody]
              rw [List.append_cancel_left_eq, List.append_cancel_left_eq, List.cons.injEq, List.cons.injEq]
              have e1 : (b01 (decide ((p : Int) = 1))).toNat % 256 = p ↔ p ≤ 1 := by
                unfold b01
                by_cases h1 : (p : Int) = 1
                · rw [decide_eq_true h1, if_pos rfl]
                  constructor
                  · intro _; omega
                  · intro _; show (1 : Int).toNat % 256 = p; omega
                · rw [decide_eq_false h1, if_neg (by simp)]
                  show (0 : Int).toNat % 256 = p ↔ _
                  omega
              rw [e1]
              constructor
              · rintro ⟨a, b, _⟩; exact ⟨a, by omega⟩
              · rintro ⟨a, b⟩; exact ⟨a, by omega, rfl⟩
            rw [g16, g17]
            by_cases hpq : p ≤ 1 ∧ q = N
            · have e := key.2 hpq
              have hq := hpq.2
              rw [if_pos (by rw [e]), if_pos ⟨trivial, h24, hpq.1, by omega, by rw [hq, hes]; exact hmay⟩, hq, hes]
            · rw [if_neg fun h => hpq (key.1 ?_), if_neg ?_]
              · rintro ⟨_, _, h1, h2, _⟩
                exact hpq ⟨h1, by omega⟩
              · injection h with h
                exact sealS_inj (by decide) (by omega) hl120 h
          · rw [if_neg hmay]
            simp only
            rw [if_neg]
            rintro ⟨_, _, _, h2, h3⟩
            have : body.getD 17 0 = N := by omega
            rw [this, hes] at h3
            exact hmay h3
        · rw [if_neg hm]
          simp only
          rw [if_neg]
          rintro ⟨_, _, _, h2, _⟩
          omega
      · rw [if_neg h24]
        simp only
        rw [if_neg]
        rintro ⟨_, h2, _⟩
        exact h24 h2
    · rw [if_neg hk, if_neg fun h => hk h.1]
end Go.Dn
end
section
/-! Summaries: the reference's ReadSummary. -/
set_option maxRecDepth 10000
set_option linter.unusedVariables false
set_option linter.unusedSimpArgs false
namespace Go.Dn
open Go
theorem decR_get (ws : List Nat) : ∀ (n : Nat) (b : List Nat) (i : Nat), i < n → (decR ws b n)[i]? = some (decF ws (b.drop (i * ws.sum)))
  | 0, _, _, h => by omega
  | n + 1, b, 0, _ => by simp [decR]
  | n + 1, b, i + 1, h => by
    show (decR ws (b.drop ws.sum) n)[i]? = _
    rw [decR_get ws n _ i (by omega), List.drop_drop, Nat.succ_mul, Nat.add_comm ws.sum]
section
variable {w : World} {K : Value → World → Prop}
theorem bl_sum {a b d e : Int} {c : Bool} : wBuild P T_ref05_Summary [(0, .int .u64 a), (1, .int .u64 b), (2, .bool c), (3, .int .i64 d), (4, .int .u32 e)] w K = K (.agg ⟨[.int .u64 a, .int .u64 b, .bool c, .int .i64 d, .int .u32 e, .slice none 0 0]⟩) w :=
  bl_T_ref05_Summary (by rw [fill_cons (off := 0) (size := 1) rfl rfl rfl (by simp), fill_cons (off := 1) (size := 1) rfl rfl rfl (by simp [splice]), fill_cons (off := 2) (size := 1) rfl rfl rfl (by simp [splice]), fill_cons (off := 3) (size := 1) rfl rfl rfl (by simp [splice]), fill_cons (off := 4) (size := 1) rfl rfl rfl (by simp [splice])]; rfl)
theorem bl_ent {a b c d : Int} : wBuild P T_ref05_Entry [(0, .int .i64 a), (1, .int .u32 b), (2, .int .u32 c), (3, .int .i64 d)] w K = K (.agg ⟨rc kEntry [a, b, c, d]⟩) w :=
  bl_T_ref05_Entry (by rw [fill_cons (off := 0) (size := 1) rfl rfl rfl (by simp), fill_cons (off := 1) (size := 1) rfl rfl rfl (by simp [splice]), fill_cons (off := 2) (size := 1) rfl rfl rfl (by simp [splice]), fill_cons (off := 3) (size := 1) rfl rfl rfl (by simp [splice])]; rfl)
theorem ref05_ReadSummary {s : List Nat} {k : Value → World → Prop} (hs : s.length = 128) (hb : ∀ b ∈ s, b < 256)
    (hk : ∀ (x : Sm) (v : Value) w', Ex [] w w' → isC v = true → (rdS3 s = some x ∧ Own w' w.heap.size T_ref05_Entry 4 v (rcs kEntry x.es)) ∨ rdS3 s = none → k (.tuple #[.agg ⟨x.cells v⟩, .bool (rdS3 s).isSome]) w') : wCall P n_ref05_ReadSummary [sv s] w k := by
  refine call_ref05_ReadSummary _ ?_
  unfold F_ref05_ReadSummary
  have hT := g_T_ref05_Summary
  have hz : zeroT P T_ref05_Summary = some (.agg ⟨sm0.cells (.slice none 0 0)⟩) := z_T_ref05_Summary
  refine box_i (sv_cells s) fun w1 g1 hg1 hE1 B1 => ?_
  refine alloc_i hz (vs := sm0.cells (.slice none 0 0)) rfl fun w2 g2 hg2 hE2 B2 => ?_
  have l1 := hE1.le
  have l2 := hE2.le
  have lt2 := B2.lt
  have E2 := hE1.trans hE2
  rw [ld_sector g_T_A128uint8 hs (B1.ex hE2 (by simp))]
  have bad : ∀ wa, Ex [] w2 wa → rdS3 s = none → (wBuild P T_ref05_Summary [] wa fun t24 w => wStore P T_ref05_Summary (ptr g2) t24 w fun w => wRes P T_ref05_Summary (ptr g2) w fun r2 => k (.tuple #[r2, (.bool false)]) w) := by
    intro wa hEa h
    rw [bl_T_ref05_Summary (cs := sm0.cells (.slice none 0 0)) rfl]
    refine st_all hT rfl (cells_isC sm0 rfl) (B2.ex hEa (by simp)) rfl fun w6 hE6 B6 => ?_
    refine res_agg hT B6.all rfl ?_
    have := hk sm0 (.slice none 0 0) w6 ((E2.trans hEa).new hE6 (by omega)) rfl (.inr h)
    rw [h] at this
    exact this
  refine ref02_Open hs hb (fun hno w4 hE4 => ?_) (fun kd body hop v14 w4 hE4 hO4 => ?_)
  · rw [ext_0, ext_1, ext_2, un_not]
    refine or_i (r := true) (fun h => by cases h) ?_
    refine or_i (r := true) (fun h => by cases h) ?_
    refine or_i (r := true) (fun h => by cases h) ?_
    refine or_i (r := true) (fun h => by cases h) ?_
    rw [show ((((!false || true) || true) || true) || true) = true from rfl, wIf_t]
    exact bad w4 hE4 (by unfold rdS3; rw [hno])
  · rw [ext_0, ext_1, ext_2, un_not]
    have hbb := (sealOp_lt hb hop).2
    have hl120 := sealOp_len hop
    have S4 := hO4.slg
    have vlen : ∀ (w' : World) (K : Value → World → Prop), wLen P .len #[T_Luint8] [v14] w' K = K (.int .i64 (body.length : Int)) w' := fun w' K => len_slb (t := T_Luint8) S4 (by omega) (n := body.length) (by rw [bvs_length]; omega) w' K u_T_Luint8
    have ld : ∀ (i : Nat) (z : Int) (wx : World) (K : Value → World → Prop) (hi : i < body.length), z = (i : Int) → Ex [] w4 wx → (∀ a, wx.cell? a = some (.int .u8 ((body[i] : Nat) : Int)) → K (.pointer (some a)) wx) → wIndexA P T_Luint8 v14 (.int .i64 z) wx K := by
      intro i z wx K hi hz hE hK
      subst hz
      refine (S4.ex0 hE).ix1 s_T_Luint8 (by omega) (x := .int .u8 ((body[i] : Nat) : Int)) ?_ hK
      rw [Int.toNat_natCast]
      exact bvs_get (List.getElem?_eq_getElem hi)
    refine or_i (r := !decide (kd = 3)) (fun _ k' hk' => ?_) ?_
    · rw [bin_neq]
      have : decide ((kd : Int) ≠ 3) = !decide (kd = 3) := by rw [← decide_not, decide_eq_decide]; omega
      rw [this]
      exact hk'
    refine or_i (r := decide (body.length < 24)) (fun _ k' hk' => ?_) ?_
    · rw [vlen, bin_lss]
      have : decide ((body.length : Int) < 24) = decide (body.length < 24) := by rw [decide_eq_decide]; omega
      rw [this]
      exact hk'
    refine or_i (r := decide (1 < body.getD 16 0)) (fun hf k' hk' => ?_) ?_
    · simp only [Bool.not_true, Bool.false_or, Bool.or_eq_false_iff, decide_eq_false_iff_not] at hf
      refine ld 16 16 _ _ (by omega) rfl (Ex.refl _ _) fun a ha => ?_
      rw [ld_one o_T_uint8 ha, bin_gtr]
      have hg : body.getD 16 0 = body[16] := by rw [List.getD_eq_getElem?_getD, List.getElem?_eq_getElem (by omega)]; rfl
      have : decide ((1 : Int) < ((body[16] : Nat) : Int)) = decide (1 < body.getD 16 0) := by rw [hg, decide_eq_decide]; omega
      rw [this]
      exact hk'
    refine or_i (r := !decide (body.length = 24 + 9 * body.getD 17 0)) (fun hf k' hk' => ?_) ?_
    · simp only [Bool.not_true, Bool.false_or, Bool.or_eq_false_iff, decide_eq_false_iff_not] at hf
      rw [vlen]
      refine ld 17 17 _ _ (by omega) rfl (Ex.refl _ _) fun a ha => ?_
      have h17 : body[17] < 256 := hbb _ (List.getElem_mem _)
      rw [ld_one o_T_uint8 ha, conv_8_i h17, bin_mul (by omega), bin_add (by omega), bin_neq]
      have hg : body.getD 17 0 = body[17] := by rw [List.getD_eq_getElem?_getD, List.getElem?_eq_getElem (by omega)]; rfl
      have : decide ((body.length : Int) ≠ (24 : Int) + (9 : Int) * ((body[17] : Nat) : Int)) = !decide (body.length = 24 + 9 * body.getD 17 0) := by rw [hg, ← decide_not, decide_eq_decide]; omega
      rw [this]
      exact hk'
    refine wIf_i _ (fun hc => ?_) (fun hc => ?_)
    · refine bad w4 hE4 ?_
      unfold rdS3
      rw [hop]
      simp only
      rw [if_neg]
      rintro ⟨h1, h2, h3, h4, _⟩
      simp only [Bool.not_true, Bool.false_or, Bool.or_eq_true, Bool.not_eq_true', decide_eq_true_eq, decide_eq_false_iff_not] at hc
      rcases hc with ((h | h) | h) | h
      · exact h h1
      · omega
      · omega
      · exact h h4
    · simp only [Bool.not_true, Bool.false_or, Bool.or_eq_false_iff, Bool.not_eq_false', decide_eq_true_eq, decide_eq_false_iff_not] at hc
      obtain ⟨⟨⟨hk3, h24⟩, h16⟩, h17⟩ := hc
      have h24 : 24 ≤ body.length := by omega
      generalize hN : body.getD 17 0 = N at *
      have hres : rdS3 s = if mayEs (decR wEnt (body.drop 24) N) = true then some (smOf body (decR wEnt (body.drop 24) N)) else none := by
        unfold rdS3
        rw [hop]
        simp only
        rw [hN]
        by_cases hm : mayEs (decR wEnt (body.drop 24) N) = true
        · rw [if_pos ⟨hk3, h24, by omega, h17, hm⟩, if_pos hm]
        · rw [if_neg fun h => hm h.2.2.2.2, if_neg hm]
      have hl4 := hE4.le
      have lt2' := (B2.ex hE4 (by simp)).lt
      refine j1_of (fun u w' => ∃ g, u = ptr g ∧ Ex [] w4 w' ∧ w4.heap.size ≤ g ∧ Blk w' g T_ref05_Summary ((smOf body []).cells (.slice none 0 0))) (fun k1 hk1 => ?_) ?_
      · refine draw_i fun w5 hE5 _ => ?_
        have S := S4.ex0 hE5
        have l5 := hE5.le
        refine S.hi s_T_Luint8 (n := body.length) (by omega) (by rw [bvs_length]; omega) (by omega) (by omega) fun va _ Sa => ?_
        have ea : (bvs body).take ((8 : Int).toNat * 1) = bvs ((body.drop 0).take 8) := by unfold bvs; rw [List.map_take, List.drop_zero]; rfl
        rw [ea] at Sa
        refine S.subs s_T_Luint8 (i := 8) (j := 16) rfl rfl (by omega) (by omega) fun vb Sb => ?_
        refine ld 16 16 _ _ (by omega) rfl hE5 fun a ha => ?_
        rw [ld_one o_T_uint8 ha, bin_eql]
        refine S.subs s_T_Luint8 (i := 18) (j := 20) rfl rfl (by omega) (by omega) fun vc Sc => ?_
        refine S.subs s_T_Luint8 (i := 20) (j := 24) rfl rfl (by omega) (by omega) fun vd Sd => ?_
        have hdt : ∀ i n, ∀ x ∈ (body.drop i).take n, x < 256 := fun i n x hx => hbb x (List.mem_of_mem_drop (List.mem_of_mem_take hx))
        have numA : ∀ (wx : World) (K : Value → World → Prop), Ex [] w5 wx → K (.int .u64 (nb body 0 8)) wx → wCall P n_ref01_Num [va] wx K := fun wx K hE hK => ref01_Num (Sa.ex0 hE) (hdt _ _) (by simp; omega) hK
        have numB : ∀ (wx : World) (K : Value → World → Prop), Ex [] w5 wx → K (.int .u64 (nb body 8 8)) wx → wCall P n_ref01_Num [vb] wx K := fun wx K hE hK => ref01_Num (Sb.ex0 hE) (hdt _ _) (by simp; omega) hK
        have numC : ∀ (wx : World) (K : Value → World → Prop), Ex [] w5 wx → K (.int .u64 (nb body 18 2)) wx → wCall P n_ref01_Num [vc] wx K := fun wx K hE hK => ref01_Num (Sc.ex0 hE) (hdt _ _) (by simp; omega) hK
        have numD : ∀ (wx : World) (K : Value → World → Prop), Ex [] w5 wx → K (.int .u64 (nb body 20 4)) wx → wCall P n_ref01_Num [vd] wx K := fun wx K hE hK => ref01_Num (Sd.ex0 hE) (hdt _ _) (by simp; omega) hK
        have cvC : ∀ (wx : World) (K : Value → World → Prop), wConv P T_uint64 T_int (.int .u64 (nb body 18 2)) wx K = K (.int .i64 (nb body 18 2)) wx := fun wx K => conv_u64_i (numOf_lt2 (hdt _ _) 2 (by simp; omega))
        have cvD : ∀ (wx : World) (K : Value → World → Prop), wConv P T_uint64 T_uint32 (.int .u64 (nb body 20 4)) wx K = K (.int .u32 (nb body 20 4)) wx := fun wx K => conv_u64_32 (numOf_lt2 (hdt _ _) 4 (by simp; omega))
        have kp : ∀ (wx : World), Ex [] w5 wx → wKeep P [(T_uint8, .pointer (some a), .int .u8 ((body[16] : Nat) : Int))] wx := fun wx hE => keep_cons (loadAt_one o_T_uint8 (hE.cell ha)) keep_nil
        have e16 : decide (((body[16] : Nat) : Int) = 1) = decide (nb body 16 1 = 1) := by
          have : nb body 16 1 = ((body[16] : Nat) : Int) := by
            unfold nb
            rw [List.drop_eq_getElem_cons (by omega : 16 < body.length), List.take_succ_cons, List.take_zero]
            simp only [numOf, Nat.mul_zero, Nat.add_zero]
          rw [this]
        rw [e16]
        have hrefl := Ex.refl ([] : List Nat) w5
        have fin : ∀ (wx : World) (g : Nat), Ex [] w5 wx → g = w5.heap.size → Blk wx g T_ref05_Summary (sm0.cells (.slice none 0 0)) → wStore P T_ref05_Summary (ptr g) (.agg ⟨[.int .u64 (nb body 0 8), .int .u64 (nb body 8 8), .bool (decide (nb body 16 1 = 1)), .int .i64 (nb body 18 2), .int .u32 (nb body 20 4), .slice none 0 0]⟩) wx fun w => k1 (ptr g) w := by
          intro wx g hEx hg Bg
          refine st_all hT rfl (cells_isC (smOf body []) rfl) Bg rfl fun wy hEy By => ?_
          exact hk1 _ wy ⟨g, rfl, hE5.trans (hEx.new hEy (by omega)), by omega, By⟩
        repeat' first
          | exact fin _ _ (by assumption) (by assumption) (by assumption)
          | exact fin _ _ (Ex.refl _ _) (by assumption) (by assumption)
          | (refine And.intro (kp _ (by assumption)) ?_)
          | (refine And.intro ?_ ?_)
          | (refine numA _ _ (by assumption) ?_)
          | (refine numB _ _ (by assumption) ?_)
          | (refine numC _ _ (by assumption) ?_; rw [cvC])
          | (refine numD _ _ (by assumption) ?_; rw [cvD, bl_sum])
          | (refine alloc_i hz (vs := sm0.cells (.slice none 0 0)) rfl fun wz gz hgz hEz Bz => ?_)
          | (refine And.intro (kp _ (by assumption)) ?_; rw [cvC])
          | (rw [cvC])
          | (rw [cvD, bl_sum])
      rintro J u wa ⟨g7, rfl, hEa, hg7, Ba⟩
      have la := hEa.le
      have lt7 := Ba.lt
      have E2a := hE4.trans hEa
      have hsum : wEnt.sum = 9 := by simp [wEnt]
      refine j0_of (fun w' => ∃ v, Ex [g7] wa w' ∧ Blk w' g7 T_ref05_Summary ((smOf body (decR wEnt (body.drop 24) N)).cells v) ∧ (decR wEnt (body.drop 24) N).all (mayB 0 1 6) = true ∧ Own w' wa.heap.size T_ref05_Entry 4 v (rcs kEntry (decR wEnt (body.drop 24) N))) (fun k1 hk1 => ?_) ?_
      · refine loop_up N (fun i y w' => y = .int .i64 (24 + 9 * (i : Int)) ∧ ∃ v, Ex [g7] wa w' ∧ Blk w' g7 T_ref05_Summary ((smOf body (decR wEnt (body.drop 24) i)).cells v) ∧ (decR wEnt (body.drop 24) i).all (mayB 0 1 6) = true ∧ Own w' wa.heap.size T_ref05_Entry 4 v (rcs kEntry (decR wEnt (body.drop 24) i)))
          ⟨by simp, .slice none 0 0, Ex.refl _ _, Ba, rfl, Own.nil _ _ _ _⟩ ?_
        rintro i J2 y w8 k2 hi ⟨rfl, v, hE8, B8, hall, hO8⟩ hk2
        have l8 := hE8.le
        rw [vlen, bin_lss]
        refine wIf_d (fun hlt => ?_) (fun hge => ?_)
        · have hlt : i < N := by omega
          have E48 : Ex [] w4 w8 := hEa.new hE8 (by omega)
          generalize hat : 24 + 9 * i = at_
          have hatz : (24 : Int) + 9 * (i : Int) = (at_ : Int) := by omega
          rw [hatz]
          have hal : at_ + 9 ≤ body.length := by omega
          have hdt : ∀ i n, ∀ x ∈ (body.drop i).take n, x < 256 := fun i n x hx => hbb x (List.mem_of_mem_drop (List.mem_of_mem_take hx))
          have hdec : decF wEnt ((body.drop 24).drop (i * 9)) = [nb body at_ 1, nb body (at_ + 1) 2, nb body (at_ + 3) 4, nb body (at_ + 7) 2] := by
            rw [List.drop_drop, show 24 + i * 9 = at_ by omega]
            simp only [wEnt, decF, List.drop_drop, nb]
          have hkb : nb body at_ 1 = ((body[at_] : Nat) : Int) := by
            unfold nb
            rw [List.drop_eq_getElem_cons (by omega : at_ < body.length), List.take_succ_cons, List.take_zero]
            simp only [numOf, Nat.mul_zero, Nat.add_zero]
          have hsn : decR wEnt (body.drop 24) (i + 1) = decR wEnt (body.drop 24) i ++ [[nb body at_ 1, nb body (at_ + 1) 2, nb body (at_ + 3) 4, nb body (at_ + 7) 2]] := by
            rw [decR_snoc, hsum, hdec]
          have hmem : [nb body at_ 1, nb body (at_ + 1) 2, nb body (at_ + 3) 4, nb body (at_ + 7) 2] ∈ decR wEnt (body.drop 24) N := by
            refine List.mem_iff_getElem?.2 ⟨i, ?_⟩
            rw [decR_get wEnt N _ i hlt, hsum, hdec]
          refine j1_of (fun u w' => ∃ g, u = ptr g ∧ Ex [] w8 w' ∧ g = w8.heap.size ∧ Blk w' g T_ref05_Entry (rc kEntry [nb body at_ 1, nb body (at_ + 1) 2, nb body (at_ + 3) 4, nb body (at_ + 7) 2])) (fun k5 hk5 => ?_) ?_
          · refine draw_i fun w9 hE9 hh9 => ?_
            have S := (S4.ex0 E48).ex0 hE9
            have E49 := E48.trans hE9
            have h256 : body[at_] < 256 := hbb _ (List.getElem_mem _)
            refine ld at_ _ _ _ (by omega) rfl E49 fun a ha => ?_
            rw [ld_one o_T_uint8 ha, conv_8_i h256, bin_add (by omega), bin_add (by omega)]
            refine S.subs s_T_Luint8 (i := at_ + 1) (j := at_ + 3) (by omega) (by omega) (by omega) (by omega) fun va Sa => ?_
            rw [bin_add (by omega), bin_add (by omega)]
            refine S.subs s_T_Luint8 (i := at_ + 3) (j := at_ + 7) (by omega) (by omega) (by omega) (by omega) fun vb Sb => ?_
            rw [bin_add (by omega), bin_add (by omega)]
            refine S.subs s_T_Luint8 (i := at_ + 7) (j := at_ + 9) (by omega) (by omega) (by omega) (by omega) fun vc Sc => ?_
            rw [show at_ + 3 - (at_ + 1) = 2 by omega] at Sa
            rw [show at_ + 7 - (at_ + 3) = 4 by omega] at Sb
            rw [show at_ + 9 - (at_ + 7) = 2 by omega] at Sc
            have numA : ∀ (wx : World) (K : Value → World → Prop), Ex [] w9 wx → K (.int .u64 (nb body (at_ + 1) 2)) wx → wCall P n_ref01_Num [va] wx K := fun wx K hE hK => ref01_Num (Sa.ex0 hE) (hdt _ _) (by simp; omega) hK
            have numB : ∀ (wx : World) (K : Value → World → Prop), Ex [] w9 wx → K (.int .u64 (nb body (at_ + 3) 4)) wx → wCall P n_ref01_Num [vb] wx K := fun wx K hE hK => ref01_Num (Sb.ex0 hE) (hdt _ _) (by simp; omega) hK
            have numC : ∀ (wx : World) (K : Value → World → Prop), Ex [] w9 wx → K (.int .u64 (nb body (at_ + 7) 2)) wx → wCall P n_ref01_Num [vc] wx K := fun wx K hE hK => ref01_Num (Sc.ex0 hE) (hdt _ _) (by simp; omega) hK
            have cvA : ∀ (wx : World) (K : Value → World → Prop), wConv P T_uint64 T_uint32 (.int .u64 (nb body (at_ + 1) 2)) wx K = K (.int .u32 (nb body (at_ + 1) 2)) wx := fun wx K => conv_u64_32 (Nat.lt_of_lt_of_le (numOf_lt2 (hdt _ _) 2 (by simp; omega)) (by decide))
            have cvB : ∀ (wx : World) (K : Value → World → Prop), wConv P T_uint64 T_uint32 (.int .u64 (nb body (at_ + 3) 4)) wx K = K (.int .u32 (nb body (at_ + 3) 4)) wx := fun wx K => conv_u64_32 (numOf_lt2 (hdt _ _) 4 (by simp; omega))
            have cvC : ∀ (wx : World) (K : Value → World → Prop), wConv P T_uint64 T_int (.int .u64 (nb body (at_ + 7) 2)) wx K = K (.int .i64 (nb body (at_ + 7) 2)) wx := fun wx K => conv_u64_i (numOf_lt2 (hdt _ _) 2 (by simp; omega))
            have kp : ∀ (wx : World), Ex [] w9 wx → wKeep P [(T_uint8, .pointer (some a), .int .u8 ((body[at_] : Nat) : Int))] wx := fun wx hE => keep_cons (loadAt_one o_T_uint8 (hE.cell ha)) keep_nil
            have hrefl := Ex.refl ([] : List Nat) w9
            have hsz9 : w9.heap.size = w8.heap.size := by rw [hh9]
            have fin : ∀ (wx : World) (g : Nat), Ex [] w9 wx → g = w9.heap.size → Blk wx g T_ref05_Entry (rc kEntry (zs kEntry)) → wStore P T_ref05_Entry (ptr g) (.agg ⟨rc kEntry [((body[at_] : Nat) : Int), nb body (at_ + 1) 2, nb body (at_ + 3) 4, nb body (at_ + 7) 2]⟩) wx fun w => k5 (ptr g) w := by
              intro wx g hEx hg Bg
              refine st_all g_T_ref05_Entry rfl (rc_isC _ _) Bg rfl fun wy hEy By => ?_
              rw [← hkb] at By
              exact hk5 _ wy ⟨g, rfl, hE9.trans (hEx.new hEy (by omega)), by omega, By⟩
            repeat' first
              | exact fin _ _ (by assumption) (by assumption) (by assumption)
              | (refine And.intro (kp _ (by assumption)) ?_)
              | (refine And.intro ?_ ?_)
              | (refine numA _ _ (by assumption) ?_)
              | (refine numB _ _ (by assumption) ?_)
              | (refine numC _ _ (by assumption) ?_)
              | (refine alloc_i z_T_ref05_Entry (vs := rc kEntry (zs kEntry)) rfl fun wz gz hgz hEz Bz => ?_)
              | (rw [cvA])
              | (rw [cvB])
              | (rw [cvC, bl_ent])
          rintro J3 u w9 ⟨g9, rfl, hE9, hg9, B9⟩
          have l9 := hE9.le
          have lt9 := B9.lt
          have d0 : w9.cell? ⟨g9, 0 + 0, none⟩ = some (.int .i64 (nb body at_ 1)) := B9.cell 0
          have B89 := B8.ex hE9 (by simp)
          have hO9 := hO8.ex0 hE9
          rw [fA_T_ref05_Entry_0, ld_one o_T_int d0, bin_lss]
          refine or_i (r := decide (6 < nb body at_ 1)) (fun _ k' hk' => by rw [fA_T_ref05_Entry_0, ld_one o_T_int d0, bin_gtr]; exact hk') ?_
          have E49 : Ex [] w4 w9 := E48.trans hE9
          refine wIf_i _ (fun hc => ?_) (fun hc => ?_)
          · refine bad w9 (hE4.trans E49) ?_
            rw [hres, if_neg]
            intro hm
            unfold mayEs mayL at hm
            rw [Bool.and_eq_true, List.all_eq_true] at hm
            have := hm.1 _ hmem
            unfold mayB at this
            simp only [List.getD_cons_zero, Bool.and_eq_true, decide_eq_true_eq] at this
            simp only [Bool.or_eq_true, decide_eq_true_eq] at hc
            omega
          · simp only [Bool.or_eq_false_iff, decide_eq_false_iff_not] at hc
            have hmb : mayB 0 1 6 [nb body at_ 1, nb body (at_ + 1) 2, nb body (at_ + 3) 4, nb body (at_ + 7) 2] = true := by
              unfold mayB
              simp only [List.getD_cons_zero, Bool.and_eq_true, decide_eq_true_eq]
              omega
            generalize hrec : [nb body at_ 1, nb body (at_ + 1) 2, nb body (at_ + 3) 4, nb body (at_ + 7) 2] = rec_ at *
            have hrl : rec_.length = 4 := by rw [← hrec]; rfl
            have c5 : w9.cell? ⟨g7, 0 + 5, none⟩ = some v := B89.cell 5
            rw [fA_T_ref05_Summary_5, ld_one o_T_Lref05_Entry c5, ld_aggT g_T_ref05_Entry (rc_length hrl) _ _ _ B9]
            refine buildS_1 (x := .agg ⟨rc kEntry rec_⟩) (xs := rc kEntry rec_) (size := 4) u_T_Lref05_Entry (fun w => sizeOf_agg g_T_ref05_Entry w) z_T_ref05_Entry (by omega) rfl (rc_length hrl) rfl fun w10 g10 hg10 hE10 B10 => ?_
            have l10 := hE10.le
            have hrl4 : (rc kEntry rec_).length = 4 := rc_length hrl
            have hwd : lenR kEntry (decR wEnt (body.drop 24) i) := fun r hr => (decR_wid wEnt i _ r hr).symm
            have hrs : (rcs kEntry (decR wEnt (body.drop 24) i)).length = i * 4 := by
              have := rcs_length hwd
              rw [decR_length] at this
              exact this
            refine app_T_Lref05_Entry (n := i) (m := 1) (hO9.ex0 hE10) (SlG.of_cs B10.all (by rw [hrl4]) (Nat.le_refl _)) hrs (by rw [hrl4]) (rc_isC _ _) (by omega) (by omega) fun v' w11 hO11 hE11 hv11 => ?_
            have l11 := hE11.le
            have hnb := fun y hy => (hO9.ex0 hE10).newb y hy
            have B811 := (B89.ex hE10 (by simp)).ex hE11 fun hm => by have := hnb _ hm; omega
            rw [fA_T_ref05_Summary_5]
            refine st_one o_T_Lref05_Entry (own_isC hO11) B811 (by simp [Sm.cells]) fun w12 hE12 B12 => ?_
            have B12 : Blk w12 g7 T_ref05_Summary ((smOf body (decR wEnt (body.drop 24) (i + 1))).cells v') := B12
            rw [bin_add (by omega)]
            refine hk2 _ _ (by omega) ⟨?_, v', ?_, B12, ?_, ?_⟩
            · congr 1; omega
            · refine ((hE8.trans (hE9.mono (by simp))).trans (hE10.mono (by simp))).step hE11 (fun y hy => .inr (hnb y hy).1) |>.trans hE12
            · rw [hsn, List.all_append, hall]
              simp [hmb]
            · have hO12 := hO11.ex hE12 fun g hg hm => by
                have := hO11.newb g (by rw [hg]; simp)
                simp at hm
                omega
              rw [hsn, rcs_append, rcs_one]
              exact hO12
        · obtain rfl : i = N := by omega
          exact hk1 _ ⟨v, hE8, B8, hall, hO8⟩
      · rintro J2 w8 ⟨v, hE8, B8, hall, hO8⟩
        refine draw_i fun w9 hE9 _ => ?_
        have B9 := B8.ex hE9 (by simp)
        have l8 := hE8.le
        have l9 := hE9.le
        have c5 : w9.cell? ⟨g7, 0 + 5, none⟩ = some v := B9.cell 5
        have hrs : (rcs kEntry (decR wEnt (body.drop 24) N)).length = N * 4 := by
          have := rcs_length (ks := kEntry) (rs := decR wEnt (body.drop 24) N) fun r hr => (decR_wid wEnt N _ r hr).symm
          rw [decR_length] at this
          exact this
        have hO9 := hO8.ex0 hE9
        rw [ld_aggT hT rfl _ _ _ B9, fA_T_ref05_Summary_5, ld_one o_T_Lref05_Entry c5, hO9.slg.len_i u_T_Lref05_Entry (by omega) hrs, bin_leq]
        have E29 : Ex [] w2 w9 := (E2a.new hE8 (by omega)).trans hE9
        refine st_all hT rfl (cells_isC _ (own_isC hO8)) (B2.ex E29 (by simp)) rfl fun w10 hE10 B10 => ?_
        have B910 := B9.ex hE10 (by simp; omega)
        have c5 : w10.cell? ⟨g7, 0 + 5, none⟩ = some v := B910.cell 5
        refine ⟨keep_cons (loadAt_one o_T_Lref05_Entry c5) keep_nil, ?_⟩
        refine res_agg hT B10.all rfl ?_
        have hme : mayEs (decR wEnt (body.drop 24) N) = decide ((N : Int) ≤ 8) := by
          unfold mayEs mayL
          rw [hall, decR_length]
          rfl
        have hsome : (rdS3 s).isSome = decide ((N : Int) ≤ 8) := by
          rw [hres, hme]
          by_cases h8 : (N : Int) ≤ 8
          · rw [if_pos (decide_eq_true h8), decide_eq_true h8]; rfl
          · rw [if_neg (by rw [decide_eq_false h8]; simp), decide_eq_false h8]; rfl
        have hO10 := (hO9.base (show w.heap.size ≤ wa.heap.size by omega)).ex hE10 fun g hg hm => by
          have := hO9.newb g (by rw [hg]; simp)
          simp at hm
          omega
        have := hk (smOf body (decR wEnt (body.drop 24) N)) v w10 ((E2.trans E29).new hE10 (by omega)) (own_isC hO8) ?_
        · rw [hsome] at this
          exact this
        · by_cases h8 : mayEs (decR wEnt (body.drop 24) N) = true
          · exact .inl ⟨by rw [hres, if_pos h8], hO10⟩
          · exact .inr (by rw [hres, if_neg h8])
end
end Go.Dn
end
section
/-! Law 05: Summary, Told, same. -/
set_option maxRecDepth 10000
set_option linter.unusedVariables false
set_option linter.unusedSimpArgs false
namespace Go.Dn
open Go
section
variable {w : World} {K : Value → World → Prop}
theorem bl_csum {a b d e : Int} {c : Bool} : wBuild P T_codec_Summary [(0, .int .u64 a), (1, .int .u64 b), (2, .bool c), (3, .int .i64 d), (4, .int .u32 e)] w K = K (.agg ⟨[.int .u64 a, .int .u64 b, .bool c, .int .i64 d, .int .u32 e, .slice none 0 0]⟩) w :=
  bl_T_codec_Summary (by rw [fill_cons (off := 0) (size := 1) rfl rfl rfl (by simp), fill_cons (off := 1) (size := 1) rfl rfl rfl (by simp [splice]), fill_cons (off := 2) (size := 1) rfl rfl rfl (by simp [splice]), fill_cons (off := 3) (size := 1) rfl rfl rfl (by simp [splice]), fill_cons (off := 4) (size := 1) rfl rfl rfl (by simp [splice])]; rfl)
theorem bl_cent {a b c d : Int} : wBuild P T_codec_Entry [(0, .int .i64 a), (1, .int .u32 b), (2, .int .u32 c), (3, .int .i64 d)] w K = K (.agg ⟨rc kEntry [a, b, c, d]⟩) w :=
  bl_T_codec_Entry (by rw [fill_cons (off := 0) (size := 1) rfl rfl rfl (by simp), fill_cons (off := 1) (size := 1) rfl rfl rfl (by simp [splice]), fill_cons (off := 2) (size := 1) rfl rfl rfl (by simp [splice]), fill_cons (off := 3) (size := 1) rfl rfl rfl (by simp [splice])]; rfl)
theorem split4 {r : List Int} (h : r.length = 4) : ∃ a b c d, r = [a, b, c, d] := by
  match r, h with
  | [a, b, c, d], _ => exact ⟨a, b, c, d, rfl⟩
def Sm.upto (x : Sm) (i : Nat) : Sm := { x with es := x.es.take i }
theorem law05_Summary {x : Sm} {v : Value} {k : Value → World → Prop} (S : SlG w 4 v (rcs kEntry x.es)) (hvc : isC v = true) (hlen : lenR kEntry x.es) (hn : x.es.length ≤ 1000)
    (hk : ∀ v' w', Ex [] w w' → Own w' w.heap.size T_codec_Entry 4 v' (rcs kEntry x.es) → k (.agg ⟨x.cells v'⟩) w') : wCall P n_law05_Summary [.agg ⟨x.cells v⟩] w k := by
  refine call_law05_Summary _ ?_
  unfold F_law05_Summary
  have hT := g_T_codec_Summary
  have hz : zeroT P T_codec_Summary = some (.agg ⟨sm0.cells (.slice none 0 0)⟩) := z_T_codec_Summary
  refine box_i (vs := x.cells v) rfl fun w1 g1 hg1 hE1 B1 => ?_
  refine alloc_i hz (vs := sm0.cells (.slice none 0 0)) rfl fun w2 g2 hg2 hE2 B2 => ?_
  have l1 := hE1.le
  have l2 := hE2.le
  have E2 := hE1.trans hE2
  have B12 := B1.ex hE2 (by simp)
  have c0 : w2.cell? ⟨g1, 0 + 0, none⟩ = some (.int .u64 x.seq) := B12.cell 0
  have c1 : w2.cell? ⟨g1, 0 + 1, none⟩ = some (.int .u64 x.first) := B12.cell 1
  have c2 : w2.cell? ⟨g1, 0 + 2, none⟩ = some (.bool x.c) := B12.cell 2
  have c3 : w2.cell? ⟨g1, 0 + 3, none⟩ = some (.int .i64 x.next) := B12.cell 3
  have c4 : w2.cell? ⟨g1, 0 + 4, none⟩ = some (.int .u32 x.time) := B12.cell 4
  rw [fA_T_ref05_Summary_0, ld_one o_T_uint64 c0, fA_T_ref05_Summary_1, ld_one o_T_uint64 c1, fA_T_ref05_Summary_2, ld_one o_T_bool c2, fA_T_ref05_Summary_3, ld_one o_T_int c3, fA_T_ref05_Summary_4, ld_one o_T_uint32 c4, bl_csum]
  refine alloc_i hz (vs := sm0.cells (.slice none 0 0)) rfl fun w3 g3 hg3 hE3 B3 => ?_
  refine st_all hT rfl (cells_isC (x.upto 0) rfl) B3 rfl fun w4 hE4 B4 => ?_
  have B4 : Blk w4 g3 T_codec_Summary ((x.upto 0).cells (.slice none 0 0)) := B4
  have E24 : Ex [] w2 w4 := hE3.new hE4 (by omega)
  have E4 := E2.trans E24
  have l4 := E24.le
  have lt3 := B4.lt
  have B14 := B12.ex E24 (by simp)
  have B24 := B2.ex E24 (by simp)
  have c5 : w4.cell? ⟨g1, 0 + 5, none⟩ = some v := B14.cell 5
  have S4 := S.ex0 E4
  have hsl : (rcs kEntry x.es).length = x.es.length * 4 := rcs_length hlen
  refine j0_of (fun w' => ∃ v', Ex [g3] w4 w' ∧ Blk w' g3 T_codec_Summary (x.cells v') ∧ Own w' w4.heap.size T_codec_Entry 4 v' (rcs kEntry x.es)) (fun k1 hk1 => ?_) ?_
  · rw [fA_T_ref05_Summary_5, ld_one o_T_Lref05_Entry c5, S4.len_i u_T_Lref05_Entry (by omega) hsl]
    refine loop_up x.es.length (fun i y w' => y = .int .i64 (i : Int) ∧ ∃ v', Ex [g3] w4 w' ∧ Blk w' g3 T_codec_Summary ((x.upto i).cells v') ∧ Own w' w4.heap.size T_codec_Entry 4 v' (rcs kEntry (x.es.take i))) ⟨rfl, .slice none 0 0, Ex.refl _ _, B4, Own.nil _ _ _ _⟩ ?_
    rintro i J y wa k2 hi ⟨rfl, v', hEa, Ba, hOa⟩ hk2
    have la := hEa.le
    rw [bin_lss]
    refine wIf_d (fun hlt => ?_) (fun hge => ?_)
    · have hlt : i < x.es.length := by omega
      have hrl := hlen _ (List.getElem_mem hlt)
      have hel := rcs_elem hlen hlt
      have htk : x.es.take (i + 1) = x.es.take i ++ [x.es[i]] := List.take_succ_eq_append_getElem hlt
      have E4a : Ex [] w wa := E4.step hEa (by simp; omega)
      refine (S.ex0 E4a).ix s_T_Lref05_Entry (by omega) hsl (by omega) (by omega) fun b o hcs => ?_
      rw [Int.toNat_natCast] at hcs
      rw [show kEntry.length = 4 from rfl] at hel
      rw [hel] at hcs
      generalize hre : x.es[i] = r at *
      obtain ⟨a, b', c', d, rfl⟩ := split4 hrl
      rw [ld_agg g_T_ref05_Entry hcs (rc_length hrl)]
      refine alloc_i z_T_ref05_Entry (vs := rc kEntry (zs kEntry)) rfl fun wb gb hgb hEb Bb => ?_
      refine st_all g_T_ref05_Entry (rc_length hrl) (rc_isC _ _) Bb rfl fun wc hEc Bc => ?_
      have Eac : Ex [] wa wc := hEb.new hEc (by omega)
      have lc := Eac.le
      have Bac := Ba.ex Eac (by simp)
      have e5 : wc.cell? ⟨g3, 0 + 5, none⟩ = some v' := Bac.cell 5
      have d0 : wc.cell? ⟨gb, 0 + 0, none⟩ = some (.int .i64 a) := Bc.cell 0
      have d1 : wc.cell? ⟨gb, 0 + 1, none⟩ = some (.int .u32 b') := Bc.cell 1
      have d2 : wc.cell? ⟨gb, 0 + 2, none⟩ = some (.int .u32 c') := Bc.cell 2
      have d3 : wc.cell? ⟨gb, 0 + 3, none⟩ = some (.int .i64 d) := Bc.cell 3
      rw [fA_T_codec_Summary_5, ld_one o_T_Lcodec_Entry e5, fA_T_ref05_Entry_0, ld_one o_T_int d0, fA_T_ref05_Entry_1, ld_one o_T_uint32 d1, fA_T_ref05_Entry_2, ld_one o_T_uint32 d2, fA_T_ref05_Entry_3, ld_one o_T_int d3, bl_cent]
      refine buildS_1 (x := .agg ⟨rc kEntry [a, b', c', d]⟩) (xs := rc kEntry [a, b', c', d]) (size := 4) u_T_Lcodec_Entry (fun w => sizeOf_agg g_T_codec_Entry w) z_T_codec_Entry (by omega) rfl rfl rfl fun w10 g10 hg10 hE10 B10 => ?_
      have l10 := hE10.le
      have hrs : (rcs kEntry (x.es.take i)).length = i * 4 := by
        have := rcs_length (ks := kEntry) (rs := x.es.take i) fun r hr => hlen r (List.mem_of_mem_take hr)
        rw [List.length_take, Nat.min_eq_left (by omega)] at this
        exact this
      have hO10 := (hOa.ex0 Eac).ex0 hE10
      refine app_T_Lcodec_Entry (n := i) (m := 1) hO10 (SlG.of_cs B10.all rfl (Nat.le_refl _)) hrs rfl (rc_isC _ _) (by omega) (by omega) fun v'' w11 hO11 hE11 hv11 => ?_
      have l11 := hE11.le
      have hnb := fun y hy => hO10.newb y hy
      have B811 := (Bac.ex hE10 (by simp)).ex hE11 fun hm => by have := hnb _ hm; omega
      rw [fA_T_codec_Summary_5]
      refine st_one o_T_Lcodec_Entry (own_isC hO11) B811 (by simp [Sm.cells]) fun w12 hE12 B12' => ?_
      have B12' : Blk w12 g3 T_codec_Summary ((x.upto (i + 1)).cells v'') := B12'
      rw [bin_add (by omega)]
      refine hk2 _ _ (by omega) ⟨by simp, v'', ?_, B12', ?_⟩
      · exact (((hEa.trans (Eac.mono (by simp))).trans (hE10.mono (by simp))).step hE11 fun y hy => .inr (hnb y hy).1).trans hE12
      · have hO12 := hO11.ex hE12 fun g hg hm => by
          have := hO11.newb g (by rw [hg]; simp)
          simp at hm
          omega
        rw [htk, rcs_append, rcs_one]
        exact hO12
    · obtain rfl : i = x.es.length := by omega
      rw [List.take_length] at hOa
      have e : x.upto x.es.length = x := by unfold Sm.upto; rw [List.take_length]
      rw [e] at Ba
      exact hk1 _ ⟨v', hEa, Ba, hOa⟩
  · rintro J wa ⟨v', hEa, Ba, hOa⟩
    have E4a : Ex [] w wa := E4.step hEa (by simp; omega)
    have lt2 := B2.lt
    rw [ld_aggT hT rfl _ _ _ Ba]
    refine st_all hT rfl (cells_isC x (own_isC hOa)) (B24.ex hEa (by simp; omega)) rfl fun wb hEb Bb => ?_
    refine res_agg hT Bb.all rfl ?_
    refine hk v' wb (E4a.new hEb (by omega)) ((hOa.base (by omega)).ex hEb fun g hg hm => by
      have := hOa.newb g (by rw [hg]; simp)
      simp at hm
      omega)
theorem law05_Told {x : Sm} {v : Value} {k : Value → World → Prop} (S : SlG w 4 v (rcs kEntry x.es)) (hvc : isC v = true) (hlen : lenR kEntry x.es) (hn : x.es.length ≤ 1000)
    (hk : ∀ v' w', Ex [] w w' → Own w' w.heap.size T_ref05_Entry 4 v' (rcs kEntry x.es) → k (.agg ⟨x.cells v'⟩) w') : wCall P n_law05_Told [.agg ⟨x.cells v⟩] w k := by
  refine call_law05_Told _ ?_
  unfold F_law05_Told
  have hT := g_T_ref05_Summary
  have hz : zeroT P T_ref05_Summary = some (.agg ⟨sm0.cells (.slice none 0 0)⟩) := z_T_ref05_Summary
  refine box_i (vs := x.cells v) rfl fun w1 g1 hg1 hE1 B1 => ?_
  refine alloc_i hz (vs := sm0.cells (.slice none 0 0)) rfl fun w2 g2 hg2 hE2 B2 => ?_
  have l1 := hE1.le
  have l2 := hE2.le
  have E2 := hE1.trans hE2
  have B12 := B1.ex hE2 (by simp)
  have c0 : w2.cell? ⟨g1, 0 + 0, none⟩ = some (.int .u64 x.seq) := B12.cell 0
  have c1 : w2.cell? ⟨g1, 0 + 1, none⟩ = some (.int .u64 x.first) := B12.cell 1
  have c2 : w2.cell? ⟨g1, 0 + 2, none⟩ = some (.bool x.c) := B12.cell 2
  have c3 : w2.cell? ⟨g1, 0 + 3, none⟩ = some (.int .i64 x.next) := B12.cell 3
  have c4 : w2.cell? ⟨g1, 0 + 4, none⟩ = some (.int .u32 x.time) := B12.cell 4
  rw [fA_T_codec_Summary_0, ld_one o_T_uint64 c0, fA_T_codec_Summary_1, ld_one o_T_uint64 c1, fA_T_codec_Summary_2, ld_one o_T_bool c2, fA_T_codec_Summary_3, ld_one o_T_int c3, fA_T_codec_Summary_4, ld_one o_T_uint32 c4, bl_sum]
  refine alloc_i hz (vs := sm0.cells (.slice none 0 0)) rfl fun w3 g3 hg3 hE3 B3 => ?_
  refine st_all hT rfl (cells_isC (x.upto 0) rfl) B3 rfl fun w4 hE4 B4 => ?_
  have B4 : Blk w4 g3 T_ref05_Summary ((x.upto 0).cells (.slice none 0 0)) := B4
  have E24 : Ex [] w2 w4 := hE3.new hE4 (by omega)
  have E4 := E2.trans E24
  have l4 := E24.le
  have lt3 := B4.lt
  have B14 := B12.ex E24 (by simp)
  have B24 := B2.ex E24 (by simp)
  have c5 : w4.cell? ⟨g1, 0 + 5, none⟩ = some v := B14.cell 5
  have S4 := S.ex0 E4
  have hsl : (rcs kEntry x.es).length = x.es.length * 4 := rcs_length hlen
  refine j0_of (fun w' => ∃ v', Ex [g3] w4 w' ∧ Blk w' g3 T_ref05_Summary (x.cells v') ∧ Own w' w4.heap.size T_ref05_Entry 4 v' (rcs kEntry x.es)) (fun k1 hk1 => ?_) ?_
  · rw [fA_T_codec_Summary_5, ld_one o_T_Lcodec_Entry c5, S4.len_i u_T_Lcodec_Entry (by omega) hsl]
    refine loop_up x.es.length (fun i y w' => y = .int .i64 (i : Int) ∧ ∃ v', Ex [g3] w4 w' ∧ Blk w' g3 T_ref05_Summary ((x.upto i).cells v') ∧ Own w' w4.heap.size T_ref05_Entry 4 v' (rcs kEntry (x.es.take i))) ⟨rfl, .slice none 0 0, Ex.refl _ _, B4, Own.nil _ _ _ _⟩ ?_
    rintro i J y wa k2 hi ⟨rfl, v', hEa, Ba, hOa⟩ hk2
    have la := hEa.le
    rw [bin_lss]
    refine wIf_d (fun hlt => ?_) (fun hge => ?_)
    · have hlt : i < x.es.length := by omega
      have hrl := hlen _ (List.getElem_mem hlt)
      have hel := rcs_elem hlen hlt
      have htk : x.es.take (i + 1) = x.es.take i ++ [x.es[i]] := List.take_succ_eq_append_getElem hlt
      have E4a : Ex [] w wa := E4.step hEa (by simp; omega)
      refine (S.ex0 E4a).ix s_T_Lcodec_Entry (by omega) hsl (by omega) (by omega) fun b o hcs => ?_
      rw [Int.toNat_natCast] at hcs
      rw [show kEntry.length = 4 from rfl] at hel
      rw [hel] at hcs
      generalize hre : x.es[i] = r at *
      obtain ⟨a, b', c', d, rfl⟩ := split4 hrl
      rw [ld_agg g_T_codec_Entry hcs (rc_length hrl)]
      refine alloc_i z_T_codec_Entry (vs := rc kEntry (zs kEntry)) rfl fun wb gb hgb hEb Bb => ?_
      refine st_all g_T_codec_Entry (rc_length hrl) (rc_isC _ _) Bb rfl fun wc hEc Bc => ?_
      have Eac : Ex [] wa wc := hEb.new hEc (by omega)
      have lc := Eac.le
      have Bac := Ba.ex Eac (by simp)
      have e5 : wc.cell? ⟨g3, 0 + 5, none⟩ = some v' := Bac.cell 5
      have d0 : wc.cell? ⟨gb, 0 + 0, none⟩ = some (.int .i64 a) := Bc.cell 0
      have d1 : wc.cell? ⟨gb, 0 + 1, none⟩ = some (.int .u32 b') := Bc.cell 1
      have d2 : wc.cell? ⟨gb, 0 + 2, none⟩ = some (.int .u32 c') := Bc.cell 2
      have d3 : wc.cell? ⟨gb, 0 + 3, none⟩ = some (.int .i64 d) := Bc.cell 3
      rw [fA_T_ref05_Summary_5, ld_one o_T_Lref05_Entry e5, fA_T_codec_Entry_0, ld_one o_T_int d0, fA_T_codec_Entry_1, ld_one o_T_uint32 d1, fA_T_codec_Entry_2, ld_one o_T_uint32 d2, fA_T_codec_Entry_3, ld_one o_T_int d3, bl_ent]
      refine buildS_1 (x := .agg ⟨rc kEntry [a, b', c', d]⟩) (xs := rc kEntry [a, b', c', d]) (size := 4) u_T_Lref05_Entry (fun w => sizeOf_agg g_T_ref05_Entry w) z_T_ref05_Entry (by omega) rfl rfl rfl fun w10 g10 hg10 hE10 B10 => ?_
      have l10 := hE10.le
      have hrs : (rcs kEntry (x.es.take i)).length = i * 4 := by
        have := rcs_length (ks := kEntry) (rs := x.es.take i) fun r hr => hlen r (List.mem_of_mem_take hr)
        rw [List.length_take, Nat.min_eq_left (by omega)] at this
        exact this
      have hO10 := (hOa.ex0 Eac).ex0 hE10
      refine app_T_Lref05_Entry (n := i) (m := 1) hO10 (SlG.of_cs B10.all rfl (Nat.le_refl _)) hrs rfl (rc_isC _ _) (by omega) (by omega) fun v'' w11 hO11 hE11 hv11 => ?_
      have l11 := hE11.le
      have hnb := fun y hy => hO10.newb y hy
      have B811 := (Bac.ex hE10 (by simp)).ex hE11 fun hm => by have := hnb _ hm; omega
      rw [fA_T_ref05_Summary_5]
      refine st_one o_T_Lref05_Entry (own_isC hO11) B811 (by simp [Sm.cells]) fun w12 hE12 B12' => ?_
      have B12' : Blk w12 g3 T_ref05_Summary ((x.upto (i + 1)).cells v'') := B12'
      rw [bin_add (by omega)]
      refine hk2 _ _ (by omega) ⟨by simp, v'', ?_, B12', ?_⟩
      · exact (((hEa.trans (Eac.mono (by simp))).trans (hE10.mono (by simp))).step hE11 fun y hy => .inr (hnb y hy).1).trans hE12
      · have hO12 := hO11.ex hE12 fun g hg hm => by
          have := hO11.newb g (by rw [hg]; simp)
          simp at hm
          omega
        rw [htk, rcs_append, rcs_one]
        exact hO12
    · obtain rfl : i = x.es.length := by omega
      rw [List.take_length] at hOa
      have e : x.upto x.es.length = x := by unfold Sm.upto; rw [List.take_length]
      rw [e] at Ba
      exact hk1 _ ⟨v', hEa, Ba, hOa⟩
  · rintro J wa ⟨v', hEa, Ba, hOa⟩
    have E4a : Ex [] w wa := E4.step hEa (by simp; omega)
    have lt2 := B2.lt
    rw [ld_aggT hT rfl _ _ _ Ba]
    refine st_all hT rfl (cells_isC x (own_isC hOa)) (B24.ex hEa (by simp; omega)) rfl fun wb hEb Bb => ?_
    refine res_agg hT Bb.all rfl ?_
    refine hk v' wb (E4a.new hEb (by omega)) ((hOa.base (by omega)).ex hEb fun g hg hm => by
      have := hOa.newb g (by rw [hg]; simp)
      simp at hm
      omega)
theorem E_Entry : EqT P 2 T_ref05_Entry true (lfs kEntry) := by
  have h1 := eqT_int (P := P) (t := T_uint32) o_T_uint32 i_T_uint32
  have h2 := eqT_int (P := P) (t := T_int) o_T_int i_T_int
  exact eqT_struct (L := [(0, T_int, false, [.i .i64]), (1, T_uint32, false, [.i .u32]), (2, T_uint32, false, [.i .u32]), (3, T_int, false, [.i .i64])])
    (by kernel_rfl) (by kernel_rfl) (by kernel_rfl) (by kernel_rfl)
    ⟨rfl, h2.le (by omega), rfl, h1.le (by omega), rfl, h1.le (by omega), rfl, h2.le (by omega), trivial⟩
theorem ne_Entry {r q : List Int} (h1 : r.length = 4) (h2 : q.length = 4) : wBin P .neq T_ref05_Entry (.agg ⟨rc kEntry r⟩) (.agg ⟨rc kEntry q⟩) w K = K (.bool (!decide (r = q))) w := by
  rw [ne_T E_Entry (by omega) e_T_ref05_Entry (wf_rc kEntry r h1) (wf_rc kEntry q h2), eqV_rc kEntry r q h1 h2]
/-- The same summary, twice. -/
theorem law05_same {x : Sm} {u v : Value} {k : Value → World → Prop} (Su : SlG w 4 u (rcs kEntry x.es)) (Sv : SlG w 4 v (rcs kEntry x.es)) (hlen : lenR kEntry x.es) (hn : x.es.length ≤ 1000)
    (hk : ∀ w', Ex [] w w' → k (.bool true) w') : wCall P n_law05_same [.agg ⟨x.cells u⟩, .agg ⟨x.cells v⟩] w k := by
  refine call_law05_same _ _ ?_
  unfold F_law05_same
  refine box_i (vs := x.cells u) rfl fun w1 g1 hg1 hE1 B1 => ?_
  refine box_i (vs := x.cells v) rfl fun w2 g2 hg2 hE2 B2 => ?_
  have E2 := hE1.trans hE2
  have B12 := B1.ex hE2 (by simp)
  have c0 : w2.cell? ⟨g1, 0 + 0, none⟩ = some (.int .u64 x.seq) := B12.cell 0
  have c1 : w2.cell? ⟨g1, 0 + 1, none⟩ = some (.int .u64 x.first) := B12.cell 1
  have c2 : w2.cell? ⟨g1, 0 + 2, none⟩ = some (.bool x.c) := B12.cell 2
  have c3 : w2.cell? ⟨g1, 0 + 3, none⟩ = some (.int .i64 x.next) := B12.cell 3
  have c4 : w2.cell? ⟨g1, 0 + 4, none⟩ = some (.int .u32 x.time) := B12.cell 4
  have c5 : w2.cell? ⟨g1, 0 + 5, none⟩ = some u := B12.cell 5
  have d0 : w2.cell? ⟨g2, 0 + 0, none⟩ = some (.int .u64 x.seq) := B2.cell 0
  have d1 : w2.cell? ⟨g2, 0 + 1, none⟩ = some (.int .u64 x.first) := B2.cell 1
  have d2 : w2.cell? ⟨g2, 0 + 2, none⟩ = some (.bool x.c) := B2.cell 2
  have d3 : w2.cell? ⟨g2, 0 + 3, none⟩ = some (.int .i64 x.next) := B2.cell 3
  have d4 : w2.cell? ⟨g2, 0 + 4, none⟩ = some (.int .u32 x.time) := B2.cell 4
  have d5 : w2.cell? ⟨g2, 0 + 5, none⟩ = some v := B2.cell 5
  have hsl : (rcs kEntry x.es).length = x.es.length * 4 := rcs_length hlen
  have Su2 := Su.ex0 E2
  have Sv2 := Sv.ex0 E2
  have no : ∀ n : Int, decide (n ≠ n) = false := fun n => decide_eq_false (by simp)
  rw [fA_T_ref05_Summary_0, ld_one o_T_uint64 c0, fA_T_ref05_Summary_0, ld_one o_T_uint64 d0, bin_neq, no]
  refine or_i (r := false) (fun _ k' hk' => by rw [fA_T_ref05_Summary_1, ld_one o_T_uint64 c1, fA_T_ref05_Summary_1, ld_one o_T_uint64 d1, bin_neq, no]; exact hk') ?_
  refine or_i (r := false) (fun _ k' hk' => by rw [fA_T_ref05_Summary_2, ld_one o_T_bool c2, fA_T_ref05_Summary_2, ld_one o_T_bool d2, bin_bneq _ _ b_T_bool]; simpa using hk') ?_
  refine or_i (r := false) (fun _ k' hk' => by rw [fA_T_ref05_Summary_3, ld_one o_T_int c3, fA_T_ref05_Summary_3, ld_one o_T_int d3, bin_neq, no]; exact hk') ?_
  refine or_i (r := false) (fun _ k' hk' => by rw [fA_T_ref05_Summary_4, ld_one o_T_uint32 c4, fA_T_ref05_Summary_4, ld_one o_T_uint32 d4, bin_neq, no]; exact hk') ?_
  refine or_i (r := false) (fun _ k' hk' => by rw [fA_T_ref05_Summary_5, ld_one o_T_Lref05_Entry c5, Su2.len_i u_T_Lref05_Entry (by omega) hsl, fA_T_ref05_Summary_5, ld_one o_T_Lref05_Entry d5, Sv2.len_i u_T_Lref05_Entry (by omega) hsl, bin_neq, no]; exact hk') ?_
  rw [show (((((false || false) || false) || false) || false) || false) = false from rfl, wIf_f, fA_T_ref05_Summary_5, ld_one o_T_Lref05_Entry c5, Su2.len_i u_T_Lref05_Entry (by omega) hsl]
  refine loop_up x.es.length (fun i y w' => y = .int .i64 (i : Int) ∧ Ex [] w2 w') ⟨rfl, Ex.refl _ _⟩ ?_
  rintro i J y wa k2 hi ⟨rfl, hEa⟩ hk2
  rw [bin_lss]
  refine wIf_d (fun hlt => ?_) (fun hge => ?_)
  · have hlt : i < x.es.length := by omega
    have hrl := hlen _ (List.getElem_mem hlt)
    have hel := rcs_elem hlen hlt
    rw [show kEntry.length = 4 from rfl] at hel
    refine draw_i fun wb hEb _ => ?_
    have Eb := hEa.trans hEb
    rw [fA_T_ref05_Summary_5, ld_one o_T_Lref05_Entry (Eb.cell c5)]
    refine (Su2.ex0 Eb).ix s_T_Lref05_Entry (by omega) hsl (by omega) (by omega) fun b o hcs => ?_
    rw [Int.toNat_natCast, hel] at hcs
    rw [ld_agg g_T_ref05_Entry hcs (rc_length hrl), fA_T_ref05_Summary_5, ld_one o_T_Lref05_Entry (Eb.cell d5)]
    refine (Sv2.ex0 Eb).ix s_T_Lref05_Entry (by omega) hsl (by omega) (by omega) fun b2 o2 hcs2 => ?_
    rw [Int.toNat_natCast, hel] at hcs2
    rw [ld_agg g_T_ref05_Entry hcs2 (rc_length hrl), ne_Entry hrl hrl, decide_eq_true rfl, show (!true) = false from rfl, wIf_f, bin_add (by omega)]
    exact hk2 _ _ (by omega) ⟨by simp, Eb⟩
  · exact hk wa (E2.trans hEa)
end
end Go.Dn
end
section
/-! Law 05: CodecSummaries. -/
set_option maxRecDepth 10000
set_option linter.unusedVariables false
set_option linter.unusedSimpArgs false
namespace Go.Dn
open Go
theorem slg_isC {w : World} {size : Nat} {v : Value} {xs : List Value} (h : SlG w size v xs) : isC v = true := by
  obtain ⟨A, n, c, rfl, _⟩ := h
  rfl
theorem rdS2_writeSm {x : Sm} {s : List Nat} (hok : x.ok) (h : writeSm x = some s) : rdS2 s = some x := by
  have hw := h
  unfold writeSm at h
  split at h
  · rename_i hc
    obtain ⟨hm, hn, hr⟩ := hc
    have hlen8 := mayEs_len hm
    have hwid : wid wEnt x.es := fun r hr' => (hok.2.2.2.2.1 r hr').symm
    have hel : (encR wEnt x.es).length = x.es.length * 9 := by rw [encR_length wEnt x.es hwid]; simp [wEnt]
    have hpl : (encF wSum x.nums).length = 24 := encF_length wSum x.nums rfl
    have hbl : x.body.length = 24 + x.es.length * 9 := by unfold Sm.body; rw [List.length_append, hpl, hel]
    have hs : sealS 3 x.body = s := by
      unfold sealMk at h
      rw [if_neg (by omega)] at h
      injection h
    have hop : sealOp s = some (3, x.body) := by rw [← hs]; exact sealOp_mk (by decide) (by omega)
    have hd24 : x.body.drop 24 = encR wEnt x.es := by unfold Sm.body; rw [List.drop_left' hpl]
    have hrec : recsOf wEnt (x.body.drop 24) = some x.es := by
      unfold recsOf
      rw [hd24, hel, show wEnt.sum = 9 by simp [wEnt], if_pos (by omega), show x.es.length * 9 / 9 = x.es.length by omega, decR_encR wEnt x.es hwid hr]
    have hdec : decF wSum x.body = x.nums := decF_encF wSum x.nums _ rfl hn
    have hdec2 : decF wSum x.body = [nb x.body 0 8, nb x.body 8 8, nb x.body 16 1, nb x.body 17 1, nb x.body 18 2, nb x.body 20 4] := by
      simp only [wSum, decF, nb, List.drop_drop, List.drop_zero]
    rw [hdec] at hdec2
    unfold Sm.nums at hdec2
    simp only [List.cons.injEq] at hdec2
    obtain ⟨e1, e2, e3, e4, e5, e6, _⟩ := hdec2
    have hsm : smOf x.body x.es = x := by
      unfold smOf
      rw [← e1, ← e2, ← e5, ← e6, ← e3]
      have hc : decide (b01 x.c = 1) = x.c := by unfold b01; cases x.c <;> rfl
      rw [hc]
    unfold rdS2 rdS1
    rw [hop]
    have hx : rdSm x.body = some x := by
      unfold rdSm
      rw [if_pos (by omega), hrec]
      simp only
      rw [hsm]
    simp only [if_true, hx, hm, hw]
  · cases h
theorem writeSm_lt {x : Sm} : ∀ s, writeSm x = some s → ∀ b ∈ s, b < 256 := by
  intro s h
  unfold writeSm at h
  split at h
  · unfold sealMk at h
    split at h
    · cases h
    · rename_i hc
      injection h with h
      subst h
      refine sealS_lt (by omega) (by omega) fun b hb => ?_
      unfold Sm.body at hb
      rcases List.mem_append.1 hb with h | h
      · exact encF_lt _ _ b h
      · exact encR_lt _ _ b h
  · cases h
theorem rdS2_some {s : List Nat} {x : Sm} (hb : ∀ b ∈ s, b < 256) (h : rdS2 s = some x) : x.ok ∧ x.es.length ≤ 8 := by
  unfold rdS2 at h
  split at h
  · rename_i y hy
    split at h
    · injection h with h
      subst h
      obtain ⟨_, _, _, h1, h2⟩ := rdS1_some hb hy
      exact ⟨h2, mayEs_len h1⟩
    · cases h
  · cases h
section
variable {w : World} {K : Value → World → Prop}
theorem law05_CodecSummaries {x : Sm} {v a1 : Value} {bs : List Nat} {k : Value → World → Prop} (hok : x.ok) (S : SlG w 4 v (rcs kEntry x.es)) (Sb : SlG w 1 a1 (bvs bs)) (hbs : ∀ b ∈ bs, b < 256)
    (hk : ∀ w', Ex [] w w' → k (.bool true) w') : wCall P n_law05_CodecSummaries [.agg ⟨x.cells v⟩, a1] w k := by
  refine call_law05_CodecSummaries _ _ ?_
  unfold F_law05_CodecSummaries
  have hTc := g_T_codec_Summary
  have hTr := g_T_ref05_Summary
  have hzc : zeroT P T_codec_Summary = some (.agg ⟨sm0.cells (.slice none 0 0)⟩) := z_T_codec_Summary
  have hzr : zeroT P T_ref05_Summary = some (.agg ⟨sm0.cells (.slice none 0 0)⟩) := z_T_ref05_Summary
  have hvc := slg_isC S
  have hlen := hok.2.2.2.2.1
  have hsl : (rcs kEntry x.es).length = x.es.length * 4 := rcs_length hlen
  refine box_i (vs := x.cells v) rfl fun w1 g2 hg2 hE1 B2 => ?_
  refine law05_awake fun w2 hE2 => ?_
  rw [un_not, show (!true) = false from rfl, wIf_f]
  have E2 := hE1.trans hE2
  have l2 := E2.le
  have B22 := B2.ex hE2 (by simp)
  have c5 : w2.cell? ⟨g2, 0 + 5, none⟩ = some v := B22.cell 5
  have S2 := S.ex0 E2
  refine j0_of (fun w' => ∃ v2, Ex [g2] w2 w' ∧ Blk w' g2 T_ref05_Summary ((x.upto 12).cells v2) ∧ SlG w 4 v2 (rcs kEntry (x.upto 12).es)) (fun k2 hk2 => ?_) ?_
  · rw [fA_T_ref05_Summary_5, ld_one o_T_Lref05_Entry c5, S2.len_i u_T_Lref05_Entry (by omega) hsl, bin_gtr]
    refine wIf_d (fun hgt => ?_) (fun hle => ?_)
    · rw [fA_T_ref05_Summary_5, ld_one o_T_Lref05_Entry c5]
      obtain ⟨A, n, c, rfl, hl, hc, hr⟩ := id S
      have hnn : n = x.es.length := by omega
      rw [sliceS_hi s_T_Lref05_Entry (by omega) (by omega), fA_T_ref05_Summary_5]
      refine st_one o_T_Lref05_Entry rfl B22 (by simp [Sm.cells]) fun w3 hE3 B3 => ?_
      refine hk2 w3 ⟨_, hE3, B3, A, 12, c, rfl, ?_, by omega, fun _ => ?_⟩
      · have : lenR kEntry (x.upto 12).es := fun r hr => hlen r (List.mem_of_mem_take hr)
        rw [rcs_length this]
        show (x.es.take 12).length * 4 = _
        rw [List.length_take, Nat.min_eq_left (by omega)]
      · obtain ⟨b, o, rfl, hcs⟩ := hr (by omega)
        refine ⟨b, o, rfl, fun i y hy => hcs i y ?_⟩
        have e : rcs kEntry x.es = rcs kEntry (x.es.take 12) ++ rcs kEntry (x.es.drop 12) := by rw [← rcs_append, List.take_append_drop]
        have hy : (rcs kEntry (x.es.take 12))[i]? = some y := hy
        rw [e, List.getElem?_append_left (List.getElem?_eq_some_iff.1 hy).1]
        exact hy
    · have e : x.upto 12 = x := by unfold Sm.upto; rw [List.take_of_length_le (by omega)]
      exact hk2 w2 ⟨v, Ex.refl _ _, by rw [e]; exact B22, by rw [e]; exact S⟩
  rintro J w3 ⟨v2, hE3, B3, Sv⟩
  have E3 : Ex [] w w3 := E2.new hE3 (by omega)
  have l3 := E3.le
  have hyok : (x.upto 12).ok := ⟨hok.1, hok.2.1, hok.2.2.1, hok.2.2.2.1, fun r hr => hlen r (List.mem_of_mem_take hr), fun r hr => hok.2.2.2.2.2 r (List.mem_of_mem_take hr)⟩
  have hyn : (x.upto 12).es.length ≤ 12 := by show (x.es.take 12).length ≤ 12; rw [List.length_take]; omega
  generalize x.upto 12 = y at *
  have hyl := hyok.2.2.2.2.1
  have hv2c := slg_isC Sv
  rw [ld_aggT hTr rfl _ _ _ B3]
  refine law05_Summary (Sv.ex0 E3) hv2c hyl (by omega) fun v4 w4 hE4 hO4 => ?_
  refine codec_WriteSummary hyok hO4.slb (by omega) fun w5 hE5 => ?_
  have hs128 : ((writeSm y).getD zeroS).length = 128 := wrV_len writeSm_len
  have hslt := getD_s (o := writeSm y) writeSm_lt
  have hrd : ∀ s, writeSm y = some s → rdS2 s = some y := fun s h => rdS2_writeSm hyok h
  generalize ho : writeSm y = o at *
  unfold wrV
  rw [ext_0, ext_1]
  refine alloc_i z_T_api_Sector (vs := List.replicate 128 (.int .u8 0)) rfl fun w6 g6 hg6 hE6 B6 => ?_
  refine st_sector g_T_api_Sector hs128 B6 List.length_replicate fun w7 hE7 B7 => ?_
  have E37 : Ex [] w3 w7 := (hE4.trans hE5).trans (hE6.new hE7 (by omega))
  have E7 := E3.trans E37
  have B37 := B3.ex E37 (by simp)
  rw [ld_aggT hTr rfl _ _ _ B37]
  refine ref05_WriteSummary hyok (Sv.ex0 E7) hv2c (by omega) fun w8 hE8 => ?_
  rw [ho]
  unfold wrB
  rw [ext_0, ext_1]
  refine alloc_i z_T_A128uint8 (vs := List.replicate 128 (.int .u8 0)) rfl fun w9 g9 hg9 hE9 B9 => ?_
  refine st_sector g_T_A128uint8 hs128 B9 List.length_replicate fun w10 hE10 B10 => ?_
  have E7_10 : Ex [] w7 w10 := hE8.trans (hE9.new hE10 (by omega))
  have B710 := B7.ex E7_10 (by simp)
  have B310 := B37.ex E7_10 (by simp)
  have E10 : Ex [] w w10 := E7.trans E7_10
  rw [ld_sector g_T_api_Sector hs128 B710, ld_sector g_T_A128uint8 hs128 B10, ne_sector hs128 hs128, decide_eq_true rfl, show (!true) = false from rfl]
  refine or_i (r := false) (fun _ k' hk' => ?_) ?_
  · have he : decide ((if o.isSome = true then (0 : Int) else 1) = 0) = o.isSome := by cases o <;> rfl
    rw [bin_eql, he, bin_bneq _ _ b_T_bool]
    simpa using hk'
  refine or_i (r := false) (fun _ k' hk' => ?_) ?_
  · rw [un_not]
    refine and_i (r := decide ((if o.isSome = true then (0 : Int) else 1) ≠ 1)) (fun _ k2 hk2 => by rw [bin_neq]; exact hk2) ?_
    have he : (!o.isSome && decide ((if o.isSome = true then (0 : Int) else 1) ≠ 1)) = false := by cases o <;> rfl
    rw [he]
    exact hk'
  rw [show ((false || false) || false) = false from rfl, wIf_f, ld_sector g_T_api_Sector hs128 B710]
  refine codec_ReadSummary hs128 hslt fun vq w11 hE11 hO11 => ?_
  have hql : (((rdS2 (o.getD zeroS)).getD sm0).ok) ∧ ((rdS2 (o.getD zeroS)).getD sm0).es.length ≤ 8 := by
    cases hq : rdS2 (o.getD zeroS) with
    | none => exact ⟨sm0_ok, by simp [sm0]⟩
    | some q => exact rdS2_some hslt hq
  have hor : o.isSome = true → rdS2 (o.getD zeroS) = some y := by
    intro h
    cases o with
    | none => cases h
    | some s => exact hrd s rfl
  generalize hq : rdS2 (o.getD zeroS) = oq at *
  rw [ext_0, ext_1]
  have l10 := E10.le
  have l11 := hE11.le
  refine alloc_i hzc (vs := sm0.cells (.slice none 0 0)) rfl fun w12 g12 hg12 hE12 B12 => ?_
  refine st_all hTc rfl (cells_isC _ (own_isC hO11)) B12 rfl fun w13 hE13 B13 => ?_
  refine draw_i fun w13' hE13' _ => ?_
  have B13 := B13.ex hE13' (by simp)
  have E11_13 : Ex [] w11 w13' := (hE12.new hE13 (by omega)).trans hE13'
  have E10_13 : Ex [] w10 w13' := hE11.trans E11_13
  refine and_w (r := false) (fun hos k' hk' => ?_) fun w14 hE14 => ?_
  · have hor := hor hos
    subst hor
    simp only [Option.getD_some] at hO11 hql B13
    rw [Option.isSome_some, if_pos rfl, bin_neq]
    refine or_w (r := false) (fun _ k2 hk2 => ?_) fun wi hEi => hk' wi hEi
    have B313 := B310.ex E10_13 (by simp)
    rw [ld_aggT hTc rfl _ _ _ B13, ld_aggT hTr rfl _ _ _ B313]
    refine law05_Told (hO11.ex0 E11_13).slg (own_isC hO11) hyl (by omega) fun v15 w15 hE15 hO15 => ?_
    refine ⟨keep_cons (loadAt_agg hTr (B313.ex hE15 (by simp)).all rfl) keep_nil, ?_⟩
    refine law05_same hO15.slg (Sv.ex0 ((E10.trans E10_13).trans hE15)) hyl (by omega) fun w16 hE16 => ?_
    rw [un_not]
    exact hk2 w16 (hE15.trans hE16)
  · rw [Bool.and_false, wIf_f]
    have E10_14 := E10_13.trans hE14
    rw [ld_sector g_T_api_Sector hs128 (B710.ex E10_14 (by simp))]
    refine law05_turn hs128 hslt (Sb.ex0 (E10.trans E10_14)) hbs fun s1 wb hs1 hb1 hEb => ?_
    refine alloc_i z_T_api_Sector (vs := List.replicate 128 (.int .u8 0)) rfl fun wc gc hgc hEc Bc => ?_
    refine st_sector g_T_api_Sector hs1 Bc List.length_replicate fun wd hEd Bd => ?_
    have Ed : Ex [] w wd := (E10.trans E10_14).trans (hEb.trans (hEc.new hEd (by omega)))
    rw [ld_sector g_T_api_Sector hs1 Bd]
    refine codec_ReadSummary hs1 hb1 fun vp we hEe hOe => ?_
    have h23 := rdS2_eq hb1
    have hpl : (((rdS2 s1).getD sm0).ok) ∧ ((rdS2 s1).getD sm0).es.length ≤ 8 := by
      cases hq : rdS2 s1 with
      | none => exact ⟨sm0_ok, by simp [sm0]⟩
      | some q => exact rdS2_some hb1 hq
    generalize hp : rdS2 s1 = op at *
    rw [ext_0, ext_1]
    have le_ := hEe.le
    refine alloc_i hzc (vs := sm0.cells (.slice none 0 0)) rfl fun wf gf hgf hEf Bf => ?_
    refine st_all hTc rfl (cells_isC _ (own_isC hOe)) Bf rfl fun wg hEg Bg => ?_
    have Eeg : Ex [] we wg := hEf.new hEg (by omega)
    have Edg : Ex [] wd wg := hEe.trans Eeg
    rw [ld_sector g_T_api_Sector hs1 (Bd.ex Edg (by simp))]
    refine ref05_ReadSummary hs1 hb1 fun z vz wh hEh hvz hz => ?_
    rw [← h23] at hz ⊢
    rw [ext_0, ext_1]
    refine alloc_i hzr (vs := sm0.cells (.slice none 0 0)) rfl fun wi gi hgi hEi Bi => ?_
    refine st_all hTr rfl (cells_isC z hvz) Bi rfl fun wj hEj Bj => ?_
    have Ehj : Ex [] wh wj := hEi.new hEj (by omega)
    have lh := hEh.le
    have lhj := Ehj.le
    refine j0_of (fun w' => ∃ v3, Ex [gi] wj w' ∧ Blk w' gi T_ref05_Summary ((op.getD sm0).cells v3) ∧ SlG w' 4 v3 (rcs kEntry (op.getD sm0).es)) (fun k4 hk4 => ?_) ?_
    · rw [un_not]
      cases op with
      | none =>
        rw [show (!(Option.isSome (none : Option Sm))) = true from rfl, wIf_t, bl_T_ref05_Summary (cs := sm0.cells (.slice none 0 0)) rfl]
        refine st_all hTr rfl (cells_isC sm0 rfl) Bj rfl fun wk hEk Bk => ?_
        exact hk4 wk ⟨.slice none 0 0, hEk, Bk, SlG.nil _ _⟩
      | some q =>
        rw [show (!(Option.isSome (some q))) = false from rfl, wIf_f]
        rcases hz with ⟨hz, hOz⟩ | hz
        · injection hz with hz
          subst hz
          exact hk4 wj ⟨vz, Ex.refl _ _, Bj, (hOz.ex0 Ehj).slg⟩
        · cases hz
    rintro J2 wk ⟨v3, hEk, Bk, S3⟩
    have Ehk : Ex [] wh wk := Ehj.new hEk (by omega)
    refine draw_i fun wl hEl _ => ?_
    have Egl : Ex [] wg wl := (hEh.trans Ehk).trans hEl
    have Bgl := Bg.ex Egl (by simp)
    have Bkl := Bk.ex hEl (by simp)
    have hpl' := hpl.1.2.2.2.2.1
    rw [ld_aggT hTc rfl _ _ _ Bgl, ld_aggT hTr rfl _ _ _ Bkl]
    refine law05_Told (hOe.ex0 (Eeg.trans Egl)).slg (own_isC hOe) hpl' (by omega) fun v15 w15 hE15 hO15 => ?_
    refine ⟨keep_cons (loadAt_agg hTr (Bkl.ex hE15 (by simp)).all rfl) keep_nil, ?_⟩
    refine law05_same hO15.slg ((S3.ex0 hEl).ex0 hE15) hpl' (by omega) fun w16 hE16 => ?_
    refine and_i (r := true) (fun _ k' hk' => ?_) ?_
    · have he : decide ((if op.isSome = true then (0 : Int) else 21) = 0) = op.isSome := by cases op <;> rfl
      rw [bin_eql, he, bin_beql _ _ b_T_bool]
      simpa using hk'
    refine and_i (r := true) (fun _ k' hk' => ?_) ?_
    · refine or_i (r := decide ((if op.isSome = true then (0 : Int) else 21) = 21)) (fun _ k2 hk2 => by rw [bin_eql]; exact hk2) ?_
      have : (op.isSome || decide ((if op.isSome = true then (0 : Int) else 21) = 21)) = true := by cases op <;> rfl
      rw [this]
      exact hk'
    exact hk w16 (((Ed.trans Edg).trans Egl).trans (hE15.trans hE16))
end
end Go.Dn
end
section
/-! What an argument reads: structs, arrays and slices of whole numbers and truths, in one another. -/
set_option maxRecDepth 10000
set_option linter.unusedVariables false
set_option linter.unusedSimpArgs false
namespace Go.Dn
open Go Go.ChangeShapes Go.WideShapes Go.Deep
def ArgP {H : Type} (enc : TypeId × Value → H) (P : Program) (w : World) (base : Nat) (held : Bool) (t : TypeId) (n : Nat) (R : List Value → Prop) : Prop :=
  ∀ (fuel : Nat) (cs : List Value) (x : DataW H × List MemPlace), DataW.trod enc P w base (fun _ => true) held fuel t cs = some x → cs.length = n ∧ R cs
section
variable {H : Type} {enc : TypeId × Value → H} {P : Program} {w : World} {base : Nat} {held : Bool} {t : TypeId}
theorem argp_int {k : IntKind} (ht : P.underlying t = some (.int k)) : ArgP enc P w base held t 1 fun cs => ∃ n, cs = [.int k n] ∧ (Lit.int k n).wf = true := by
  intro fuel cs x h
  obtain ⟨n, rfl, _, hw⟩ := DataW.trod_int ht h
  exact ⟨rfl, n, rfl, hw⟩
theorem argp_bool (ht : P.underlying t = some .bool) : ArgP enc P w base held t 1 fun cs => ∃ b, cs = [.bool b] := by
  intro fuel cs x h
  obtain ⟨b, rfl, _⟩ := DataW.trod_bool ht h
  exact ⟨rfl, b, rfl⟩
theorem ArgP.imp {n : Nat} {R R' : List Value → Prop} (h : ArgP enc P w base held t n R) (hR : ∀ cs, cs.length = n → R cs → R' cs) : ArgP enc P w base held t n R' :=
  fun fuel cs x hx => let ⟨h1, h2⟩ := h fuel cs x hx; ⟨h1, hR cs h1 h2⟩
/-- A struct's cells, field by field. -/
def RL : List (TypeId × Nat × (List Value → Prop)) → List Value → Prop
  | [], cs => cs = []
  | (_, n, R) :: L, cs => ∃ a b, cs = a ++ b ∧ a.length = n ∧ R a ∧ RL L b
def AL {H : Type} (enc : TypeId × Value → H) (P : Program) (w : World) (base : Nat) (held : Bool) : List (TypeId × Nat × (List Value → Prop)) → Prop
  | [] => True
  | (ty, n, R) :: L => ArgP enc P w base held ty n R ∧ AL enc P w base held L
def offL : Nat → List (TypeId × Nat × (List Value → Prop)) → List (Nat × TypeId × Nat)
  | _, [] => []
  | o, (ty, n, _) :: L => (o, ty, n) :: offL (o + n) L
theorem rl_of {fuel : Nat} {cs : List Value} : ∀ (fs : List Field) (L : List (TypeId × Nat × (List Value → Prop))) (o : Nat), fs.map (fun f => (f.offset, f.type, P.cellsOf f.type)) = offL o L → AL enc P w base held L → cs.length = o + (L.map (·.2.1)).sum →
    (∀ (i : Nat) (f : Field), fs[i]? = some f → ∃ x, DataW.trod enc P w base (fun _ => true) held fuel f.type ((cs.drop f.offset).take (P.cellsOf f.type)) = some x) → RL L (cs.drop o)
  | [], [], o, _, _, hl, _ => by simp at hl; simp [RL, List.drop_of_length_le (show cs.length ≤ o by omega)]
  | f :: fs, (ty, n, R) :: L, o, hm, hA, hl, hf => by
    simp only [List.map_cons, offL, List.cons.injEq, Prod.mk.injEq] at hm
    obtain ⟨⟨h1, h2, h3⟩, hm⟩ := hm
    obtain ⟨x, hx⟩ := hf 0 f rfl
    rw [h1, h2] at hx
    rw [h2] at h3
    rw [h3] at hx
    obtain ⟨hln, hR⟩ := hA.1 _ _ _ hx
    refine ⟨(cs.drop o).take n, (cs.drop o).drop n, (List.take_append_drop n (cs.drop o)).symm, hln, hR, ?_⟩
    rw [List.drop_drop]
    exact rl_of fs L (o + n) hm hA.2 (by simp at hl ⊢; omega) fun i g hg => hf (i + 1) g (by simpa using hg)
  | [], _ :: _, _, h, _, _, _ => by simp [offL] at h
  | _ :: _, [], _, h, _, _, _ => by simp [offL] at h
theorem argp_struct {L : List (TypeId × Nat × (List Value → Prop))} (ht : P.underlying t = some (.struct (P.fieldsOf t))) (hm : (P.fieldsOf t).toList.map (fun f => (f.offset, f.type, P.cellsOf f.type)) = offL 0 L) (hC : P.cellsOf t = (L.map (·.2.1)).sum)
    (hA : AL enc P w base held L) : ArgP enc P w base held t (L.map (·.2.1)).sum (RL L) := by
  intro fuel cs x h
  obtain ⟨xs, n, _, _, hlen, hxl, hf⟩ := DataW.trod_struct ht h
  refine ⟨by rw [hlen, hC], ?_⟩
  have := rl_of (fuel := n) (cs := cs) _ L 0 hm hA (by rw [hlen, hC]; omega) fun i f hi => by
    have hi' : (P.fieldsOf t)[i]? = some f := by rw [← Array.getElem?_toList]; exact hi
    have hlt : i < (P.fieldsOf t).size := (Array.getElem?_eq_some_iff.1 hi').1
    exact ⟨xs[i], (hf i f hi').trans (List.getElem?_eq_getElem (by omega))⟩
  simpa using this
theorem argp_array {e : TypeId} {m n : Nat} {R : List Value → Prop} (ht : P.underlying t = some (.array m e)) (hC : P.cellsOf t = m * n) (hCe : P.cellsOf e = n) (hE : ArgP enc P w base held e n R) :
    ArgP enc P w base held t (m * n) fun cs => ∃ xss : List (List Value), cs = xss.flatten ∧ xss.length = m ∧ ∀ xs ∈ xss, xs.length = n ∧ R xs := by
  intro fuel cs x h
  obtain ⟨ys, k, _, _, hlen, hyl, hf⟩ := DataW.trod_array ht h
  rw [hC] at hlen
  rw [hCe] at hf
  refine ⟨hlen, (List.range m).map fun i => (cs.drop (i * n)).take n, ?_, by simp, ?_⟩
  · have key : ∀ j, j ≤ m → ((List.range j).map fun i => (cs.drop (i * n)).take n).flatten = cs.take (j * n) := by
      intro j
      induction j with
      | zero => intro _; simp
      | succ j ih =>
        intro hj
        rw [List.range_succ, List.map_append, List.flatten_append, ih (by omega), Nat.succ_mul, List.take_add]
        simp
    rw [key m (Nat.le_refl _), List.take_of_length_le (by omega)]
  · intro xs hx
    obtain ⟨i, hi, rfl⟩ := List.mem_map.1 hx
    rw [List.mem_range] at hi
    have := hf i hi
    rw [List.getElem?_eq_getElem (by omega)] at this
    exact hE _ _ _ this
theorem list_of' {α : Type} {Q : Nat → α → Prop} : ∀ n, (∀ i, i < n → ∃ u, Q i u) → ∃ l : List α, l.length = n ∧ ∀ i u, l[i]? = some u → Q i u
  | 0, _ => ⟨[], rfl, by simp⟩
  | n + 1, h => by
    obtain ⟨l, hl, hq⟩ := list_of' n fun i hi => h i (by omega)
    obtain ⟨u, hu⟩ := h n (by omega)
    refine ⟨l ++ [u], by simp [hl], fun i x hx => ?_⟩
    rw [List.getElem?_append] at hx
    split at hx
    · exact hq i x hx
    · rename_i hge
      have : i = l.length := by
        have := (List.getElem?_eq_some_iff.1 hx).1
        simp at this; omega
      subst this
      simp at hx
      subst hx
      rw [hl]; exact hu
theorem flatten_get {n : Nat} : ∀ (xss : List (List Value)) (i : Nat), (∀ xs ∈ xss, xs.length = n) → 0 < n → ∀ v, xss.flatten[i]? = some v → ∃ xs, xss[i / n]? = some xs ∧ xs[i % n]? = some v
  | [], i, _, _, v, h => by simp at h
  | x :: xss, i, hl, hn, v, h => by
    have hx := hl x (List.mem_cons_self ..)
    rw [List.flatten_cons, List.getElem?_append] at h
    split at h
    · rename_i hlt
      rw [hx] at hlt
      rw [Nat.div_eq_of_lt hlt, Nat.mod_eq_of_lt hlt]
      exact ⟨x, rfl, h⟩
    · rename_i hge
      rw [hx] at hge h
      obtain ⟨xs, h1, h2⟩ := flatten_get xss (i - n) (fun y hy => hl y (List.mem_cons_of_mem _ hy)) hn v h
      have e1 : i / n = (i - n) / n + 1 := by
        rw [Nat.div_eq_sub_div hn (by omega)]
      have e2 : i % n = (i - n) % n := by rw [Nat.mod_eq_sub_mod (by omega)]
      rw [e1, e2]
      exact ⟨xs, by simpa using h1, h2⟩
theorem flatten_len {n : Nat} : ∀ (xss : List (List Value)), (∀ xs ∈ xss, xs.length = n) → xss.flatten.length = xss.length * n
  | [], _ => by simp
  | x :: xss, h => by
    rw [List.flatten_cons, List.length_append, h x (List.mem_cons_self ..), flatten_len xss fun y hy => h y (List.mem_cons_of_mem _ hy), List.length_cons, Nat.succ_mul]
    omega
theorem argp_slice {e : TypeId} {n : Nat} {R : List Value → Prop} (ht : P.underlying t = some (.slice e)) (hn : 0 < n) (hCe : P.cellsOf e = n) (hE : ArgP enc P w base held e n R) :
    ArgP enc P w base held t 1 fun cs => ∃ v xss, cs = [v] ∧ SlG w n v (List.flatten xss) ∧ ∀ xs ∈ xss, xs.length = n ∧ R xs := by
  intro fuel cs x h
  rcases open_slice ht h with h0 | ⟨a, len, cap, m, k, D, Pl, hcs, hb, hl, hm, hmm, hx, hi⟩
  · exact ⟨by rw [h0.1]; rfl, .slice none 0 0, [], h0.1, SlG.nil w n, by simp⟩
  · refine ⟨by rw [hcs]; rfl, .slice (some a) len cap, ?_⟩
    simp only [if_true] at hmm
    subst hmm
    rw [hCe] at hi
    have key : ∀ i, i < len → ∃ cs' : List Value, (cs'.length = n ∧ R cs') ∧ ∀ j, j < n → w.cell? ((a.add (i * n)).add j) = cs'[j]? := by
      intro i hlt
      obtain ⟨cs', hc, htr⟩ := hi i (by omega)
      obtain ⟨_, hcl, hat⟩ := World.cells?_some hc
      exact ⟨cs', hE _ _ _ htr, hat⟩
    obtain ⟨xss, hxl, hxs⟩ := list_of' len key
    have hall : ∀ xs ∈ xss, xs.length = n ∧ R xs := fun xs hx => by
      obtain ⟨i, hi⟩ := List.mem_iff_getElem?.1 hx
      exact (hxs i xs hi).1
    have hfl := flatten_len xss fun xs hx => (hall xs hx).1
    refine ⟨xss, hcs, ⟨some a, len, m, rfl, by rw [hfl, hxl], hl, fun hne => ?_⟩, hall⟩
    obtain ⟨b, o, s⟩ := a
    have hs : s = none := by
      have h0 : 0 < xss.length := by omega
      obtain ⟨y, hy⟩ : ∃ y, w.cell? (((⟨b, o, s⟩ : Addr).add (0 * n)).add 0) = some y := by
        have hq := hxs 0 xss[0] (List.getElem?_eq_getElem h0)
        exact ⟨_, (hq.2 0 hn).trans (List.getElem?_eq_getElem (by rw [hq.1.1]; exact hn))⟩
      clear hi hxs key hall
      cases s with
      | none => rfl
      | some x =>
        exfalso
        rw [Nat.zero_mul] at hy
        unfold World.cell? Addr.add at hy
        repeat' split at hy
        all_goals simp_all
    subst hs
    refine ⟨b, o, rfl, fun i v hv => ?_⟩
    obtain ⟨xs, h1, h2⟩ := flatten_get xss i (fun xs hx => (hall xs hx).1) hn v hv
    have hq := hxs _ _ h1
    have hc := hq.2 (i % n) (Nat.mod_lt _ hn)
    rw [h2] at hc
    rw [← hc, add_pl, add_pl]
    congr 2
    have := Nat.div_add_mod i n
    rw [Nat.mul_comm] at this
    omega
end
end Go.Dn
end
section
/-! What arguments of the reference's types read. -/
set_option maxRecDepth 10000
set_option linter.unusedVariables false
set_option linter.unusedSimpArgs false
namespace Go.Dn
open Go Go.ChangeShapes Go.WideShapes Go.Deep
def ints (l : List (TypeId × IntKind)) : List (TypeId × Nat × (List Value → Prop)) := l.map fun x => (x.1, 1, fun cs => ∃ n, cs = [.int x.2 n] ∧ (Lit.int x.2 n).wf = true)
theorem wf_inR1 {k : IntKind} {n : Int} (hk : k = .u64 ∨ k = .i64 ∨ k = .u32) (h : (Lit.int k n).wf = true) : inR1 k n := by
  have h : (decide (k.min ≤ n) && decide (n ≤ k.max)) = true := h
  simp only [Bool.and_eq_true, decide_eq_true_eq] at h
  rcases hk with rfl | rfl | rfl
  · have h1 : (0 : Int) ≤ n := h.1
    have h2 : n ≤ 18446744073709551615 := h.2
    exact ⟨h1, by omega⟩
  · have h1 : (-9223372036854775808 : Int) ≤ n := h.1
    have h2 : n ≤ 9223372036854775807 := h.2
    exact ⟨h1, h2⟩
  · have h1 : (0 : Int) ≤ n := h.1
    have h2 : n ≤ 4294967295 := h.2
    exact ⟨h1, by omega⟩
theorem rl_ints : ∀ (l : List (TypeId × IntKind)) (cs : List Value), (∀ x ∈ l, x.2 = .u64 ∨ x.2 = .i64 ∨ x.2 = .u32) → RL (ints l) cs → ∃ r, cs = rc (l.map (·.2)) r ∧ r.length = l.length ∧ inR (l.map (·.2)) r
  | [], cs, _, h => ⟨[], h, rfl, trivial⟩
  | x :: l, cs, hk, h => by
    obtain ⟨a, b, rfl, _, ⟨n, rfl, hw⟩, hb⟩ := h
    obtain ⟨r, rfl, hl, hin⟩ := rl_ints l b (fun y hy => hk y (List.mem_cons_of_mem _ hy)) hb
    exact ⟨n :: r, rfl, by simp [hl], wf_inR1 (hk x (List.mem_cons_self ..)) hw, hin⟩
theorem rl_append : ∀ (L1 L2 : List (TypeId × Nat × (List Value → Prop))) (cs : List Value), RL (L1 ++ L2) cs → ∃ a b, cs = a ++ b ∧ RL L1 a ∧ RL L2 b
  | [], L2, cs, h => ⟨[], cs, rfl, rfl, h⟩
  | x :: L1, L2, cs, h => by
    obtain ⟨a, b, rfl, h1, h2, h3⟩ := h
    obtain ⟨c, d, rfl, h4, h5⟩ := rl_append L1 L2 b h3
    exact ⟨a ++ c, d, by simp, ⟨a, c, rfl, h1, h2, h4⟩, h5⟩
section
variable {H : Type} {enc : TypeId × Value → H} {w : World} {base : Nat} {held : Bool}
theorem al_ints : ∀ (l : List (TypeId × IntKind)), (∀ x ∈ l, P.underlying x.1 = some (.int x.2)) → AL enc P w base held (ints l)
  | [], _ => trivial
  | x :: l, h => ⟨argp_int (h x (List.mem_cons_self ..)), al_ints l fun y hy => h y (List.mem_cons_of_mem _ hy)⟩
theorem al_append : ∀ (L1 L2 : List (TypeId × Nat × (List Value → Prop))), AL enc P w base held L1 → AL enc P w base held L2 → AL enc P w base held (L1 ++ L2)
  | [], L2, _, h => h
  | x :: L1, L2, h, h' => ⟨h.1, al_append L1 L2 h.2 h'⟩
theorem ints_sum (l : List (TypeId × IntKind)) : ((ints l).map (·.2.1)).sum = l.length := by
  induction l with
  | nil => rfl
  | cons x l ih => simp only [ints, List.map_cons, List.sum_cons, List.length_cons] at ih ⊢; omega
/-- A record among the arguments. -/
theorem argp_rec {t : TypeId} (l : List (TypeId × IntKind)) (ht : P.underlying t = some (.struct (P.fieldsOf t))) (hm : (P.fieldsOf t).toList.map (fun f => (f.offset, f.type, P.cellsOf f.type)) = offL 0 (ints l)) (hC : P.cellsOf t = l.length) (hu : ∀ x ∈ l, P.underlying x.1 = some (.int x.2))
    (hk : ∀ x ∈ l, x.2 = .u64 ∨ x.2 = .i64 ∨ x.2 = .u32) : ArgP enc P w base held t l.length fun cs => ∃ r, cs = rc (l.map (·.2)) r ∧ r.length = l.length ∧ inR (l.map (·.2)) r := by
  have hs := ints_sum l
  have := argp_struct (enc := enc) (w := w) (base := base) (held := held) ht hm (by rw [hC, hs]) (al_ints l hu)
  rw [hs] at this
  exact this.imp fun cs _ h => rl_ints l cs hk h
theorem args_rcs {ks : List IntKind} {n : Nat} (hn : n = ks.length) : ∀ (xss : List (List Value)), (∀ xs ∈ xss, xs.length = n ∧ ∃ r, xs = rc ks r ∧ r.length = n ∧ inR ks r) → ∃ rs, xss.flatten = rcs ks rs ∧ lenR ks rs ∧ ∀ r ∈ rs, inR ks r
  | [], _ => ⟨[], rfl, by intro r hr; simp at hr, by simp⟩
  | x :: xss, h => by
    obtain ⟨_, r, rfl, hl, hin⟩ := h x (List.mem_cons_self ..)
    obtain ⟨rs, he, hlr, hir⟩ := args_rcs hn xss fun y hy => h y (List.mem_cons_of_mem _ hy)
    refine ⟨r :: rs, by rw [List.flatten_cons, he, rcs_cons], fun q hq => ?_, fun q hq => ?_⟩
    · rcases List.mem_cons.1 hq with rfl | hq
      · rw [hl, hn]
      · exact hlr q hq
    · rcases List.mem_cons.1 hq with rfl | hq
      · exact hin
      · exact hir q hq
theorem arg_list {t e : TypeId} {n : Nat} {ks : List IntKind} (hn : n = ks.length) (hn0 : 0 < n) (hu : P.underlying t = some (.slice e)) (hC : P.cellsOf e = n) (hE : ArgP enc P w base held e n fun cs => ∃ r, cs = rc ks r ∧ r.length = n ∧ inR ks r)
    {v : Value} {d : DataW H} {p : List MemPlace} (hc : v.cells = #[v]) (h : DataW.Trod enc P w base (fun _ => true) held t v d p) : ∃ rs, SlG w n v (rcs ks rs) ∧ lenR ks rs ∧ ∀ r ∈ rs, inR ks r := by
  obtain ⟨fuel, hf⟩ := h
  rw [hc] at hf
  obtain ⟨_, v', xss, he, hS, hall⟩ := argp_slice hu hn0 hC hE _ _ _ hf
  simp at he
  subst he
  obtain ⟨rs, hfl, h1, h2⟩ := args_rcs hn xss hall
  rw [hfl] at hS
  exact ⟨rs, hS, h1, h2⟩
theorem p_Use : ArgP enc P w base held T_ref05_Use 3 fun cs => ∃ r, cs = rc kUse r ∧ r.length = 3 ∧ inR kUse r :=
  argp_rec [(T_int, .i64), (T_int, .i64), (T_uint32, .u32)] (by kernel_rfl) (by kernel_rfl) (by kernel_rfl) (by simp only [List.mem_cons, List.not_mem_nil, or_false]; rintro x (rfl | rfl | rfl) <;> first | exact i_T_int | exact i_T_uint32) (by decide)
theorem p_Slot : ArgP enc P w base held T_ref05_Slot 4 fun cs => ∃ r, cs = rc kSlot r ∧ r.length = 4 ∧ inR kSlot r :=
  argp_rec [(T_int, .i64), (T_uint32, .u32), (T_int, .i64), (T_int, .i64)] (by kernel_rfl) (by kernel_rfl) (by kernel_rfl) (by simp only [List.mem_cons, List.not_mem_nil, or_false]; rintro x (rfl | rfl | rfl | rfl) <;> first | exact i_T_int | exact i_T_uint32) (by decide)
theorem p_Record : ArgP enc P w base held T_ref05_Record 4 fun cs => ∃ r, cs = rc kRecord r ∧ r.length = 4 ∧ inR kRecord r :=
  argp_rec [(T_uint32, .u32), (T_uint32, .u32), (T_int, .i64), (T_int, .i64)] (by kernel_rfl) (by kernel_rfl) (by kernel_rfl) (by simp only [List.mem_cons, List.not_mem_nil, or_false]; rintro x (rfl | rfl | rfl | rfl) <;> first | exact i_T_int | exact i_T_uint32) (by decide)
theorem arg_Uses {v : Value} {d : DataW H} {p : List MemPlace} (hc : v.cells = #[v]) (h : DataW.Trod enc P w base (fun _ => true) held T_Lref05_Use v d p) : ∃ rs, SlG w 3 v (rcs kUse rs) ∧ lenR kUse rs ∧ ∀ r ∈ rs, inR kUse r :=
  arg_list (n := 3) rfl (by omega) u_T_Lref05_Use (by kernel_rfl) p_Use hc h
theorem arg_Slots {v : Value} {d : DataW H} {p : List MemPlace} (hc : v.cells = #[v]) (h : DataW.Trod enc P w base (fun _ => true) held T_Lref05_Slot v d p) : ∃ rs, SlG w 4 v (rcs kSlot rs) ∧ lenR kSlot rs ∧ ∀ r ∈ rs, inR kSlot r :=
  arg_list (n := 4) rfl (by omega) u_T_Lref05_Slot (by kernel_rfl) p_Slot hc h
theorem arg_Records {v : Value} {d : DataW H} {p : List MemPlace} (hc : v.cells = #[v]) (h : DataW.Trod enc P w base (fun _ => true) held T_Lref05_Record v d p) : ∃ rs, SlG w 4 v (rcs kRecord rs) ∧ lenR kRecord rs ∧ ∀ r ∈ rs, inR kRecord r :=
  arg_list (n := 4) rfl (by omega) u_T_Lref05_Record (by kernel_rfl) p_Record hc h
theorem p_u8 : ArgP enc P w base held T_uint8 1 fun cs => ∃ b : Nat, cs = bvs [b] ∧ b < 256 :=
  (argp_int i_T_uint8).imp fun cs _ ⟨n, hn, hw⟩ => by
    have hw : (decide (IntKind.u8.min ≤ n) && decide (n ≤ IntKind.u8.max)) = true := hw
    simp only [Bool.and_eq_true, decide_eq_true_eq] at hw
    have h1 : (0 : Int) ≤ n := hw.1
    have h2 : n ≤ 255 := hw.2
    refine ⟨n.toNat, ?_, by omega⟩
    rw [hn]
    simp only [bvs, List.map_cons, List.map_nil]
    congr 2
    omega
theorem args_bvs : ∀ (xss : List (List Value)), (∀ xs ∈ xss, xs.length = 1 ∧ ∃ b : Nat, xs = bvs [b] ∧ b < 256) → ∃ bs, xss.flatten = bvs bs ∧ ∀ b ∈ bs, b < 256
  | [], _ => ⟨[], rfl, by simp⟩
  | x :: xss, h => by
    obtain ⟨_, b, rfl, hb⟩ := h x (List.mem_cons_self ..)
    obtain ⟨bs, he, hall⟩ := args_bvs xss fun y hy => h y (List.mem_cons_of_mem _ hy)
    refine ⟨b :: bs, by rw [List.flatten_cons, he]; rfl, fun q hq => ?_⟩
    rcases List.mem_cons.1 hq with rfl | hq
    · exact hb
    · exact hall q hq
theorem arg_bytes {v : Value} {d : DataW H} {p : List MemPlace} (hc : v.cells = #[v]) (h : DataW.Trod enc P w base (fun _ => true) held T_Luint8 v d p) : ∃ bs, SlG w 1 v (bvs bs) ∧ ∀ b ∈ bs, b < 256 := by
  obtain ⟨fuel, hf⟩ := h
  rw [hc] at hf
  obtain ⟨_, v', xss, he, hS, hall⟩ := argp_slice u_T_Luint8 (by omega) (by kernel_rfl) p_u8 _ _ _ hf
  simp at he
  subst he
  obtain ⟨bs, hfl, h1⟩ := args_bvs xss hall
  rw [hfl] at hS
  exact ⟨bs, hS, h1⟩
end
end Go.Dn
end
section
/-! Structs of the reference among the arguments. -/
set_option maxRecDepth 10000
set_option linter.unusedVariables false
set_option linter.unusedSimpArgs false
namespace Go.Dn
open Go Go.ChangeShapes Go.WideShapes Go.Deep
theorem okWide_arr {P : Program} {w : World} {r : Reach} {base : Nat} {t e : TypeId} {n : Nat} {v : Value} (ht : P.underlying t = some (.array n e)) (h : Value.okWide P w r base t v) : ∃ cs, v = .agg cs ∧ cs.size = P.cellsOf t := by
  simp only [Value.okWide, ht] at h
  obtain ⟨cs, h1, h2, _⟩ := h
  exact ⟨cs, h1, h2⟩
theorem args_ints {k : IntKind} (hk : k = .u64 ∨ k = .i64 ∨ k = .u32) : ∀ (xss : List (List Value)), (∀ xs ∈ xss, xs.length = 1 ∧ ∃ n, xs = [.int k n] ∧ (Lit.int k n).wf = true) → ∃ r : List Int, xss.flatten = rc (List.replicate xss.length k) r ∧ r.length = xss.length ∧ inR (List.replicate xss.length k) r
  | [], _ => ⟨[], rfl, rfl, trivial⟩
  | x :: xss, h => by
    obtain ⟨_, n, rfl, hw⟩ := h x (List.mem_cons_self ..)
    obtain ⟨r, he, hl, hin⟩ := args_ints hk xss fun y hy => h y (List.mem_cons_of_mem _ hy)
    exact ⟨n :: r, by rw [List.flatten_cons, he]; rfl, by simp [hl], wf_inR1 hk hw, hin⟩
theorem rc_app : ∀ (k1 k2 : List IntKind) (r1 r2 : List Int), r1.length = k1.length → rc k1 r1 ++ rc k2 r2 = rc (k1 ++ k2) (r1 ++ r2)
  | [], k2, [], r2, _ => rfl
  | _ :: k1, k2, n :: r1, r2, h => by
    have := rc_app k1 k2 r1 r2 (by simpa using h)
    show _ :: (rc k1 r1 ++ rc k2 r2) = _
    rw [this]; rfl
  | [], _, _ :: _, _, h => by simp at h
  | _ :: _, _, [], _, h => by simp at h
theorem inR_append : ∀ (k1 k2 : List IntKind) (r1 r2 : List Int), r1.length = k1.length → inR k1 r1 → inR k2 r2 → inR (k1 ++ k2) (r1 ++ r2)
  | [], k2, [], r2, _, _, h => h
  | _ :: k1, k2, n :: r1, r2, h, h1, h2 => ⟨h1.1, inR_append k1 k2 r1 r2 (by simpa using h) h1.2 h2⟩
  | [], _, _ :: _, _, h, _, _ => by simp at h
  | _ :: _, _, [], _, h, _, _ => by simp at h
section
variable {H : Type} {enc : TypeId × Value → H} {w : World} {base : Nat} {held : Bool}
theorem p_Header : ArgP enc P w base held T_ref05_Header 6 fun cs => ∃ r, cs = rc kHeader r ∧ r.length = 6 ∧ inR kHeader r :=
  argp_rec [(T_uint64, .u64), (T_uint64, .u64), (T_int, .i64), (T_int, .i64), (T_int, .i64), (T_uint32, .u32)] (by kernel_rfl) (by kernel_rfl) (by kernel_rfl) (by simp only [List.mem_cons, List.not_mem_nil, or_false]; rintro x (rfl | rfl | rfl | rfl | rfl | rfl) <;> first | exact i_T_int | exact i_T_uint32 | exact i_T_uint64) (by decide)
theorem p_A8int : ArgP enc P w base held T_A8int 8 fun cs => ∃ r, cs = rc (List.replicate 8 .i64) r ∧ r.length = 8 ∧ inR (List.replicate 8 .i64) r :=
  (argp_array (m := 8) (n := 1) (e := T_int) (by kernel_rfl) (by kernel_rfl) (by kernel_rfl) (argp_int i_T_int)).imp fun cs _ ⟨xss, hcs, hl, hall⟩ => by
    obtain ⟨r, he, hr, hin⟩ := args_ints (.inr (.inl rfl)) xss hall
    rw [hl] at he hr hin
    exact ⟨r, by rw [hcs, he], hr, hin⟩
theorem p_Inode : ArgP enc P w base held T_ref05_Inode 15 fun cs => ∃ r, cs = rc kInode r ∧ r.length = 15 ∧ inR kInode r := by
  have hA : AL enc P w base held (ints [(T_uint32, .u32), (T_uint32, .u32), (T_int, .i64), (T_int, .i64), (T_uint32, .u32)] ++ ((T_A8int, 8, fun cs => ∃ r, cs = rc (List.replicate 8 .i64) r ∧ r.length = 8 ∧ inR (List.replicate 8 .i64) r) :: ints [(T_int, .i64), (T_int, .i64)])) :=
    al_append _ _ (al_ints _ (by simp only [List.mem_cons, List.not_mem_nil, or_false]; rintro x (rfl | rfl | rfl | rfl | rfl) <;> first | exact i_T_int | exact i_T_uint32)) ⟨p_A8int, al_ints _ (by simp only [List.mem_cons, List.not_mem_nil, or_false]; rintro x (rfl | rfl) <;> exact i_T_int)⟩
  refine (argp_struct (t := T_ref05_Inode) (by kernel_rfl) (by kernel_rfl) (by kernel_rfl) hA).imp fun cs hl h => ?_
  obtain ⟨a, b, rfl, ha, c, d, rfl, hc, ⟨r2, rfl, hr2, hi2⟩, hd⟩ := rl_append _ _ _ h
  obtain ⟨r1, rfl, hr1, hi1⟩ := rl_ints _ _ (by decide) ha
  obtain ⟨r3, rfl, hr3, hi3⟩ := rl_ints _ _ (by decide) hd
  refine ⟨r1 ++ (r2 ++ r3), ?_, by simp [hr1, hr2, hr3], ?_⟩
  · exact (congrArg (rc _ r1 ++ ·) (rc_app (List.replicate 8 .i64) _ r2 r3 (by rw [hr2]; rfl))).trans (rc_app _ _ r1 _ (by rw [hr1]; rfl))
  · exact inR_append _ _ _ _ (by rw [hr1]; rfl) hi1 (inR_append (List.replicate 8 .i64) _ _ _ (by rw [hr2]; rfl) hi2 hi3)
theorem arg_of {t : TypeId} {n : Nat} {R : List Value → Prop} (hp : ArgP enc P w base held t n R) {cs : Array Value} {d : DataW H} {p : List MemPlace} (h : DataW.Trod enc P w base (fun _ => true) held t (.agg cs) d p) : ∃ vs, cs = ⟨vs⟩ ∧ R vs := by
  obtain ⟨fuel, hf⟩ := h
  exact ⟨cs.toList, rfl, (hp _ _ _ hf).2⟩
theorem arg_Inode {cs : Array Value} {d : DataW H} {p : List MemPlace} (h : DataW.Trod enc P w base (fun _ => true) held T_ref05_Inode (.agg cs) d p) : ∃ r, cs = ⟨rc kInode r⟩ ∧ r.length = 15 ∧ inR kInode r := by
  obtain ⟨vs, rfl, r, rfl, h1, h2⟩ := arg_of p_Inode h
  exact ⟨r, rfl, h1, h2⟩
theorem arg_Header {cs : Array Value} {d : DataW H} {p : List MemPlace} (h : DataW.Trod enc P w base (fun _ => true) held T_ref05_Header (.agg cs) d p) : ∃ r, cs = ⟨rc kHeader r⟩ ∧ r.length = 6 ∧ inR kHeader r := by
  obtain ⟨vs, rfl, r, rfl, h1, h2⟩ := arg_of p_Header h
  exact ⟨r, rfl, h1, h2⟩
theorem p_A32int : ArgP enc P w base held T_A32int 32 fun cs => ∃ l : List Int, cs = im l ∧ l.length = 32 ∧ inR (List.replicate 32 .i64) l :=
  (argp_array (m := 32) (n := 1) (e := T_int) (by kernel_rfl) (by kernel_rfl) (by kernel_rfl) (argp_int i_T_int)).imp fun cs _ ⟨xss, hcs, hl, hall⟩ => by
    obtain ⟨r, he, hr, hin⟩ := args_ints (.inr (.inl rfl)) xss hall
    rw [hl] at he hr hin
    refine ⟨r, ?_, hr, hin⟩
    rw [hcs, he]
    have key : ∀ (n : Nat) (q : List Int), q.length = n → rc (List.replicate n .i64) q = im q := by
      intro n
      induction n with
      | zero => intro q hq; cases q with | nil => rfl | cons _ _ => simp at hq
      | succ n ih =>
        intro q hq
        cases q with
        | nil => simp at hq
        | cons x q => show _ :: rc (List.replicate n .i64) q = _ :: im q; rw [ih q (by simpa using hq)]
    exact key 32 r hr
theorem arg_A32int {cs : Array Value} {d : DataW H} {p : List MemPlace} (h : DataW.Trod enc P w base (fun _ => true) held T_A32int (.agg cs) d p) : ∃ l : List Int, cs = ⟨im l⟩ ∧ l.length = 32 := by
  obtain ⟨vs, rfl, r, rfl, h1, _⟩ := arg_of p_A32int h
  exact ⟨r, rfl, h1⟩
end
end Go.Dn
end
section
/-! A summary among the arguments. -/
set_option maxRecDepth 10000
set_option linter.unusedVariables false
set_option linter.unusedSimpArgs false
namespace Go.Dn
open Go Go.ChangeShapes Go.WideShapes Go.Deep
section
variable {H : Type} {enc : TypeId × Value → H} {w : World} {base : Nat} {held : Bool}
theorem p_Entry : ArgP enc P w base held T_ref05_Entry 4 fun cs => ∃ r, cs = rc kEntry r ∧ r.length = 4 ∧ inR kEntry r :=
  argp_rec [(T_int, .i64), (T_uint32, .u32), (T_uint32, .u32), (T_int, .i64)] (by kernel_rfl) (by kernel_rfl) (by kernel_rfl) (by simp only [List.mem_cons, List.not_mem_nil, or_false]; rintro x (rfl | rfl | rfl | rfl) <;> first | exact i_T_int | exact i_T_uint32) (by decide)
theorem p_Entries : ArgP enc P w base true T_Lref05_Entry 1 fun cs => ∃ v rs, cs = [v] ∧ SlG w 4 v (rcs kEntry rs) ∧ lenR kEntry rs ∧ ∀ r ∈ rs, inR kEntry r :=
  (argp_slice u_T_Lref05_Entry (by omega) (by kernel_rfl) p_Entry).imp fun cs _ ⟨v, xss, hcs, hS, hall⟩ => by
    obtain ⟨rs, hfl, h1, h2⟩ := args_rcs (ks := kEntry) (n := 4) rfl xss hall
    rw [hfl] at hS
    exact ⟨v, rs, hcs, hS, h1, h2⟩
theorem arg_Summary {cs : Array Value} {d : DataW H} {p : List MemPlace} (h : DataW.Trod enc P w base (fun _ => true) true T_ref05_Summary (.agg cs) d p) :
    ∃ q : Sm × Value, cs = ⟨q.1.cells q.2⟩ ∧ q.1.ok ∧ SlG w 4 q.2 (rcs kEntry q.1.es) := by
  have hA : AL enc P w base true (ints [(T_uint64, .u64), (T_uint64, .u64)] ++ ((T_bool, 1, fun cs => ∃ b, cs = [.bool b]) :: (ints [(T_int, .i64), (T_uint32, .u32)] ++ [(T_Lref05_Entry, 1, fun cs => ∃ v rs, cs = [v] ∧ SlG w 4 v (rcs kEntry rs) ∧ lenR kEntry rs ∧ ∀ r ∈ rs, inR kEntry r)]))) :=
    al_append _ _ (al_ints _ (by simp only [List.mem_cons, List.not_mem_nil, or_false]; rintro x (rfl | rfl) <;> exact i_T_uint64)) ⟨argp_bool b_T_bool, al_append _ _ (al_ints _ (by simp only [List.mem_cons, List.not_mem_nil, or_false]; rintro x (rfl | rfl) <;> first | exact i_T_int | exact i_T_uint32)) ⟨p_Entries, trivial⟩⟩
  obtain ⟨vs, rfl, hvs⟩ := arg_of (argp_struct (t := T_ref05_Summary) (by kernel_rfl) (by kernel_rfl) (by kernel_rfl) hA) h
  obtain ⟨a, b, rfl, ha, c, e, rfl, _, ⟨cm, rfl⟩, he⟩ := rl_append _ _ _ hvs
  obtain ⟨f, g, rfl, hf, i, j, rfl, _, ⟨v, rs, rfl, hS, h1, h2⟩, hj⟩ := rl_append _ _ _ he
  obtain ⟨r1, rfl, hr1, hi1⟩ := rl_ints _ _ (by decide) ha
  obtain ⟨r2, rfl, hr2, hi2⟩ := rl_ints _ _ (by decide) hf
  have hj : j = [] := hj
  subst hj
  match r1, hr1, r2, hr2 with
  | [s1, s2], _, [n1, t1], _ =>
    obtain ⟨q1, q2, _⟩ := hi1
    obtain ⟨q3, q4, _⟩ := hi2
    exact ⟨(⟨s1, s2, cm, n1, t1, rs⟩, v), rfl, ⟨q1, q2, q3, q4, h1, h2⟩, hS⟩
end
end Go.Dn
end
section
/-! From a contract to 'Calls'. -/
set_option linter.unusedVariables false
set_option linter.unusedSimpArgs false
namespace Go.Dn
open Go
attribute [local semireducible] wCall wNext callW
theorem calls_of {P : Program} {f : FuncId} {fn : Func} {args : List Value} {w : World} {R : Value → World → Prop} (hf : P.funcs[f]? = some fn) (hname : (fn.name == "runtime.NumGoroutine") = false) (hb : fn.body.isNone = false) (h : wCall P f args w R) :
    Calls P f ⟨args⟩ w fun e w' => ∃ v, e = .returned v ∧ R v w' := by
  unfold wCall wNext callFunc at h
  simp only [program, Sem.run_bind, Sem.run, Result.andThen_ok, hf, hname, hb, Bool.false_eq_true, if_false] at h
  unfold callW at h
  refine Calls.mono h fun e w' he => ?_
  cases e <;> first | exact ⟨_, rfl, he⟩ | exact he.elim
end Go.Dn
end
