import Derived.Test.YtflnhihdbhjlnaaGn
/-! Texts of functions, printed by mkg.py. -/
set_option maxRecDepth 100000
set_option linter.unusedVariables false
namespace Go.Dn
open Go Go.Proofs
def F_slices_Clone_api_Sector (a0 : Value) (w : World) (k : Value → World → Prop) : Prop :=
  wBin P .eql T_Lapi_Sector a0 (.slice none 0 0) w fun t4 w =>
  wIf t4 (
    k (.slice none 0 0) w) (
    wBuildS P T_Lapi_Sector 0 [] w fun t5 w =>
    wBuiltin P .append #[T_Lapi_Sector, T_Lapi_Sector] [t5, a0] w fun t7 w =>
    k t7 w)

theorem call_slices_Clone_api_Sector (a0 : Value) {w : World} {k : Value → World → Prop} (h : F_slices_Clone_api_Sector a0 w k) : wCall P n_slices_Clone_api_Sector [a0] w k :=
  call_of_den mixedP Try.func131 (by kernel_rfl) .z (by kernel_rfl) (Eq.mp (by kernel_rfl) h)

def F_slices_Clone_disk_write (a0 : Value) (w : World) (k : Value → World → Prop) : Prop :=
  wBin P .eql T_Ldisk_write a0 (.slice none 0 0) w fun t4 w =>
  wIf t4 (
    k (.slice none 0 0) w) (
    wBuildS P T_Ldisk_write 0 [] w fun t5 w =>
    wBuiltin P .append #[T_Ldisk_write, T_Ldisk_write] [t5, a0] w fun t7 w =>
    k t7 w)

theorem call_slices_Clone_disk_write (a0 : Value) {w : World} {k : Value → World → Prop} (h : F_slices_Clone_disk_write a0 w k) : wCall P n_slices_Clone_disk_write [a0] w k :=
  call_of_den mixedP Try.func132 (by kernel_rfl) .z (by kernel_rfl) (Eq.mp (by kernel_rfl) h)

def F_slices_Equal_api_Sector (a0 a1 : Value) (w : World) (k : Value → World → Prop) : Prop :=
  wLen P .len #[T_Lapi_Sector] [a0] w fun t7 w =>
  wLen P .len #[T_Lapi_Sector] [a1] w fun t9 w =>
  wBin P .neq T_int t7 t9 w fun t10 w =>
  wIf t10 (
    k (.bool false) w) (
    wLen P .len #[T_Lapi_Sector] [a0] w fun t12 w =>
    wL1 (.int .i64 0) w (fun _ v13 w k2 =>
      wBin P .lss T_int v13 t12 w fun t14 w =>
      wIf t14 (
        wDraw w fun w =>
        wIndexA P T_Lapi_Sector a0 v13 w fun t18 w =>
        wLoad P T_api_Sector t18 w fun t19 w =>
        wIndexA P T_Lapi_Sector a1 v13 w fun t22 w =>
        wLoad P T_api_Sector t22 w fun t23 w =>
        wBin P .neq T_api_Sector t19 t23 w fun t24 w =>
        wIf t24 (
          k (.bool false) w) (
          wBin P .add T_int v13 (.int .i64 1) w fun t25 w =>
          k2 t25 w)) (
        k (.bool true) w)))

theorem call_slices_Equal_api_Sector (a0 a1 : Value) {w : World} {k : Value → World → Prop} (h : F_slices_Equal_api_Sector a0 a1 w k) : wCall P n_slices_Equal_api_Sector [a0, a1] w k :=
  call_of_den mixedP Try.func133 (by kernel_rfl) (.s .z (.s .z (.s (.s .z (.b (.l [13] [0, 1, 12] (.s .z (.s .z (.s (.b (.s .z (.s (.r (.ops [0, 1, 2, 3, 4, 5, 6, 7, 8] .nil)) .z))) .z)))))) .z))) (by kernel_rfl) (Eq.mp (by kernel_rfl) h)

def F_slices_Equal_disk_write (a0 a1 : Value) (w : World) (k : Value → World → Prop) : Prop :=
  wLen P .len #[T_Ldisk_write] [a0] w fun t7 w =>
  wLen P .len #[T_Ldisk_write] [a1] w fun t9 w =>
  wBin P .neq T_int t7 t9 w fun t10 w =>
  wIf t10 (
    k (.bool false) w) (
    wLen P .len #[T_Ldisk_write] [a0] w fun t12 w =>
    wL1 (.int .i64 0) w (fun _ v13 w k2 =>
      wBin P .lss T_int v13 t12 w fun t14 w =>
      wIf t14 (
        wDraw w fun w =>
        wIndexA P T_Ldisk_write a0 v13 w fun t18 w =>
        wLoad P T_disk_write t18 w fun t19 w =>
        wIndexA P T_Ldisk_write a1 v13 w fun t22 w =>
        wLoad P T_disk_write t22 w fun t23 w =>
        wBin P .neq T_disk_write t19 t23 w fun t24 w =>
        wIf t24 (
          k (.bool false) w) (
          wBin P .add T_int v13 (.int .i64 1) w fun t25 w =>
          k2 t25 w)) (
        k (.bool true) w)))

theorem call_slices_Equal_disk_write (a0 a1 : Value) {w : World} {k : Value → World → Prop} (h : F_slices_Equal_disk_write a0 a1 w k) : wCall P n_slices_Equal_disk_write [a0, a1] w k :=
  call_of_den mixedP Try.func134 (by kernel_rfl) (.s .z (.s .z (.s (.s .z (.b (.l [13] [0, 1, 12] (.s .z (.s .z (.s (.b (.s .z (.s (.r (.ops [0, 1, 2, 3, 4, 5, 6, 7, 8] .nil)) .z))) .z)))))) .z))) (by kernel_rfl) (Eq.mp (by kernel_rfl) h)

def F_slices_IndexFunc_codec_Slot (a0 a1 : Value) (w : World) (k : Value → World → Prop) : Prop :=
  wLen P .len #[T_Lcodec_Slot] [a0] w fun t7 w =>
  wL1 (.int .i64 0) w (fun _ v8 w k1 =>
    wBin P .lss T_int v8 t7 w fun t9 w =>
    wIf t9 (
      wIndexA P T_Lcodec_Slot a0 v8 w fun t14 w =>
      wLoad P T_codec_Slot t14 w fun t15 w =>
      wCallV P a1 [t15] w fun t16 w =>
      wIf t16 (
        k v8 w) (
        wBin P .add T_int v8 (.int .i64 1) w fun t18 w =>
        k1 t18 w)) (
      k (.int .i64 (-1)) w))

theorem call_slices_IndexFunc_codec_Slot (a0 a1 : Value) {w : World} {k : Value → World → Prop} (h : F_slices_IndexFunc_codec_Slot a0 a1 w k) : wCall P n_slices_IndexFunc_codec_Slot [a0, a1] w k :=
  call_of_den mixedP Try.func141 (by kernel_rfl) (.s .z (.s (.s .z (.b (.l [8] [0, 1, 7] .z))) .z)) (by kernel_rfl) (Eq.mp (by kernel_rfl) h)

def F_slices_Chunk_codec_Slot (a0 a1 : Value) (w : World) (k : Value → World → Prop) : Prop :=
  wBox P T_Lcodec_Slot a0 w fun t2 w =>
  wBox P T_int a1 w fun t3 w =>
  wLoad P T_int t3 w fun t5 w =>
  wBin P .lss T_int t5 (.int .i64 1) w fun t6 w =>
  wIf t6 (
    wIface P T_string (.string { data := #[99, 97, 110, 110, 111, 116, 32, 98, 101, 32, 108, 101, 115, 115, 32, 116, 104, 97, 110, 32, 49] }) w fun _ w =>
    False) (
    wFunc P (.func n_slices_Chunk_codec_Slot_c1) [] [t2, t3] w fun t8 w =>
    k t8 w)

theorem call_slices_Chunk_codec_Slot (a0 a1 : Value) {w : World} {k : Value → World → Prop} (h : F_slices_Chunk_codec_Slot a0 a1 w k) : wCall P n_slices_Chunk_codec_Slot [a0, a1] w k :=
  call_of_den mixedP Try.func150 (by kernel_rfl) .z (by kernel_rfl) (Eq.mp (by kernel_rfl) h)

def F_slices_Clone_codec_Use (a0 : Value) (w : World) (k : Value → World → Prop) : Prop :=
  wBin P .eql T_Lcodec_Use a0 (.slice none 0 0) w fun t4 w =>
  wIf t4 (
    k (.slice none 0 0) w) (
    wBuildS P T_Lcodec_Use 0 [] w fun t5 w =>
    wBuiltin P .append #[T_Lcodec_Use, T_Lcodec_Use] [t5, a0] w fun t7 w =>
    k t7 w)

theorem call_slices_Clone_codec_Use (a0 : Value) {w : World} {k : Value → World → Prop} (h : F_slices_Clone_codec_Use a0 w k) : wCall P n_slices_Clone_codec_Use [a0] w k :=
  call_of_den mixedP Try.func154 (by kernel_rfl) .z (by kernel_rfl) (Eq.mp (by kernel_rfl) h)

def F_slices_SortStableFunc_int (a0 a1 : Value) (w : World) (k : Value → World → Prop) : Prop :=
  wLen P .len #[T_Lint] [a0] w fun t6 w =>
  wCall P n_slices_stableCmpFunc_int [a0, t6, a1] w fun _ w =>
  k (.tuple #[]) w

theorem call_slices_SortStableFunc_int (a0 a1 : Value) {w : World} {k : Value → World → Prop} (h : F_slices_SortStableFunc_int a0 a1 w k) : wCall P n_slices_SortStableFunc_int [a0, a1] w k :=
  call_of_den mixedP Try.func159 (by kernel_rfl) .z (by kernel_rfl) (Eq.mp (by kernel_rfl) h)

def F_slices_ContainsFunc_codec_Slot (a0 a1 : Value) (w : World) (k : Value → World → Prop) : Prop :=
  wCall P n_slices_IndexFunc_codec_Slot [a0, a1] w fun t7 w =>
  wBin P .geq T_int t7 (.int .i64 0) w fun t8 w =>
  k t8 w

theorem call_slices_ContainsFunc_codec_Slot (a0 a1 : Value) {w : World} {k : Value → World → Prop} (h : F_slices_ContainsFunc_codec_Slot a0 a1 w k) : wCall P n_slices_ContainsFunc_codec_Slot [a0, a1] w k :=
  call_of_den mixedP Try.func205 (by kernel_rfl) .z (by kernel_rfl) (Eq.mp (by kernel_rfl) h)

def F_slices_Clone_codec_Slot (a0 : Value) (w : World) (k : Value → World → Prop) : Prop :=
  wBin P .eql T_Lcodec_Slot a0 (.slice none 0 0) w fun t4 w =>
  wIf t4 (
    k (.slice none 0 0) w) (
    wBuildS P T_Lcodec_Slot 0 [] w fun t5 w =>
    wBuiltin P .append #[T_Lcodec_Slot, T_Lcodec_Slot] [t5, a0] w fun t7 w =>
    k t7 w)

theorem call_slices_Clone_codec_Slot (a0 : Value) {w : World} {k : Value → World → Prop} (h : F_slices_Clone_codec_Slot a0 w k) : wCall P n_slices_Clone_codec_Slot [a0] w k :=
  call_of_den mixedP Try.func207 (by kernel_rfl) .z (by kernel_rfl) (Eq.mp (by kernel_rfl) h)

def F_slices_Insert_int (a0 a1 a2 : Value) (w : World) (k : Value → World → Prop) : Prop :=
  wSlice P T_Lint a0 (some a1) none none w fun _ w =>
  wLen P .len #[T_Lint] [a2] w fun t14 w =>
  wBin P .eql T_int t14 (.int .i64 0) w fun t16 w =>
  wIf t16 (
    k a0 w) (
    wLen P .len #[T_Lint] [a0] w fun t19 w =>
    wBin P .eql T_int a1 t19 w fun t22 w =>
    wIf t22 (
      wBuiltin P .append #[T_Lint, T_Lint] [a0, a2] w fun t25 w =>
      k t25 w) (
      wBin P .add T_int t19 t14 w fun t28 w =>
      wLen P .cap #[T_Lint] [a0] w fun t30 w =>
      wBin P .gtr T_int t28 t30 w fun t31 w =>
      wIf t31 (
        wSlice P T_Lint a0 none (some a1) none w fun t34 w =>
        wBin P .add T_int t19 t14 w fun t37 w =>
        wBin P .sub T_int t37 a1 w fun t39 w =>
        wBuiltin P .append #[T_Lint, T_int] [t34, t39] w fun t40 w =>
        wSlice P T_Lint t40 (some a1) none none w fun t43 w =>
        wBuiltin P .copy #[T_Lint, T_Lint] [t43, a2] w fun _ w =>
        wDraw w fun w =>
        wBin P .add T_int a1 t14 w fun t49 w =>
        wSlice P T_Lint t40 (some t49) none none w fun t50 w =>
        wSlice P T_Lint a0 (some a1) none none w fun t53 w =>
        wBuiltin P .copy #[T_Lint, T_Lint] [t50, t53] w fun _ w =>
        k t40 w) (
        wBin P .add T_int t19 t14 w fun t59 w =>
        wSlice P T_Lint a0 none (some t59) none w fun t60 w =>
        wBin P .add T_int a1 t14 w fun t65 w =>
        wSlice P T_Lint t60 (some t65) none none w fun t66 w =>
        wCall P n_slices_overlaps_int [a2, t66] w fun t67 w =>
        wUn P .not t67 w fun t68 w =>
        wIf t68 (
          wDraw w fun w =>
          wBin P .add T_int a1 t14 w fun t72 w =>
          wSlice P T_Lint t60 (some t72) none none w fun t73 w =>
          wSlice P T_Lint t60 (some a1) none none w fun t76 w =>
          wBuiltin P .copy #[T_Lint, T_Lint] [t73, t76] w fun _ w =>
          wSlice P T_Lint t60 (some a1) none none w fun t80 w =>
          wBuiltin P .copy #[T_Lint, T_Lint] [t80, a2] w fun _ w =>
          k t60 w) (
          wSlice P T_Lint t60 (some t19) none none w fun t86 w =>
          wBuiltin P .copy #[T_Lint, T_Lint] [t86, a2] w fun _ w =>
          wSlice P T_Lint t60 (some a1) none none w fun t91 w =>
          wCall P n_slices_rotateRight_int [t91, t14] w fun _ w =>
          k t60 w))))

theorem call_slices_Insert_int (a0 a1 a2 : Value) {w : World} {k : Value → World → Prop} (h : F_slices_Insert_int a0 a1 a2 w k) : wCall P n_slices_Insert_int [a0, a1, a2] w k :=
  call_of_den mixedP Try.func211 (by kernel_rfl) (.s .z (.s .z (.s .z (.s .z (.s .z (.s .z (.s (.s .z (.s (.s .z (.s .z (.s (.r (.ops [0, 1, 2, 3, 4, 5, 6, 7] (.eff 8 [] .nil))) .z))) .z)) (.s .z (.s (.s .z (.s (.s (.r (.ops [0, 1, 2, 3, 4, 5, 6, 7] (.eff 8 [] .nil))) .z) .z)) .z))))))))) (by kernel_rfl) (Eq.mp (by kernel_rfl) h)

def F_slices_Backward_disk_write (a0 : Value) (w : World) (k : Value → World → Prop) : Prop :=
  wBox P T_Ldisk_write a0 w fun t1 w =>
  wFunc P (.func n_slices_Backward_disk_write_c1) [] [t1] w fun t3 w =>
  k t3 w

theorem call_slices_Backward_disk_write (a0 : Value) {w : World} {k : Value → World → Prop} (h : F_slices_Backward_disk_write a0 w k) : wCall P n_slices_Backward_disk_write [a0] w k :=
  call_of_den mixedP Try.func229 (by kernel_rfl) .z (by kernel_rfl) (Eq.mp (by kernel_rfl) h)

def F_slices_Chunk_codec_Slot_c1 (a0 a1 a2 : Value) (w : World) (k : Value → World → Prop) : Prop :=
  wL1 (.int .i64 0) w (fun _ v4 w k1 =>
    wLoad P T_Lcodec_Slot a1 w fun t7 w =>
    wLen P .len #[T_Lcodec_Slot] [t7] w fun t8 w =>
    wBin P .lss T_int v4 t8 w fun t9 w =>
    wIf t9 (
      wDraw w fun w =>
      wLoad P T_int a2 w fun t13 w =>
      wLoad P T_Lcodec_Slot a1 w fun t14 w =>
      wSlice P T_Lcodec_Slot t14 (some v4) none none w fun t16 w =>
      wLen P .len #[T_Lcodec_Slot] [t16] w fun t17 w =>
      wLen P .min #[T_int, T_int] [t13, t17] w fun t18 w =>
      wLoad P T_Lcodec_Slot a1 w fun t20 w =>
      wBin P .add T_int v4 t18 w fun t24 w =>
      wBin P .add T_int v4 t18 w fun t27 w =>
      wSlice P T_Lcodec_Slot t20 (some v4) (some t24) (some t27) w fun t28 w =>
      wCallV P a0 [t28] w fun t29 w =>
      wUn P .not t29 w fun t30 w =>
      wIf t30 (
        k (.tuple #[]) w) (
        wLoad P T_int a2 w fun t11 w =>
        wBin P .add T_int v4 t11 w fun t12 w =>
        k1 t12 w)) (
      k (.tuple #[]) w))

theorem call_slices_Chunk_codec_Slot_c1 (a0 a1 a2 : Value) {w : World} {k : Value → World → Prop} (h : F_slices_Chunk_codec_Slot_c1 a0 a1 a2 w k) : wCall P n_slices_Chunk_codec_Slot_c1 [a0, a1, a2] w k :=
  call_of_den mixedP Try.func234 (by kernel_rfl) (.s .z (.b (.l [4] [0, 1, 2] (.s .z (.s (.b (.s (.r (.ops [0, 1, 2, 3, 4, 5, 6] .nil)) .z)) .z))))) (by kernel_rfl) (Eq.mp (by kernel_rfl) h)

def F_slices_stableCmpFunc_int (a0 a1 a2 : Value) (w : World) (k : Value → World → Prop) : Prop :=
  wJ1 (fun k1 =>
    wL2 (.int .i64 0) (.int .i64 20) w (fun _ v7 v8 w k2 =>
      wBin P .leq T_int v8 a1 w fun t13 w =>
      wIf t13 (
        wCall P n_slices_insertionSortCmpFunc_int [a0, v7, v8, a2] w fun _ w =>
        wBin P .add T_int v8 (.int .i64 20) w fun t22 w =>
        k2 v8 t22 w) (
        k1 v7 w))) fun _ v7 w =>
  wCall P n_slices_insertionSortCmpFunc_int [a0, v7, a1, a2] w fun _ w =>
  wL1 (.int .i64 20) w (fun _ v6 w k1 =>
    wBin P .lss T_int v6 a1 w fun t30 w =>
    wIf t30 (
      wBin P .mul T_int (.int .i64 2) v6 w fun t32 w =>
      wJ1 (fun k3 =>
        wL2 (.int .i64 0) t32 w (fun _ v7 v8 w k4 =>
          wBin P .leq T_int v8 a1 w fun t35 w =>
          wIf t35 (
            wBin P .add T_int v7 v6 w fun t40 w =>
            wCall P n_slices_symMergeCmpFunc_int [a0, v7, t40, v8, a2] w fun _ w =>
            wBin P .mul T_int (.int .i64 2) v6 w fun t47 w =>
            wBin P .add T_int v8 t47 w fun t48 w =>
            k4 v8 t48 w) (
            k3 v7 w))) fun _ v7 w =>
      wBin P .add T_int v7 v6 w fun t51 w =>
      wBin P .lss T_int t51 a1 w fun t54 w =>
      wIf t54 (
        wCall P n_slices_symMergeCmpFunc_int [a0, v7, t51, a1, a2] w fun _ w =>
        wBin P .mul T_int v6 (.int .i64 2) w fun t62 w =>
        k1 t62 w) (
        wBin P .mul T_int v6 (.int .i64 2) w fun t62 w =>
        k1 t62 w)) (
      k (.tuple #[]) w))

theorem call_slices_stableCmpFunc_int (a0 a1 a2 : Value) {w : World} {k : Value → World → Prop} (h : F_slices_stableCmpFunc_int a0 a1 a2 w k) : wCall P n_slices_stableCmpFunc_int [a0, a1, a2] w k :=
  call_of_den mixedP Try.func241 (by kernel_rfl) (.s .z (.s .z (.j [7] [0, 1, 2, 6] (.b (.l [7, 8] [0, 1, 2, 6] .z)) (.s .z (.b (.l [6] [0, 1, 2] (.s .z (.b (.s .z (.j [7] [0, 1, 2, 6] (.b (.l [7, 8] [0, 1, 2, 6] .z)) .z)))))))))) (by kernel_rfl) (Eq.mp (by kernel_rfl) h)

def F_slices_IndexFunc_codec_Use (a0 a1 : Value) (w : World) (k : Value → World → Prop) : Prop :=
  wLen P .len #[T_Lcodec_Use] [a0] w fun t7 w =>
  wL1 (.int .i64 0) w (fun _ v8 w k1 =>
    wBin P .lss T_int v8 t7 w fun t9 w =>
    wIf t9 (
      wIndexA P T_Lcodec_Use a0 v8 w fun t14 w =>
      wLoad P T_codec_Use t14 w fun t15 w =>
      wCallV P a1 [t15] w fun t16 w =>
      wIf t16 (
        k v8 w) (
        wBin P .add T_int v8 (.int .i64 1) w fun t18 w =>
        k1 t18 w)) (
      k (.int .i64 (-1)) w))

theorem call_slices_IndexFunc_codec_Use (a0 a1 : Value) {w : World} {k : Value → World → Prop} (h : F_slices_IndexFunc_codec_Use a0 a1 w k) : wCall P n_slices_IndexFunc_codec_Use [a0, a1] w k :=
  call_of_den mixedP Try.func259 (by kernel_rfl) (.s .z (.s (.s .z (.b (.l [8] [0, 1, 7] .z))) .z)) (by kernel_rfl) (Eq.mp (by kernel_rfl) h)

def F_slices_rotateRight_int (a0 a1 : Value) (w : World) (k : Value → World → Prop) : Prop :=
  wLen P .len #[T_Lint] [a0] w fun t6 w =>
  wBin P .sub T_int t6 a1 w fun t8 w =>
  wCall P n_slices_rotateLeft_int [a0, t8] w fun _ w =>
  k (.tuple #[]) w

theorem call_slices_rotateRight_int (a0 a1 : Value) {w : World} {k : Value → World → Prop} (h : F_slices_rotateRight_int a0 a1 w k) : wCall P n_slices_rotateRight_int [a0, a1] w k :=
  call_of_den mixedP Try.func263 (by kernel_rfl) .z (by kernel_rfl) (Eq.mp (by kernel_rfl) h)

def F_slices_ContainsFunc_int (a0 a1 : Value) (w : World) (k : Value → World → Prop) : Prop :=
  wCall P n_slices_IndexFunc_int [a0, a1] w fun t7 w =>
  wBin P .geq T_int t7 (.int .i64 0) w fun t8 w =>
  k t8 w

theorem call_slices_ContainsFunc_int (a0 a1 : Value) {w : World} {k : Value → World → Prop} (h : F_slices_ContainsFunc_int a0 a1 w k) : wCall P n_slices_ContainsFunc_int [a0, a1] w k :=
  call_of_den mixedP Try.func266 (by kernel_rfl) .z (by kernel_rfl) (Eq.mp (by kernel_rfl) h)

def F_slices_Contains_int (a0 a1 : Value) (w : World) (k : Value → World → Prop) : Prop :=
  wCall P n_slices_Index_int [a0, a1] w fun t7 w =>
  wBin P .geq T_int t7 (.int .i64 0) w fun t8 w =>
  k t8 w

theorem call_slices_Contains_int (a0 a1 : Value) {w : World} {k : Value → World → Prop} (h : F_slices_Contains_int a0 a1 w k) : wCall P n_slices_Contains_int [a0, a1] w k :=
  call_of_den mixedP Try.func276 (by kernel_rfl) .z (by kernel_rfl) (Eq.mp (by kernel_rfl) h)

def F_slices_Backward_disk_write_c1 (a0 a1 : Value) (w : World) (k : Value → World → Prop) : Prop :=
  wLoad P T_Ldisk_write a1 w fun t4 w =>
  wLen P .len #[T_Ldisk_write] [t4] w fun t5 w =>
  wBin P .sub T_int t5 (.int .i64 1) w fun t6 w =>
  wL1 t6 w (fun _ v3 w k1 =>
    wBin P .geq T_int v3 (.int .i64 0) w fun t8 w =>
    wIf t8 (
      wLoad P T_Ldisk_write a1 w fun t13 w =>
      wIndexA P T_Ldisk_write t13 v3 w fun t15 w =>
      wLoad P T_disk_write t15 w fun t16 w =>
      wCallV P a0 [v3, t16] w fun t17 w =>
      wUn P .not t17 w fun t18 w =>
      wIf t18 (
        k (.tuple #[]) w) (
        wBin P .sub T_int v3 (.int .i64 1) w fun t10 w =>
        k1 t10 w)) (
      k (.tuple #[]) w))

theorem call_slices_Backward_disk_write_c1 (a0 a1 : Value) {w : World} {k : Value → World → Prop} (h : F_slices_Backward_disk_write_c1 a0 a1 w k) : wCall P n_slices_Backward_disk_write_c1 [a0, a1] w k :=
  call_of_den mixedP Try.func277 (by kernel_rfl) (.s .z (.b (.l [3] [0, 1] .z))) (by kernel_rfl) (Eq.mp (by kernel_rfl) h)

def F_slices_insertionSortCmpFunc_int (a0 a1 a2 a3 : Value) (w : World) (k : Value → World → Prop) : Prop :=
  wBin P .add T_int a1 (.int .i64 1) w fun t11 w =>
  wL1 t11 w (fun _ v8 w k1 =>
    wBin P .lss T_int v8 a2 w fun t14 w =>
    wIf t14 (
      wJ0 (fun k3 =>
        wL1 v8 w (fun _ v9 w k4 =>
          wDraw w fun w =>
          wBin P .gtr T_int v9 a1 w fun t20 w =>
          wGrp t20 true (fun k33 =>
            wIndexA P T_Lint a0 v9 w fun t25 w =>
            wLoad P T_int t25 w fun t26 w =>
            wBin P .sub T_int v9 (.int .i64 1) w fun t29 w =>
            wIndexA P T_Lint a0 t29 w fun t30 w =>
            wLoad P T_int t30 w fun t31 w =>
            wCallV P a3 [t26, t31] w fun t32 w =>
            wBin P .lss T_int t32 (.int .i64 0) w fun t33 w =>
            k33 t33 w) w fun _ t33 w =>
          wPick t20 t33 (.bool false) w fun t34 w =>
          wIf t34 (
            wDraw w fun w =>
            wBin P .sub T_int v9 (.int .i64 1) w fun t41 w =>
            wBin P .sub T_int v9 (.int .i64 1) w fun t44 w =>
            wIndexA P T_Lint a0 t44 w fun t45 w =>
            wLoad P T_int t45 w fun t46 w =>
            wIndexA P T_Lint a0 v9 w fun t49 w =>
            wLoad P T_int t49 w fun t50 w =>
            wIndexA P T_Lint a0 v9 w fun t51 w =>
            wStore P T_int t51 t46 w fun w =>
            wIndexA P T_Lint a0 t41 w fun t52 w =>
            wStore P T_int t52 t50 w fun w =>
            wBin P .sub T_int v9 (.int .i64 1) w fun t36 w =>
            k4 t36 w) (
            k3 w))) fun _ w =>
      wBin P .add T_int v8 (.int .i64 1) w fun t16 w =>
      k1 t16 w) (
      k (.tuple #[]) w))

theorem call_slices_insertionSortCmpFunc_int (a0 a1 a2 a3 : Value) {w : World} {k : Value → World → Prop} (h : F_slices_insertionSortCmpFunc_int a0 a1 a2 a3 w k) : wCall P n_slices_insertionSortCmpFunc_int [a0, a1, a2, a3] w k :=
  call_of_den mixedP Try.func282 (by kernel_rfl) (.s .z (.b (.l [8] [0, 1, 2, 3] (.s .z (.j [] [0, 1, 2, 3, 8] (.b (.s .z (.b (.l [9] [0, 1, 2, 3, 8] (.s (.s (.r (.ops [0, 1, 2, 3] (.grp 3 true 33 [22, 23, 24, 25, 26, 27, 28, 29, 30, 31, 32] (.ops [4, 5, 6, 7, 8, 9, 10, 11, 12, 13] (.eff 14 [] (.ops [15] .nil))) (.ops [16] .nil)))) .z) (.s (.b (.r (.ops [0, 1, 2, 3, 4, 5, 6, 7, 8, 9, 10, 11, 12, 13, 14] (.eff 15 [] (.ops [16] (.eff 17 [] .nil)))))) .z)))))) .z))))) (by kernel_rfl) (Eq.mp (by kernel_rfl) h)

def F_slices_symMergeCmpFunc_int (a0 a1 a2 a3 a4 : Value) (w : World) (k : Value → World → Prop) : Prop :=
  wJ0 (fun k1 =>
    wBin P .sub T_int a2 a1 w fun t27 w =>
    wBin P .eql T_int t27 (.int .i64 1) w fun t28 w =>
    wIf t28 (
      wJ1 (fun k3 =>
        wL2 a2 a3 w (fun _ v10 v11 w k4 =>
          wBin P .lss T_int v10 v11 w fun t33 w =>
          wIf t33 (
            wBin P .add T_int v10 v11 w fun t36 w =>
            wConv P T_int T_uint t36 w fun t37 w =>
            wBin P .shr T_uint t37 (.int .u64 1) w fun t38 w =>
            wConv P T_uint T_int t38 w fun t39 w =>
            wDraw w fun w =>
            wIndexA P T_Lint a0 t39 w fun t43 w =>
            wLoad P T_int t43 w fun t44 w =>
            wIndexA P T_Lint a0 a1 w fun t47 w =>
            wLoad P T_int t47 w fun t48 w =>
            wCallV P a4 [t44, t48] w fun t49 w =>
            wBin P .lss T_int t49 (.int .i64 0) w fun t50 w =>
            wIf t50 (
              wBin P .add T_int t39 (.int .i64 1) w fun t52 w =>
              k4 t52 v11 w) (
              k4 v10 t39 w)) (
            k3 v10 w))) fun _ v10 w =>
      wL1 a1 w (fun _ v13 w k3 =>
        wBin P .sub T_int v10 (.int .i64 1) w fun t57 w =>
        wBin P .lss T_int v13 t57 w fun t58 w =>
        wIf t58 (
          wDraw w fun w =>
          wBin P .add T_int v13 (.int .i64 1) w fun t65 w =>
          wBin P .add T_int v13 (.int .i64 1) w fun t68 w =>
          wIndexA P T_Lint a0 t68 w fun t69 w =>
          wLoad P T_int t69 w fun t70 w =>
          wIndexA P T_Lint a0 v13 w fun t73 w =>
          wLoad P T_int t73 w fun t74 w =>
          wIndexA P T_Lint a0 v13 w fun t75 w =>
          wStore P T_int t75 t70 w fun w =>
          wIndexA P T_Lint a0 t65 w fun t76 w =>
          wStore P T_int t76 t74 w fun w =>
          wBin P .add T_int v13 (.int .i64 1) w fun t60 w =>
          k3 t60 w) (
          k (.tuple #[]) w))) (
      k1 w)) fun _ w =>
  wJ0 (fun k1 =>
    wBin P .sub T_int a3 a2 w fun t79 w =>
    wBin P .eql T_int t79 (.int .i64 1) w fun t80 w =>
    wIf t80 (
      wJ1 (fun k3 =>
        wL2 a1 a2 w (fun _ v14 v15 w k4 =>
          wBin P .lss T_int v14 v15 w fun t85 w =>
          wIf t85 (
            wBin P .add T_int v14 v15 w fun t88 w =>
            wConv P T_int T_uint t88 w fun t89 w =>
            wBin P .shr T_uint t89 (.int .u64 1) w fun t90 w =>
            wConv P T_uint T_int t90 w fun t91 w =>
            wDraw w fun w =>
            wIndexA P T_Lint a0 a2 w fun t95 w =>
            wLoad P T_int t95 w fun t96 w =>
            wIndexA P T_Lint a0 t91 w fun t99 w =>
            wLoad P T_int t99 w fun t100 w =>
            wCallV P a4 [t96, t100] w fun t101 w =>
            wBin P .lss T_int t101 (.int .i64 0) w fun t102 w =>
            wUn P .not t102 w fun t103 w =>
            wIf t103 (
              wBin P .add T_int t91 (.int .i64 1) w fun t105 w =>
              k4 t105 v15 w) (
              k4 v14 t91 w)) (
            k3 v14 w))) fun _ v14 w =>
      wL1 a2 w (fun _ v17 w k3 =>
        wBin P .gtr T_int v17 v14 w fun t110 w =>
        wIf t110 (
          wDraw w fun w =>
          wBin P .sub T_int v17 (.int .i64 1) w fun t117 w =>
          wBin P .sub T_int v17 (.int .i64 1) w fun t120 w =>
          wIndexA P T_Lint a0 t120 w fun t121 w =>
          wLoad P T_int t121 w fun t122 w =>
          wIndexA P T_Lint a0 v17 w fun t125 w =>
          wLoad P T_int t125 w fun t126 w =>
          wIndexA P T_Lint a0 v17 w fun t127 w =>
          wStore P T_int t127 t122 w fun w =>
          wIndexA P T_Lint a0 t117 w fun t128 w =>
          wStore P T_int t128 t126 w fun w =>
          wBin P .sub T_int v17 (.int .i64 1) w fun t112 w =>
          k3 t112 w) (
          k (.tuple #[]) w))) (
      k1 w)) fun _ w =>
  wBin P .add T_int a1 a3 w fun t131 w =>
  wConv P T_int T_uint t131 w fun t132 w =>
  wBin P .shr T_uint t132 (.int .u64 1) w fun t133 w =>
  wConv P T_uint T_int t133 w fun t134 w =>
  wBin P .add T_int t134 a2 w fun t137 w =>
  wJ2 (fun k1 =>
    wBin P .gtr T_int a2 t134 w fun t140 w =>
    wIf t140 (
      wBin P .sub T_int t137 a3 w fun t143 w =>
      k1 t143 t134 w) (
      k1 a1 a2 w)) fun _ v20 v21 w =>
  wBin P .sub T_int t137 (.int .i64 1) w fun t148 w =>
  wJ1 (fun k1 =>
    wL2 v20 v21 w (fun _ v20 v21 w k2 =>
      wBin P .lss T_int v20 v21 w fun t151 w =>
      wIf t151 (
        wBin P .add T_int v20 v21 w fun t154 w =>
        wConv P T_int T_uint t154 w fun t155 w =>
        wBin P .shr T_uint t155 (.int .u64 1) w fun t156 w =>
        wConv P T_uint T_int t156 w fun t157 w =>
        wDraw w fun w =>
        wBin P .sub T_int t148 t157 w fun t162 w =>
        wIndexA P T_Lint a0 t162 w fun t163 w =>
        wLoad P T_int t163 w fun t164 w =>
        wIndexA P T_Lint a0 t157 w fun t167 w =>
        wLoad P T_int t167 w fun t168 w =>
        wCallV P a4 [t164, t168] w fun t169 w =>
        wBin P .lss T_int t169 (.int .i64 0) w fun t170 w =>
        wUn P .not t170 w fun t171 w =>
        wIf t171 (
          wBin P .add T_int t157 (.int .i64 1) w fun t173 w =>
          k2 t173 v21 w) (
          k2 v20 t157 w)) (
        k1 v20 w))) fun _ v20 w =>
  wBin P .sub T_int t137 v20 w fun t177 w =>
  wJ0 (fun k1 =>
    wBin P .lss T_int v20 a2 w fun t180 w =>
    wGrp t180 true (fun k184 =>
      wBin P .lss T_int a2 t177 w fun t184 w =>
      k184 t184 w) w fun _ t184 w =>
    wPick t180 t184 (.bool false) w fun t185 w =>
    wIf t185 (
      wCall P n_slices_rotateCmpFunc_int [a0, v20, a2, t177, a4] w fun _ w =>
      k1 w) (
      k1 w)) fun _ w =>
  wJ0 (fun k1 =>
    wBin P .lss T_int a1 v20 w fun t194 w =>
    wGrp t194 true (fun k198 =>
      wBin P .lss T_int v20 t134 w fun t198 w =>
      k198 t198 w) w fun _ t198 w =>
    wPick t194 t198 (.bool false) w fun t199 w =>
    wIf t199 (
      wCall P n_slices_symMergeCmpFunc_int [a0, a1, v20, t134, a4] w fun _ w =>
      k1 w) (
      k1 w)) fun _ w =>
  wBin P .lss T_int t134 t177 w fun t208 w =>
  wGrp t208 true (fun k212 =>
    wBin P .lss T_int t177 a3 w fun t212 w =>
    k212 t212 w) w fun _ t212 w =>
  wPick t208 t212 (.bool false) w fun t213 w =>
  wIf t213 (
    wCall P n_slices_symMergeCmpFunc_int [a0, t134, t177, a3, a4] w fun _ w =>
    k (.tuple #[]) w) (
    k (.tuple #[]) w)

theorem call_slices_symMergeCmpFunc_int (a0 a1 a2 a3 a4 : Value) {w : World} {k : Value → World → Prop} (h : F_slices_symMergeCmpFunc_int a0 a1 a2 a3 a4 w k) : wCall P n_slices_symMergeCmpFunc_int [a0, a1, a2, a3, a4] w k :=
  call_of_den mixedP Try.func283 (by kernel_rfl) (.j [] [0, 1, 2, 3, 4] (.s .z (.s (.s .z (.s .z (.j [10] [0, 1] (.b (.l [10, 11] [0, 1, 4] (.s .z (.b (.s .z (.s (.r (.ops [0, 1, 2, 3, 4, 5, 6, 7, 8] (.eff 9 [] (.ops [10] .nil)))) .z)))))) (.s (.s .z (.b (.l [13] [0, 10] (.s .z (.s (.b (.r (.ops [0, 1, 2, 3, 4, 5, 6, 7, 8, 9, 10, 11, 12, 13, 14] (.eff 15 [] (.ops [16] (.eff 17 [] .nil)))))) .z))))) .z)))) .z)) (.j [] [0, 1, 2, 3, 4] (.s .z (.s (.s .z (.s .z (.j [14] [0, 2] (.b (.l [14, 15] [0, 2, 4] (.s .z (.b (.s .z (.s (.r (.ops [0, 1, 2, 3, 4, 5, 6, 7, 8] (.eff 9 [] (.ops [10, 11] .nil)))) .z)))))) (.s (.s .z (.b (.l [17] [0, 14] (.s .z (.s (.b (.r (.ops [0, 1, 2, 3, 4, 5, 6, 7, 8, 9, 10, 11, 12, 13, 14] (.eff 15 [] (.ops [16] (.eff 17 [] .nil)))))) .z))))) .z)))) .z)) (.s .z (.s .z (.s .z (.j [20, 21] [0, 1, 2, 3, 4, 18, 19] .z (.s .z (.j [20] [0, 1, 2, 3, 4, 18, 19] (.b (.l [20, 21] [0, 1, 2, 3, 4, 18, 19, 22] (.s .z (.b (.s .z (.s (.r (.ops [0, 1, 2, 3, 4, 5, 6, 7, 8, 9, 10] (.eff 11 [] (.ops [12, 13] .nil)))) .z)))))) (.s .z (.j [] [0, 1, 3, 4, 18, 20, 24] (.s (.r (.ops [0, 1, 2, 3] (.grp 3 true 184 [182, 183] (.ops [4, 5, 6] .nil) (.ops [7] .nil)))) .z) (.j [] [0, 3, 4, 18, 24] (.s (.r (.ops [0, 1, 2, 3] (.grp 3 true 198 [196, 197] (.ops [4, 5, 6] .nil) (.ops [7] .nil)))) .z) (.s (.r (.ops [0, 1, 2, 3] (.grp 3 true 212 [210, 211] (.ops [4, 5, 6] .nil) (.ops [7] .nil)))) .z)))))))))))) (by kernel_rfl) (Eq.mp (by kernel_rfl) h)

def F_slices_rotateLeft_int (a0 a1 : Value) (w : World) (k : Value → World → Prop) : Prop :=
  wSlice P T_Lint a0 none (some a1) none w fun t6 w =>
  wCall P n_slices_Reverse_int [t6] w fun _ w =>
  wSlice P T_Lint a0 (some a1) none none w fun t10 w =>
  wCall P n_slices_Reverse_int [t10] w fun _ w =>
  wCall P n_slices_Reverse_int [a0] w fun _ w =>
  k (.tuple #[]) w

theorem call_slices_rotateLeft_int (a0 a1 : Value) {w : World} {k : Value → World → Prop} (h : F_slices_rotateLeft_int a0 a1 w k) : wCall P n_slices_rotateLeft_int [a0, a1] w k :=
  call_of_den mixedP Try.func288 (by kernel_rfl) .z (by kernel_rfl) (Eq.mp (by kernel_rfl) h)

def F_slices_IndexFunc_int (a0 a1 : Value) (w : World) (k : Value → World → Prop) : Prop :=
  wLen P .len #[T_Lint] [a0] w fun t7 w =>
  wL1 (.int .i64 0) w (fun _ v8 w k1 =>
    wBin P .lss T_int v8 t7 w fun t9 w =>
    wIf t9 (
      wIndexA P T_Lint a0 v8 w fun t14 w =>
      wLoad P T_int t14 w fun t15 w =>
      wCallV P a1 [t15] w fun t16 w =>
      wIf t16 (
        k v8 w) (
        wBin P .add T_int v8 (.int .i64 1) w fun t18 w =>
        k1 t18 w)) (
      k (.int .i64 (-1)) w))

theorem call_slices_IndexFunc_int (a0 a1 : Value) {w : World} {k : Value → World → Prop} (h : F_slices_IndexFunc_int a0 a1 w k) : wCall P n_slices_IndexFunc_int [a0, a1] w k :=
  call_of_den mixedP Try.func290 (by kernel_rfl) (.s .z (.s (.s .z (.b (.l [8] [0, 1, 7] .z))) .z)) (by kernel_rfl) (Eq.mp (by kernel_rfl) h)

def F_slices_Index_int (a0 a1 : Value) (w : World) (k : Value → World → Prop) : Prop :=
  wLen P .len #[T_Lint] [a0] w fun t7 w =>
  wL1 (.int .i64 0) w (fun _ v8 w k1 =>
    wBin P .lss T_int v8 t7 w fun t9 w =>
    wIf t9 (
      wIndexA P T_Lint a0 v8 w fun t14 w =>
      wLoad P T_int t14 w fun t15 w =>
      wBin P .eql T_int a1 t15 w fun t16 w =>
      wIf t16 (
        k v8 w) (
        wBin P .add T_int v8 (.int .i64 1) w fun t18 w =>
        k1 t18 w)) (
      k (.int .i64 (-1)) w))

theorem call_slices_Index_int (a0 a1 : Value) {w : World} {k : Value → World → Prop} (h : F_slices_Index_int a0 a1 w k) : wCall P n_slices_Index_int [a0, a1] w k :=
  call_of_den mixedP Try.func293 (by kernel_rfl) (.s .z (.s (.s .z (.b (.l [8] [0, 1, 7] .z))) .z)) (by kernel_rfl) (Eq.mp (by kernel_rfl) h)

def F_slices_rotateCmpFunc_int (a0 a1 a2 a3 a4 : Value) (w : World) (k : Value → World → Prop) : Prop :=
  wBin P .sub T_int a2 a1 w fun t14 w =>
  wBin P .sub T_int a3 a2 w fun t17 w =>
  wJ1 (fun k1 =>
    wL2 t14 t17 w (fun _ v10 v11 w k2 =>
      wBin P .neq T_int v10 v11 w fun t20 w =>
      wIf t20 (
        wBin P .gtr T_int v10 v11 w fun t23 w =>
        wIf t23 (
          wBin P .sub T_int a2 v10 w fun t27 w =>
          wCall P n_slices_swapRangeCmpFunc_int [a0, t27, a2, v11, a4] w fun _ w =>
          wBin P .sub T_int v10 v11 w fun t34 w =>
          k2 t34 v11 w) (
          wBin P .sub T_int a2 v10 w fun t38 w =>
          wBin P .add T_int a2 v11 w fun t41 w =>
          wBin P .sub T_int t41 v10 w fun t43 w =>
          wCall P n_slices_swapRangeCmpFunc_int [a0, t38, t43, v10, a4] w fun _ w =>
          wBin P .sub T_int v11 v10 w fun t49 w =>
          k2 v10 t49 w)) (
        k1 v10 w))) fun _ v10 w =>
  wBin P .sub T_int a2 v10 w fun t53 w =>
  wCall P n_slices_swapRangeCmpFunc_int [a0, t53, a2, v10, a4] w fun _ w =>
  k (.tuple #[]) w

theorem call_slices_rotateCmpFunc_int (a0 a1 a2 a3 a4 : Value) {w : World} {k : Value → World → Prop} (h : F_slices_rotateCmpFunc_int a0 a1 a2 a3 a4 w k) : wCall P n_slices_rotateCmpFunc_int [a0, a1, a2, a3, a4] w k :=
  call_of_den mixedP Try.func295 (by kernel_rfl) (.s .z (.s .z (.j [10] [0, 2, 4] (.b (.l [10, 11] [0, 2, 4] .z)) .z))) (by kernel_rfl) (Eq.mp (by kernel_rfl) h)

def F_slices_Reverse_int (a0 : Value) (w : World) (k : Value → World → Prop) : Prop :=
  wLen P .len #[T_Lint] [a0] w fun t5 w =>
  wBin P .sub T_int t5 (.int .i64 1) w fun t6 w =>
  wL2 (.int .i64 0) t6 w (fun _ v2 v3 w k1 =>
    wBin P .lss T_int v2 v3 w fun t9 w =>
    wIf t9 (
      wDraw w fun w =>
      wIndexA P T_Lint a0 v3 w fun t20 w =>
      wLoad P T_int t20 w fun t21 w =>
      wIndexA P T_Lint a0 v2 w fun t24 w =>
      wLoad P T_int t24 w fun t25 w =>
      wIndexA P T_Lint a0 v2 w fun t26 w =>
      wStore P T_int t26 t21 w fun w =>
      wIndexA P T_Lint a0 v3 w fun t27 w =>
      wStore P T_int t27 t25 w fun w =>
      wBin P .add T_int v2 (.int .i64 1) w fun t11 w =>
      wBin P .sub T_int v3 (.int .i64 1) w fun t13 w =>
      k1 t11 t13 w) (
      k (.tuple #[]) w))

theorem call_slices_Reverse_int (a0 : Value) {w : World} {k : Value → World → Prop} (h : F_slices_Reverse_int a0 w k) : wCall P n_slices_Reverse_int [a0] w k :=
  call_of_den mixedP Try.func296 (by kernel_rfl) (.s .z (.b (.l [2, 3] [0] (.s .z (.s (.b (.r (.ops [0, 1, 2, 3, 4, 5, 6, 7, 8, 9, 10, 11, 12] (.eff 13 [] (.ops [14] (.eff 15 [] .nil)))))) .z))))) (by kernel_rfl) (Eq.mp (by kernel_rfl) h)

def F_slices_swapRangeCmpFunc_int (a0 a1 a2 a3 a4 : Value) (w : World) (k : Value → World → Prop) : Prop :=
  wL1 (.int .i64 0) w (fun _ v10 w k1 =>
    wBin P .lss T_int v10 a3 w fun t13 w =>
    wIf t13 (
      wDraw w fun w =>
      wBin P .add T_int a1 v10 w fun t19 w =>
      wBin P .add T_int a2 v10 w fun t23 w =>
      wBin P .add T_int a2 v10 w fun t27 w =>
      wIndexA P T_Lint a0 t27 w fun t28 w =>
      wLoad P T_int t28 w fun t29 w =>
      wBin P .add T_int a1 v10 w fun t33 w =>
      wIndexA P T_Lint a0 t33 w fun t34 w =>
      wLoad P T_int t34 w fun t35 w =>
      wIndexA P T_Lint a0 t19 w fun t36 w =>
      wStore P T_int t36 t29 w fun w =>
      wIndexA P T_Lint a0 t23 w fun t37 w =>
      wStore P T_int t37 t35 w fun w =>
      wBin P .add T_int v10 (.int .i64 1) w fun t15 w =>
      k1 t15 w) (
      k (.tuple #[]) w))

theorem call_slices_swapRangeCmpFunc_int (a0 a1 a2 a3 a4 : Value) {w : World} {k : Value → World → Prop} (h : F_slices_swapRangeCmpFunc_int a0 a1 a2 a3 a4 w k) : wCall P n_slices_swapRangeCmpFunc_int [a0, a1, a2, a3, a4] w k :=
  call_of_den mixedP Try.func298 (by kernel_rfl) (.s .z (.b (.l [10] [0, 1, 2, 3] (.s .z (.s (.b (.r (.ops [0, 1, 2, 3, 4, 5, 6, 7, 8, 9, 10, 11, 12, 13, 14, 15, 16, 17, 18, 19, 20] (.eff 21 [] (.ops [22] (.eff 23 [] .nil)))))) .z))))) (by kernel_rfl) (Eq.mp (by kernel_rfl) h)

end Go.Dn
