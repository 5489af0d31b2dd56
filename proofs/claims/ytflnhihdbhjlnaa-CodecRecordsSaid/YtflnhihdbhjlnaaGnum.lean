import Derived.Test.YtflnhihdbhjlnaaGn
/-! Texts of functions, printed by mkg.py. -/
set_option maxRecDepth 100000
set_option linter.unusedVariables false
namespace Go.Dn
open Go Go.Proofs
def F_num_Writer_Num (a0 a1 a2 : Value) (w : World) (k : Value → World → Prop) : Prop :=
  wJ0 (fun k1 =>
    wNil P a0 w fun t7 w =>
    wFieldA P T_num_Writer t7 2 w fun t8 w =>
    wLoad P T_api_Errno t8 w fun t9 w =>
    wBin P .eql T_api_Errno t9 (.int .i64 0) w fun t10 w =>
    wIf t10 (
      wDraw w fun w =>
      wNil P a0 w fun t13 w =>
      wFieldA P T_num_Writer t13 0 w fun t14 w =>
      wSlice P T_api_Sector t14 none none none w fun t15 w =>
      wNil P a0 w fun t17 w =>
      wFieldA P T_num_Writer t17 1 w fun t18 w =>
      wLoad P T_int t18 w fun t19 w =>
      wCall P n_num_Put [t15, t19, a1, a2] w fun t22 w =>
      wNil P a0 w fun t23 w =>
      wFieldA P T_num_Writer t23 2 w fun t24 w =>
      wStore P T_api_Errno t24 t22 w fun w =>
      k1 w) (
      k1 w)) fun _ w =>
  wNil P a0 w fun t26 w =>
  wFieldA P T_num_Writer t26 2 w fun t27 w =>
  wLoad P T_api_Errno t27 w fun t28 w =>
  wBin P .eql T_api_Errno t28 (.int .i64 0) w fun t29 w =>
  wIf t29 (
    wNil P a0 w fun t31 w =>
    wFieldA P T_num_Writer t31 1 w fun t32 w =>
    wLoad P T_int t32 w fun t33 w =>
    wBin P .add T_int t33 a1 w fun t35 w =>
    wNil P a0 w fun t36 w =>
    wFieldA P T_num_Writer t36 1 w fun t37 w =>
    wStore P T_int t37 t35 w fun w =>
    k (.tuple #[]) w) (
    k (.tuple #[]) w)

theorem call_num_Writer_Num (a0 a1 a2 : Value) {w : World} {k : Value → World → Prop} (h : F_num_Writer_Num a0 a1 a2 w k) : wCall P n_num_Writer_Num [a0, a1, a2] w k :=
  call_of_den mixedP Try.func179 (by kernel_rfl) (.j [] [0, 1] (.s .z (.s (.r (.ops [0, 1, 2, 3, 4, 5, 6, 7, 8, 9, 10] (.eff 11 [] (.ops [12, 13] (.eff 14 [] .nil))))) .z)) .z) (by kernel_rfl) (Eq.mp (by kernel_rfl) h)

def F_num_Writer_Sector (a0 : Value) (w : World) (k : Value → World → Prop) : Prop :=
  wAlloc P T_api_Sector w fun t2 w =>
  wNil P a0 w fun t5 w =>
  wFieldA P T_num_Writer t5 2 w fun t6 w =>
  wLoad P T_api_Errno t6 w fun t7 w =>
  wBin P .neq T_api_Errno t7 (.int .i64 0) w fun t8 w =>
  wIf t8 (
    wDraw w fun w =>
    wBuild P T_api_Sector [] w fun t9 w =>
    wNil P a0 w fun t11 w =>
    wFieldA P T_num_Writer t11 2 w fun t12 w =>
    wLoad P T_api_Errno t12 w fun t13 w =>
    wStore P T_api_Sector t2 t9 w fun w =>
    wKeep P [(T_api_Errno, t12, t13)] w ∧ wRes P T_api_Sector t2 w fun r2 =>
    k (.tuple #[r2, t13]) w) (
    wNil P a0 w fun t15 w =>
    wFieldA P T_num_Writer t15 0 w fun t16 w =>
    wLoad P T_api_Sector t16 w fun t17 w =>
    wStore P T_api_Sector t2 t17 w fun w =>
    wRes P T_api_Sector t2 w fun r2 =>
    k (.tuple #[r2, (.int .i64 0)]) w)

theorem call_num_Writer_Sector (a0 : Value) {w : World} {k : Value → World → Prop} (h : F_num_Writer_Sector a0 w k) : wCall P n_num_Writer_Sector [a0] w k :=
  call_of_den mixedP Try.func180 (by kernel_rfl) (.s .z (.s (.s .z (.s (.s (.r (.ops [0, 1, 2, 3, 4] (.eff 5 [4] (.ops [6] .nil)))) .z) .z)) .z)) (by kernel_rfl) (Eq.mp (by kernel_rfl) h)

def F_num_Read (a0 : Value) (w : World) (k : Value → World → Prop) : Prop :=
  wBox P T_api_Sector a0 w fun t1 w =>
  wLoad P T_api_Sector t1 w fun t3 w =>
  wBuild P T_num_Reader [(0, t3)] w fun t4 w =>
  wBox P T_num_Reader t4 w fun t5 w =>
  k t5 w

theorem call_num_Read (a0 : Value) {w : World} {k : Value → World → Prop} (h : F_num_Read a0 w k) : wCall P n_num_Read [a0] w k :=
  call_of_den mixedP Try.func181 (by kernel_rfl) .z (by kernel_rfl) (Eq.mp (by kernel_rfl) h)

def F_num_Reader_Num (a0 a1 : Value) (w : World) (k : Value → World → Prop) : Prop :=
  wNil P a0 w fun t8 w =>
  wFieldA P T_num_Reader t8 2 w fun t9 w =>
  wLoad P T_api_Errno t9 w fun t10 w =>
  wBin P .neq T_api_Errno t10 (.int .i64 0) w fun t11 w =>
  wIf t11 (
    k (.int .u64 0) w) (
    wDraw w fun w =>
    wNil P a0 w fun t14 w =>
    wFieldA P T_num_Reader t14 0 w fun t15 w =>
    wSlice P T_api_Sector t15 none none none w fun t16 w =>
    wNil P a0 w fun t18 w =>
    wFieldA P T_num_Reader t18 1 w fun t19 w =>
    wLoad P T_int t19 w fun t20 w =>
    wCall P n_num_Get [t16, t20, a1] w fun t22 w =>
    wExtract P t22 0 w fun t23 w =>
    wExtract P t22 1 w fun t24 w =>
    wNil P a0 w fun t27 w =>
    wFieldA P T_num_Reader t27 2 w fun t28 w =>
    wStore P T_api_Errno t28 t24 w fun w =>
    wBin P .eql T_api_Errno t24 (.int .i64 0) w fun t30 w =>
    wIf t30 (
      wNil P a0 w fun t32 w =>
      wFieldA P T_num_Reader t32 1 w fun t33 w =>
      wLoad P T_int t33 w fun t34 w =>
      wBin P .add T_int t34 a1 w fun t36 w =>
      wNil P a0 w fun t37 w =>
      wFieldA P T_num_Reader t37 1 w fun t38 w =>
      wStore P T_int t38 t36 w fun w =>
      k t23 w) (
      k t23 w))

theorem call_num_Reader_Num (a0 a1 : Value) {w : World} {k : Value → World → Prop} (h : F_num_Reader_Num a0 a1 w k) : wCall P n_num_Reader_Num [a0, a1] w k :=
  call_of_den mixedP Try.func182 (by kernel_rfl) (.s .z (.s .z (.s (.r (.ops [0, 1, 2, 3, 4, 5, 6, 7, 8] (.eff 9 [] (.ops [10, 11, 12, 13, 14] .nil)))) .z))) (by kernel_rfl) (Eq.mp (by kernel_rfl) h)

def F_num_Put (a0 a1 a2 a3 : Value) (w : World) (k : Value → World → Prop) : Prop :=
  wCall P n_num_fits [a0, a1, a2] w fun t13 w =>
  wUn P .not t13 w fun t14 w =>
  wGrp t14 false (fun k24 =>
    wBin P .lss T_int a2 (.int .i64 8) w fun t17 w =>
    wGrp t17 true (fun k23 =>
      wBin P .mul T_int (.int .i64 8) a2 w fun t21 w =>
      wBin P .shr T_uint64 a3 t21 w fun t22 w =>
      wBin P .neq T_uint64 t22 (.int .u64 0) w fun t23 w =>
      k23 t23 w) w fun _ t23 w =>
    wPick t17 t23 (.bool false) w fun t24 w =>
    k24 t24 w) w fun _ t24 w =>
  wPick t14 (.bool true) t24 w fun t25 w =>
  wIf t25 (
    k (.int .i64 1) w) (
    wL1 (.int .i64 0) w (fun _ v27 w k2 =>
      wBin P .lss T_int v27 a2 w fun t28 w =>
      wIf t28 (
        wBin P .add T_int a1 v27 w fun t33 w =>
        wBin P .mul T_int (.int .i64 8) v27 w fun t36 w =>
        wBin P .shr T_uint64 a3 t36 w fun t37 w =>
        wConv P T_uint64 T_uint8 t37 w fun t38 w =>
        wIndexA P T_Luint8 a0 t33 w fun t39 w =>
        wStore P T_uint8 t39 t38 w fun w =>
        wBin P .add T_int v27 (.int .i64 1) w fun t40 w =>
        k2 t40 w) (
        k (.int .i64 0) w)))

theorem call_num_Put (a0 a1 a2 a3 : Value) {w : World} {k : Value → World → Prop} (h : F_num_Put a0 a1 a2 a3 w k) : wCall P n_num_Put [a0, a1, a2, a3] w k :=
  call_of_den mixedP Try.func244 (by kernel_rfl) (.s .z (.s (.s (.r (.ops [0, 1, 2, 3, 4, 5] (.grp 5 false 24 [16, 17, 18, 19, 20, 21, 22, 23] (.ops [6, 7, 8] (.grp 8 true 23 [19, 20, 21, 22] (.ops [9, 10, 11, 12, 13] .nil) (.ops [14] .nil))) (.ops [15] .nil)))) .z) (.s (.s .z (.b (.l [27] [0, 1, 3, 26] .z))) .z))) (by kernel_rfl) (Eq.mp (by kernel_rfl) h)

def F_num_Get (a0 a1 a2 : Value) (w : World) (k : Value → World → Prop) : Prop :=
  wCall P n_num_fits [a0, a1, a2] w fun t13 w =>
  wUn P .not t13 w fun t14 w =>
  wIf t14 (
    k (.tuple #[(.int .u64 0), (.int .i64 1)]) w) (
    wL2 (.int .u64 0) (.int .i64 0) w (fun _ v8 v16 w k2 =>
      wBin P .lss T_int v16 a2 w fun t17 w =>
      wIf t17 (
        wBin P .add T_int a1 v16 w fun t23 w =>
        wIndexA P T_Luint8 a0 t23 w fun t24 w =>
        wLoad P T_uint8 t24 w fun t25 w =>
        wConv P T_uint8 T_uint64 t25 w fun t26 w =>
        wBin P .mul T_int (.int .i64 8) v16 w fun t28 w =>
        wBin P .shl T_uint64 t26 t28 w fun t29 w =>
        wBin P .or T_uint64 v8 t29 w fun t30 w =>
        wBin P .add T_int v16 (.int .i64 1) w fun t31 w =>
        k2 t30 t31 w) (
        k (.tuple #[v8, (.int .i64 0)]) w)))

theorem call_num_Get (a0 a1 a2 : Value) {w : World} {k : Value → World → Prop} (h : F_num_Get a0 a1 a2 w k) : wCall P n_num_Get [a0, a1, a2] w k :=
  call_of_den mixedP Try.func245 (by kernel_rfl) (.s .z (.s .z (.s .z (.s (.s .z (.b (.l [8, 16] [0, 1, 15] .z))) .z)))) (by kernel_rfl) (Eq.mp (by kernel_rfl) h)

def F_num_Writer_Bytes (a0 a1 a2 : Value) (w : World) (k : Value → World → Prop) : Prop :=
  wJ0 (fun k1 =>
    wNil P a0 w fun t7 w =>
    wFieldA P T_num_Writer t7 2 w fun t8 w =>
    wLoad P T_api_Errno t8 w fun t9 w =>
    wBin P .eql T_api_Errno t9 (.int .i64 0) w fun t10 w =>
    wGrp t10 true (fun k24 =>
      wLen P .len #[T_Luint8] [a2] w fun t14 w =>
      wBin P .lss T_int a1 t14 w fun t15 w =>
      wGrp t15 false (fun k23 =>
        wNil P a0 w fun t19 w =>
        wFieldA P T_num_Writer t19 1 w fun t20 w =>
        wLoad P T_int t20 w fun t21 w =>
        wBin P .sub T_int (.int .i64 128) t21 w fun t22 w =>
        wBin P .gtr T_int a1 t22 w fun t23 w =>
        k23 t23 w) w fun _ t23 w =>
      wPick t15 (.bool true) t23 w fun t24 w =>
      k24 t24 w) w fun _ t24 w =>
    wPick t10 t24 (.bool false) w fun t25 w =>
    wIf t25 (
      wNil P a0 w fun t27 w =>
      wFieldA P T_num_Writer t27 2 w fun t28 w =>
      wStore P T_api_Errno t28 (.int .i64 1) w fun w =>
      k1 w) (
      k1 w)) fun _ w =>
  wNil P a0 w fun t30 w =>
  wFieldA P T_num_Writer t30 2 w fun t31 w =>
  wLoad P T_api_Errno t31 w fun t32 w =>
  wBin P .eql T_api_Errno t32 (.int .i64 0) w fun t33 w =>
  wIf t33 (
    wDraw w fun w =>
    wNil P a0 w fun t35 w =>
    wFieldA P T_num_Writer t35 0 w fun t36 w =>
    wNil P a0 w fun t38 w =>
    wFieldA P T_num_Writer t38 1 w fun t39 w =>
    wLoad P T_int t39 w fun t40 w =>
    wSlice P T_api_Sector t36 (some t40) none none w fun t41 w =>
    wBuiltin P .copy #[T_Luint8, T_Luint8] [t41, a2] w fun _ w =>
    wNil P a0 w fun t45 w =>
    wFieldA P T_num_Writer t45 1 w fun t46 w =>
    wLoad P T_int t46 w fun t47 w =>
    wBin P .add T_int t47 a1 w fun t49 w =>
    wNil P a0 w fun t50 w =>
    wFieldA P T_num_Writer t50 1 w fun t51 w =>
    wStore P T_int t51 t49 w fun w =>
    k (.tuple #[]) w) (
    k (.tuple #[]) w)

theorem call_num_Writer_Bytes (a0 a1 a2 : Value) {w : World} {k : Value → World → Prop} (h : F_num_Writer_Bytes a0 a1 a2 w k) : wCall P n_num_Writer_Bytes [a0, a1, a2] w k :=
  call_of_den mixedP Try.func278 (by kernel_rfl) (.j [] [0, 1, 2] (.s (.r (.ops [0, 1, 2, 3, 4, 5] (.grp 5 true 24 [12, 13, 14, 15, 16, 17, 18, 19, 20, 21, 22, 23] (.ops [6, 7, 8, 9, 10] (.grp 10 false 23 [17, 18, 19, 20, 21, 22] (.ops [11, 12, 13, 14, 15, 16, 17] .nil) (.ops [18] .nil))) (.ops [19] .nil)))) .z) (.s .z (.s (.s (.r (.ops [0, 1, 2, 3, 4, 5, 6, 7, 8] (.eff 9 [] .nil))) .z) .z))) (by kernel_rfl) (Eq.mp (by kernel_rfl) h)

def F_num_Reader_Bytes (a0 a1 : Value) (w : World) (k : Value → World → Prop) : Prop :=
  wJ0 (fun k1 =>
    wNil P a0 w fun t6 w =>
    wFieldA P T_num_Reader t6 2 w fun t7 w =>
    wLoad P T_api_Errno t7 w fun t8 w =>
    wBin P .eql T_api_Errno t8 (.int .i64 0) w fun t9 w =>
    wGrp t9 true (fun k18 =>
      wBin P .lss T_int a1 (.int .i64 0) w fun t12 w =>
      wGrp t12 false (fun k17 =>
        wCall P n_num_Reader_Left [a0] w fun t16 w =>
        wBin P .gtr T_int a1 t16 w fun t17 w =>
        k17 t17 w) w fun _ t17 w =>
      wPick t12 (.bool true) t17 w fun t18 w =>
      k18 t18 w) w fun _ t18 w =>
    wPick t9 t18 (.bool false) w fun t19 w =>
    wIf t19 (
      wNil P a0 w fun t21 w =>
      wFieldA P T_num_Reader t21 2 w fun t22 w =>
      wStore P T_api_Errno t22 (.int .i64 1) w fun w =>
      k1 w) (
      k1 w)) fun _ w =>
  wNil P a0 w fun t24 w =>
  wFieldA P T_num_Reader t24 2 w fun t25 w =>
  wLoad P T_api_Errno t25 w fun t26 w =>
  wBin P .neq T_api_Errno t26 (.int .i64 0) w fun t27 w =>
  wIf t27 (
    k (.slice none 0 0) w) (
    wNil P a0 w fun t29 w =>
    wFieldA P T_num_Reader t29 1 w fun t30 w =>
    wLoad P T_int t30 w fun t31 w =>
    wBin P .add T_int t31 a1 w fun t33 w =>
    wNil P a0 w fun t34 w =>
    wFieldA P T_num_Reader t34 1 w fun t35 w =>
    wStore P T_int t35 t33 w fun w =>
    wDraw w fun w =>
    wNil P a0 w fun t37 w =>
    wFieldA P T_num_Reader t37 0 w fun t38 w =>
    wNil P a0 w fun t40 w =>
    wFieldA P T_num_Reader t40 1 w fun t41 w =>
    wLoad P T_int t41 w fun t42 w =>
    wBin P .sub T_int t42 a1 w fun t44 w =>
    wNil P a0 w fun t46 w =>
    wFieldA P T_num_Reader t46 1 w fun t47 w =>
    wLoad P T_int t47 w fun t48 w =>
    wSlice P T_api_Sector t38 (some t44) (some t48) none w fun t49 w =>
    wBuiltin P .append #[T_Luint8, T_Luint8] [(.slice none 0 0), t49] w fun t50 w =>
    k t50 w)

theorem call_num_Reader_Bytes (a0 a1 : Value) {w : World} {k : Value → World → Prop} (h : F_num_Reader_Bytes a0 a1 w k) : wCall P n_num_Reader_Bytes [a0, a1] w k :=
  call_of_den mixedP Try.func281 (by kernel_rfl) (.s .z (.j [] [0, 1] (.s (.r (.ops [0, 1, 2, 3, 4, 5] (.grp 5 true 18 [11, 12, 13, 14, 15, 16, 17] (.ops [6, 7, 8] (.grp 8 false 17 [14, 15, 16] (.ops [9, 10, 11, 12] .nil) (.ops [13] .nil))) (.ops [14] .nil)))) .z) (.s .z (.s .z (.s (.r (.ops [0, 1, 2, 3, 4, 5, 6, 7, 8, 9, 10, 11, 12, 13] (.eff 14 [] (.ops [15] .nil)))) .z))))) (by kernel_rfl) (Eq.mp (by kernel_rfl) h)

def F_num_fits (a0 a1 a2 : Value) (w : World) (k : Value → World → Prop) : Prop :=
  wBin P .geq T_int a2 (.int .i64 1) w fun t8 w =>
  wGrp t8 true (fun k11 =>
    wBin P .leq T_int a2 (.int .i64 8) w fun t11 w =>
    k11 t11 w) w fun _ t11 w =>
  wPick t8 t11 (.bool false) w fun t12 w =>
  wGrp t12 true (fun k15 =>
    wBin P .geq T_int a1 (.int .i64 0) w fun t15 w =>
    k15 t15 w) w fun _ t15 w =>
  wPick t12 t15 (.bool false) w fun t16 w =>
  wGrp t16 true (fun k21 =>
    wLen P .len #[T_Luint8] [a0] w fun t20 w =>
    wBin P .leq T_int a1 t20 w fun t21 w =>
    k21 t21 w) w fun _ t21 w =>
  wPick t16 t21 (.bool false) w fun t22 w =>
  wGrp t22 true (fun k29 =>
    wLen P .len #[T_Luint8] [a0] w fun t25 w =>
    wBin P .sub T_int t25 a1 w fun t27 w =>
    wBin P .geq T_int t27 a2 w fun t29 w =>
    k29 t29 w) w fun _ t29 w =>
  wPick t22 t29 (.bool false) w fun t30 w =>
  k t30 w

theorem call_num_fits (a0 a1 a2 : Value) {w : World} {k : Value → World → Prop} (h : F_num_fits a0 a1 a2 w k) : wCall P n_num_fits [a0, a1, a2] w k :=
  call_of_den mixedP Try.func284 (by kernel_rfl) (.s .z (.s (.r (.ops [0, 1, 2] (.grp 2 true 11 [10] (.ops [3, 4] .nil) (.ops [5, 6] (.grp 6 true 15 [14] (.ops [7, 8] .nil) (.ops [9, 10] (.grp 10 true 21 [18, 19, 20] (.ops [11, 12, 13, 14] .nil) (.ops [15, 16] (.grp 16 true 29 [24, 25, 26, 27, 28] (.ops [17, 18, 19, 20, 21, 22] .nil) (.ops [23, 24] .nil)))))))))) .z)) (by kernel_rfl) (Eq.mp (by kernel_rfl) h)

def F_num_Reader_Left (a0 : Value) (w : World) (k : Value → World → Prop) : Prop :=
  wNil P a0 w fun t4 w =>
  wFieldA P T_num_Reader t4 1 w fun t5 w =>
  wLoad P T_int t5 w fun t6 w =>
  wBin P .sub T_int (.int .i64 128) t6 w fun t7 w =>
  k t7 w

theorem call_num_Reader_Left (a0 : Value) {w : World} {k : Value → World → Prop} (h : F_num_Reader_Left a0 w k) : wCall P n_num_Reader_Left [a0] w k :=
  call_of_den mixedP Try.func294 (by kernel_rfl) .z (by kernel_rfl) (Eq.mp (by kernel_rfl) h)

end Go.Dn
