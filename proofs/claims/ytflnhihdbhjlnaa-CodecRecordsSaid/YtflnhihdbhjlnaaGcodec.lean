import Derived.Test.YtflnhihdbhjlnaaGn
/-! Texts of functions, printed by mkg.py. -/
set_option maxRecDepth 100000
set_option linter.unusedVariables false
namespace Go.Dn
open Go Go.Proofs
def F_codec_WriteUses (a0 : Value) (w : World) (k : Value → World → Prop) : Prop :=
  wAlloc P T_api_Sector w fun t2 w =>
  wCall P n_codec_write_LLcodec_Use [(.int .u8 5), a0, (.func (.func n_codec_passUses) #[] #[]), (.func (.func n_codec_mayUses) #[] #[])] w fun t5 w =>
  wExtract P t5 0 w fun t6 w =>
  wExtract P t5 1 w fun t7 w =>
  wStore P T_api_Sector t2 t6 w fun w =>
  wRes P T_api_Sector t2 w fun r2 =>
  k (.tuple #[r2, t7]) w

theorem call_codec_WriteUses (a0 : Value) {w : World} {k : Value → World → Prop} (h : F_codec_WriteUses a0 w k) : wCall P n_codec_WriteUses [a0] w k :=
  call_of_den mixedP Try.func48 (by kernel_rfl) .z (by kernel_rfl) (Eq.mp (by kernel_rfl) h)

def F_codec_ReadUses (a0 : Value) (w : World) (k : Value → World → Prop) : Prop :=
  wBox P T_api_Sector a0 w fun t1 w =>
  wLoad P T_api_Sector t1 w fun t4 w =>
  wCall P n_codec_read_LLcodec_Use [(.int .u8 5), t4, (.func (.func n_codec_passUses) #[] #[]), (.func (.func n_codec_mayUses) #[] #[])] w fun t5 w =>
  wExtract P t5 0 w fun t6 w =>
  wExtract P t5 1 w fun t7 w =>
  k (.tuple #[t6, t7]) w

theorem call_codec_ReadUses (a0 : Value) {w : World} {k : Value → World → Prop} (h : F_codec_ReadUses a0 w k) : wCall P n_codec_ReadUses [a0] w k :=
  call_of_den mixedP Try.func50 (by kernel_rfl) .z (by kernel_rfl) (Eq.mp (by kernel_rfl) h)

def F_codec_WriteInode (a0 : Value) (w : World) (k : Value → World → Prop) : Prop :=
  wBox P T_codec_Inode a0 w fun t1 w =>
  wAlloc P T_api_Sector w fun t2 w =>
  wLoad P T_codec_Inode t1 w fun t4 w =>
  wCall P n_codec_write_codec_Inode [(.int .u8 2), t4, (.func (.func n_codec_passInode) #[] #[]), (.func (.func n_codec_mayInode) #[] #[])] w fun t5 w =>
  wExtract P t5 0 w fun t6 w =>
  wExtract P t5 1 w fun t7 w =>
  wStore P T_api_Sector t2 t6 w fun w =>
  wRes P T_api_Sector t2 w fun r2 =>
  k (.tuple #[r2, t7]) w

theorem call_codec_WriteInode (a0 : Value) {w : World} {k : Value → World → Prop} (h : F_codec_WriteInode a0 w k) : wCall P n_codec_WriteInode [a0] w k :=
  call_of_den mixedP Try.func55 (by kernel_rfl) .z (by kernel_rfl) (Eq.mp (by kernel_rfl) h)

def F_codec_ReadInode (a0 : Value) (w : World) (k : Value → World → Prop) : Prop :=
  wBox P T_api_Sector a0 w fun t1 w =>
  wAlloc P T_codec_Inode w fun t2 w =>
  wLoad P T_api_Sector t1 w fun t4 w =>
  wCall P n_codec_read_codec_Inode [(.int .u8 2), t4, (.func (.func n_codec_passInode) #[] #[]), (.func (.func n_codec_mayInode) #[] #[])] w fun t5 w =>
  wExtract P t5 0 w fun t6 w =>
  wExtract P t5 1 w fun t7 w =>
  wStore P T_codec_Inode t2 t6 w fun w =>
  wRes P T_codec_Inode t2 w fun r2 =>
  k (.tuple #[r2, t7]) w

theorem call_codec_ReadInode (a0 : Value) {w : World} {k : Value → World → Prop} (h : F_codec_ReadInode a0 w k) : wCall P n_codec_ReadInode [a0] w k :=
  call_of_den mixedP Try.func58 (by kernel_rfl) .z (by kernel_rfl) (Eq.mp (by kernel_rfl) h)

def F_codec_WriteHeader (a0 : Value) (w : World) (k : Value → World → Prop) : Prop :=
  wBox P T_codec_Header a0 w fun t1 w =>
  wAlloc P T_api_Sector w fun t2 w =>
  wLoad P T_codec_Header t1 w fun t4 w =>
  wCall P n_codec_write_codec_Header [(.int .u8 6), t4, (.func (.func n_codec_passHeader) #[] #[]), (.func (.func n_codec_mayHeader) #[] #[])] w fun t5 w =>
  wExtract P t5 0 w fun t6 w =>
  wExtract P t5 1 w fun t7 w =>
  wStore P T_api_Sector t2 t6 w fun w =>
  wRes P T_api_Sector t2 w fun r2 =>
  k (.tuple #[r2, t7]) w

theorem call_codec_WriteHeader (a0 : Value) {w : World} {k : Value → World → Prop} (h : F_codec_WriteHeader a0 w k) : wCall P n_codec_WriteHeader [a0] w k :=
  call_of_den mixedP Try.func61 (by kernel_rfl) .z (by kernel_rfl) (Eq.mp (by kernel_rfl) h)

def F_codec_ReadHeader (a0 : Value) (w : World) (k : Value → World → Prop) : Prop :=
  wBox P T_api_Sector a0 w fun t1 w =>
  wAlloc P T_codec_Header w fun t2 w =>
  wLoad P T_api_Sector t1 w fun t4 w =>
  wCall P n_codec_read_codec_Header [(.int .u8 6), t4, (.func (.func n_codec_passHeader) #[] #[]), (.func (.func n_codec_mayHeader) #[] #[])] w fun t5 w =>
  wExtract P t5 0 w fun t6 w =>
  wExtract P t5 1 w fun t7 w =>
  wStore P T_codec_Header t2 t6 w fun w =>
  wRes P T_codec_Header t2 w fun r2 =>
  k (.tuple #[r2, t7]) w

theorem call_codec_ReadHeader (a0 : Value) {w : World} {k : Value → World → Prop} (h : F_codec_ReadHeader a0 w k) : wCall P n_codec_ReadHeader [a0] w k :=
  call_of_den mixedP Try.func63 (by kernel_rfl) .z (by kernel_rfl) (Eq.mp (by kernel_rfl) h)

def F_codec_WritePointers (a0 : Value) (w : World) (k : Value → World → Prop) : Prop :=
  wBox P T_A32int a0 w fun t1 w =>
  wAlloc P T_api_Sector w fun t2 w =>
  wAlloc P T_num_Writer w fun t4 w =>
  wJ0 (fun k1 =>
    wLoad P T_A32int t1 w fun t7 w =>
    wL1 (.int .i64 0) w (fun _ v8 w k2 =>
      wBin P .lss T_int v8 (.int .i64 32) w fun t9 w =>
      wIf t9 (
        wIndex P T_A32int t7 v8 w fun t10 w =>
        wCall P n_codec_among [t10, (.int .i64 0), (.int .i64 65535)] w fun t12 w =>
        wUn P .not t12 w fun t13 w =>
        wIf t13 (
          wBuild P T_api_Sector [] w fun t14 w =>
          wStore P T_api_Sector t2 t14 w fun w =>
          wRes P T_api_Sector t2 w fun r2 =>
          k (.tuple #[r2, (.int .i64 1)]) w) (
          wConv P T_int T_uint64 t10 w fun t16 w =>
          wCall P n_num_Writer_Num [t4, (.int .i64 4), t16] w fun _ w =>
          wBin P .add T_int v8 (.int .i64 1) w fun t18 w =>
          k2 t18 w)) (
        k1 w))) fun _ w =>
  wCall P n_num_Writer_Sector [t4] w fun t19 w =>
  wExtract P t19 0 w fun t20 w =>
  wExtract P t19 1 w fun t21 w =>
  wStore P T_api_Sector t2 t20 w fun w =>
  wRes P T_api_Sector t2 w fun r2 =>
  k (.tuple #[r2, t21]) w

theorem call_codec_WritePointers (a0 : Value) {w : World} {k : Value → World → Prop} (h : F_codec_WritePointers a0 w k) : wCall P n_codec_WritePointers [a0] w k :=
  call_of_den mixedP Try.func65 (by kernel_rfl) (.s .z (.s .z (.j [] [2, 4] (.s .z (.b (.l [8] [2, 4, 7] .z))) .z))) (by kernel_rfl) (Eq.mp (by kernel_rfl) h)

def F_codec_ReadPointers (a0 : Value) (w : World) (k : Value → World → Prop) : Prop :=
  wBox P T_api_Sector a0 w fun t1 w =>
  wAlloc P T_A32int w fun t2 w =>
  wAlloc P T_A32int w fun t4 w =>
  wLoad P T_api_Sector t1 w fun t8 w =>
  wCall P n_num_Read [t8] w fun t9 w =>
  wJ0 (fun k1 =>
    wL1 (.int .i64 0) w (fun _ v10 w k2 =>
      wBin P .lss T_int v10 (.int .i64 32) w fun t11 w =>
      wIf t11 (
        wCall P n_num_Reader_Num [t9, (.int .i64 4)] w fun t14 w =>
        wBin P .geq T_uint64 t14 (.int .u64 65536) w fun t16 w =>
        wIf t16 (
          wBuild P T_A32int [] w fun t17 w =>
          wStore P T_A32int t2 t17 w fun w =>
          wRes P T_A32int t2 w fun r2 =>
          k (.tuple #[r2, (.int .i64 21)]) w) (
          wConv P T_uint64 T_int t14 w fun t20 w =>
          wIndexA P T_A32int t4 v10 w fun t21 w =>
          wStore P T_int t21 t20 w fun w =>
          wBin P .add T_int v10 (.int .i64 1) w fun t22 w =>
          k2 t22 w)) (
        k1 w))) fun _ w =>
  wLoad P T_A32int t4 w fun t23 w =>
  wStore P T_A32int t2 t23 w fun w =>
  wRes P T_A32int t2 w fun r2 =>
  k (.tuple #[r2, (.int .i64 0)]) w

theorem call_codec_ReadPointers (a0 : Value) {w : World} {k : Value → World → Prop} (h : F_codec_ReadPointers a0 w k) : wCall P n_codec_ReadPointers [a0] w k :=
  call_of_den mixedP Try.func67 (by kernel_rfl) (.s .z (.s .z (.s .z (.j [] [2, 4] (.s .z (.b (.l [10] [2, 4, 5] .z))) .z)))) (by kernel_rfl) (Eq.mp (by kernel_rfl) h)

def F_codec_WriteSlots (a0 : Value) (w : World) (k : Value → World → Prop) : Prop :=
  wAlloc P T_api_Sector w fun t2 w =>
  wCall P n_codec_write_LLcodec_Slot [(.int .u8 4), a0, (.func (.func n_codec_passSlots) #[] #[]), (.func (.func n_codec_maySlots) #[] #[])] w fun t5 w =>
  wExtract P t5 0 w fun t6 w =>
  wExtract P t5 1 w fun t7 w =>
  wStore P T_api_Sector t2 t6 w fun w =>
  wRes P T_api_Sector t2 w fun r2 =>
  k (.tuple #[r2, t7]) w

theorem call_codec_WriteSlots (a0 : Value) {w : World} {k : Value → World → Prop} (h : F_codec_WriteSlots a0 w k) : wCall P n_codec_WriteSlots [a0] w k :=
  call_of_den mixedP Try.func74 (by kernel_rfl) .z (by kernel_rfl) (Eq.mp (by kernel_rfl) h)

def F_codec_ReadSlots (a0 : Value) (w : World) (k : Value → World → Prop) : Prop :=
  wBox P T_api_Sector a0 w fun t1 w =>
  wLoad P T_api_Sector t1 w fun t4 w =>
  wCall P n_codec_read_LLcodec_Slot [(.int .u8 4), t4, (.func (.func n_codec_passSlots) #[] #[]), (.func (.func n_codec_maySlots) #[] #[])] w fun t5 w =>
  wExtract P t5 0 w fun t6 w =>
  wExtract P t5 1 w fun t7 w =>
  k (.tuple #[t6, t7]) w

theorem call_codec_ReadSlots (a0 : Value) {w : World} {k : Value → World → Prop} (h : F_codec_ReadSlots a0 w k) : wCall P n_codec_ReadSlots [a0] w k :=
  call_of_den mixedP Try.func76 (by kernel_rfl) .z (by kernel_rfl) (Eq.mp (by kernel_rfl) h)

def F_codec_WriteRecords (a0 : Value) (w : World) (k : Value → World → Prop) : Prop :=
  wAlloc P T_api_Sector w fun t2 w =>
  wCall P n_codec_write_LLcodec_Record [(.int .u8 7), a0, (.func (.func n_codec_passRecords) #[] #[]), (.func (.func n_codec_mayRecords) #[] #[])] w fun t5 w =>
  wExtract P t5 0 w fun t6 w =>
  wExtract P t5 1 w fun t7 w =>
  wStore P T_api_Sector t2 t6 w fun w =>
  wRes P T_api_Sector t2 w fun r2 =>
  k (.tuple #[r2, t7]) w

theorem call_codec_WriteRecords (a0 : Value) {w : World} {k : Value → World → Prop} (h : F_codec_WriteRecords a0 w k) : wCall P n_codec_WriteRecords [a0] w k :=
  call_of_den mixedP Try.func78 (by kernel_rfl) .z (by kernel_rfl) (Eq.mp (by kernel_rfl) h)

def F_codec_ReadRecords (a0 : Value) (w : World) (k : Value → World → Prop) : Prop :=
  wBox P T_api_Sector a0 w fun t1 w =>
  wLoad P T_api_Sector t1 w fun t4 w =>
  wCall P n_codec_read_LLcodec_Record [(.int .u8 7), t4, (.func (.func n_codec_passRecords) #[] #[]), (.func (.func n_codec_mayRecords) #[] #[])] w fun t5 w =>
  wExtract P t5 0 w fun t6 w =>
  wExtract P t5 1 w fun t7 w =>
  k (.tuple #[t6, t7]) w

theorem call_codec_ReadRecords (a0 : Value) {w : World} {k : Value → World → Prop} (h : F_codec_ReadRecords a0 w k) : wCall P n_codec_ReadRecords [a0] w k :=
  call_of_den mixedP Try.func80 (by kernel_rfl) .z (by kernel_rfl) (Eq.mp (by kernel_rfl) h)

def F_codec_WriteSummary (a0 : Value) (w : World) (k : Value → World → Prop) : Prop :=
  wBox P T_codec_Summary a0 w fun t1 w =>
  wAlloc P T_api_Sector w fun t2 w =>
  wLoad P T_codec_Summary t1 w fun t4 w =>
  wCall P n_codec_write_codec_Summary [(.int .u8 3), t4, (.func (.func n_codec_passSummary) #[] #[]), (.func (.func n_codec_maySummary) #[] #[])] w fun t5 w =>
  wExtract P t5 0 w fun t6 w =>
  wExtract P t5 1 w fun t7 w =>
  wStore P T_api_Sector t2 t6 w fun w =>
  wRes P T_api_Sector t2 w fun r2 =>
  k (.tuple #[r2, t7]) w

theorem call_codec_WriteSummary (a0 : Value) {w : World} {k : Value → World → Prop} (h : F_codec_WriteSummary a0 w k) : wCall P n_codec_WriteSummary [a0] w k :=
  call_of_den mixedP Try.func82 (by kernel_rfl) .z (by kernel_rfl) (Eq.mp (by kernel_rfl) h)

def F_codec_ReadSummary (a0 : Value) (w : World) (k : Value → World → Prop) : Prop :=
  wBox P T_api_Sector a0 w fun t1 w =>
  wAlloc P T_codec_Summary w fun t2 w =>
  wLoad P T_api_Sector t1 w fun t9 w =>
  wCall P n_codec_read_codec_Summary [(.int .u8 3), t9, (.func (.func n_codec_passSummary) #[] #[]), (.func (.func n_codec_maySummary) #[] #[])] w fun t10 w =>
  wExtract P t10 0 w fun t11 w =>
  wExtract P t10 1 w fun t12 w =>
  wAlloc P T_codec_Summary w fun t4 w =>
  wStore P T_codec_Summary t4 t11 w fun w =>
  wLoad P T_codec_Summary t4 w fun t14 w =>
  wCall P n_codec_WriteSummary [t14] w fun t15 w =>
  wExtract P t15 0 w fun t16 w =>
  wExtract P t15 1 w fun t17 w =>
  wAlloc P T_api_Sector w fun t6 w =>
  wStore P T_api_Sector t6 t16 w fun w =>
  wBin P .neq T_api_Errno t12 (.int .i64 0) w fun t19 w =>
  wGrp t19 false (fun k22 =>
    wBin P .neq T_api_Errno t17 (.int .i64 0) w fun t22 w =>
    k22 t22 w) w fun _ t22 w =>
  wPick t19 (.bool true) t22 w fun t23 w =>
  wGrp t23 false (fun k27 =>
    wLoad P T_api_Sector t6 w fun t25 w =>
    wLoad P T_api_Sector t1 w fun t26 w =>
    wBin P .neq T_api_Sector t25 t26 w fun t27 w =>
    k27 t27 w) w fun _ t27 w =>
  wPick t23 (.bool true) t27 w fun t28 w =>
  wIf t28 (
    wBuild P T_codec_Summary [] w fun t29 w =>
    wStore P T_codec_Summary t2 t29 w fun w =>
    wRes P T_codec_Summary t2 w fun r2 =>
    k (.tuple #[r2, (.int .i64 21)]) w) (
    wLoad P T_codec_Summary t4 w fun t30 w =>
    wStore P T_codec_Summary t2 t30 w fun w =>
    wRes P T_codec_Summary t2 w fun r2 =>
    k (.tuple #[r2, (.int .i64 0)]) w)

theorem call_codec_ReadSummary (a0 : Value) {w : World} {k : Value → World → Prop} (h : F_codec_ReadSummary a0 w k) : wCall P n_codec_ReadSummary [a0] w k :=
  call_of_den mixedP Try.func85 (by kernel_rfl) (.s .z (.s .z (.s (.s .z (.s (.r (.ops [0, 1, 2] (.grp 2 false 22 [21] (.ops [3, 4] .nil) (.ops [5, 6] (.grp 6 false 27 [25, 26] (.ops [7, 8, 9] .nil) (.ops [10] .nil)))))) .z)) .z))) (by kernel_rfl) (Eq.mp (by kernel_rfl) h)

def F_codec_write_LLcodec_Use (a0 a1 a2 a3 : Value) (w : World) (k : Value → World → Prop) : Prop :=
  wBox P T_Lcodec_Use a1 w fun t5 w =>
  wAlloc P T_api_Sector w fun t8 w =>
  wBuild P T_codec_writer [] w fun t11 w =>
  wBox P T_codec_writer t11 w fun t12 w =>
  wLoad P T_Lcodec_Use t5 w fun t14 w =>
  wCallV P a3 [t14] w fun t15 w =>
  wUn P .not t15 w fun t16 w =>
  wIf t16 (
    wBuild P T_api_Sector [] w fun t17 w =>
    wStore P T_api_Sector t8 t17 w fun w =>
    wRes P T_api_Sector t8 w fun r8 =>
    k (.tuple #[r8, (.int .i64 1)]) w) (
    wIface P T_pcodec_writer t12 w fun t20 w =>
    wCallV P a2 [t20, t5] w fun _ w =>
    wNil P t12 w fun t23 w =>
    wFieldA P T_codec_writer t23 1 w fun t24 w =>
    wLoad P T_bool t24 w fun t25 w =>
    wIf t25 (
      wBuild P T_api_Sector [] w fun t26 w =>
      wStore P T_api_Sector t8 t26 w fun w =>
      wRes P T_api_Sector t8 w fun r8 =>
      k (.tuple #[r8, (.int .i64 1)]) w) (
      wNil P t12 w fun t29 w =>
      wFieldA P T_codec_writer t29 0 w fun t30 w =>
      wLoad P T_Luint8 t30 w fun t31 w =>
      wCall P n_seal_Make [a0, t31] w fun t32 w =>
      wExtract P t32 0 w fun t33 w =>
      wExtract P t32 1 w fun t34 w =>
      wStore P T_api_Sector t8 t33 w fun w =>
      wRes P T_api_Sector t8 w fun r8 =>
      k (.tuple #[r8, t34]) w))

theorem call_codec_write_LLcodec_Use (a0 a1 a2 a3 : Value) {w : World} {k : Value → World → Prop} (h : F_codec_write_LLcodec_Use a0 a1 a2 a3 w k) : wCall P n_codec_write_LLcodec_Use [a0, a1, a2, a3] w k :=
  call_of_den mixedP Try.func151 (by kernel_rfl) .z (by kernel_rfl) (Eq.mp (by kernel_rfl) h)

def F_codec_passUses (a0 a1 : Value) (w : World) (k : Value → World → Prop) : Prop :=
  wCall P n_codec_list_codec_Use [a0, a1, (.func (.func n_codec_passUse) #[] #[])] w fun _ w =>
  k (.tuple #[]) w

theorem call_codec_passUses (a0 a1 : Value) {w : World} {k : Value → World → Prop} (h : F_codec_passUses a0 a1 w k) : wCall P n_codec_passUses [a0, a1] w k :=
  call_of_den mixedP Try.func152 (by kernel_rfl) .z (by kernel_rfl) (Eq.mp (by kernel_rfl) h)

def F_codec_mayUses (a0 : Value) (w : World) (k : Value → World → Prop) : Prop :=
  wCall P n_codec_each_codec_Use [(.int .i64 15), (.func (.func n_codec_mayUses_c1) #[] #[])] w fun t3 w =>
  wCallV P t3 [a0] w fun t5 w =>
  k t5 w

theorem call_codec_mayUses (a0 : Value) {w : World} {k : Value → World → Prop} (h : F_codec_mayUses a0 w k) : wCall P n_codec_mayUses [a0] w k :=
  call_of_den mixedP Try.func153 (by kernel_rfl) .z (by kernel_rfl) (Eq.mp (by kernel_rfl) h)

def F_codec_read_LLcodec_Use (a0 a1 a2 a3 : Value) (w : World) (k : Value → World → Prop) : Prop :=
  wBox P T_api_Sector a1 w fun t5 w =>
  wAlloc P T_Lcodec_Use w fun t10 w =>
  wLoad P T_api_Sector t5 w fun t17 w =>
  wCall P n_seal_Open [t17] w fun t18 w =>
  wExtract P t18 0 w fun t19 w =>
  wExtract P t18 1 w fun t20 w =>
  wExtract P t18 2 w fun t21 w =>
  wBin P .neq T_api_Errno t21 (.int .i64 0) w fun t23 w =>
  wGrp t23 false (fun k27 =>
    wBin P .neq T_uint8 t19 a0 w fun t27 w =>
    k27 t27 w) w fun _ t27 w =>
  wPick t23 (.bool true) t27 w fun t28 w =>
  wIf t28 (
    k (.tuple #[(.slice none 0 0), (.int .i64 21)]) w) (
    wBuild P T_codec_reader [(0, t20)] w fun t31 w =>
    wBox P T_codec_reader t31 w fun t32 w =>
    wIface P T_pcodec_reader t32 w fun t35 w =>
    wCallV P a2 [t35, t10] w fun _ w =>
    wNil P t32 w fun t38 w =>
    wFieldA P T_codec_reader t38 2 w fun t39 w =>
    wLoad P T_bool t39 w fun t40 w =>
    wGrp t40 false (fun k48 =>
      wNil P t32 w fun t43 w =>
      wFieldA P T_codec_reader t43 1 w fun t44 w =>
      wLoad P T_int t44 w fun t45 w =>
      wLen P .len #[T_Luint8] [t20] w fun t47 w =>
      wBin P .neq T_int t45 t47 w fun t48 w =>
      k48 t48 w) w fun _ t48 w =>
    wPick t40 (.bool true) t48 w fun t49 w =>
    wGrp t49 false (fun k54 =>
      wLoad P T_Lcodec_Use t10 w fun t52 w =>
      wCallV P a3 [t52] w fun t53 w =>
      wUn P .not t53 w fun t54 w =>
      k54 t54 w) w fun _ t54 w =>
    wPick t49 (.bool true) t54 w fun t55 w =>
    wIf t55 (
      k (.tuple #[(.slice none 0 0), (.int .i64 21)]) w) (
      wLoad P T_Lcodec_Use t10 w fun t57 w =>
      k (.tuple #[t57, (.int .i64 0)]) w))

theorem call_codec_read_LLcodec_Use (a0 a1 a2 a3 : Value) {w : World} {k : Value → World → Prop} (h : F_codec_read_LLcodec_Use a0 a1 a2 a3 w k) : wCall P n_codec_read_LLcodec_Use [a0, a1, a2, a3] w k :=
  call_of_den mixedP Try.func155 (by kernel_rfl) (.s .z (.s .z (.s .z (.s (.s (.r (.ops [0, 1, 2] (.grp 2 false 27 [25, 26] (.ops [3, 4, 5] .nil) (.ops [6] .nil)))) .z) (.s .z (.s (.s .z (.s (.r (.ops [0, 1, 2, 3, 4] (.grp 4 false 48 [42, 43, 44, 45, 46, 47] (.ops [5, 6, 7, 8, 9, 10, 11] .nil) (.ops [12, 13] (.grp 13 false 54 [51, 52, 53] (.ops [14, 15, 16, 17] .nil) (.ops [18] .nil)))))) .z)) .z)))))) (by kernel_rfl) (Eq.mp (by kernel_rfl) h)

def F_codec_write_codec_Inode (a0 a1 a2 a3 : Value) (w : World) (k : Value → World → Prop) : Prop :=
  wBox P T_codec_Inode a1 w fun t5 w =>
  wAlloc P T_api_Sector w fun t8 w =>
  wBuild P T_codec_writer [] w fun t11 w =>
  wBox P T_codec_writer t11 w fun t12 w =>
  wLoad P T_codec_Inode t5 w fun t14 w =>
  wCallV P a3 [t14] w fun t15 w =>
  wUn P .not t15 w fun t16 w =>
  wIf t16 (
    wBuild P T_api_Sector [] w fun t17 w =>
    wStore P T_api_Sector t8 t17 w fun w =>
    wRes P T_api_Sector t8 w fun r8 =>
    k (.tuple #[r8, (.int .i64 1)]) w) (
    wIface P T_pcodec_writer t12 w fun t20 w =>
    wCallV P a2 [t20, t5] w fun _ w =>
    wNil P t12 w fun t23 w =>
    wFieldA P T_codec_writer t23 1 w fun t24 w =>
    wLoad P T_bool t24 w fun t25 w =>
    wIf t25 (
      wBuild P T_api_Sector [] w fun t26 w =>
      wStore P T_api_Sector t8 t26 w fun w =>
      wRes P T_api_Sector t8 w fun r8 =>
      k (.tuple #[r8, (.int .i64 1)]) w) (
      wNil P t12 w fun t29 w =>
      wFieldA P T_codec_writer t29 0 w fun t30 w =>
      wLoad P T_Luint8 t30 w fun t31 w =>
      wCall P n_seal_Make [a0, t31] w fun t32 w =>
      wExtract P t32 0 w fun t33 w =>
      wExtract P t32 1 w fun t34 w =>
      wStore P T_api_Sector t8 t33 w fun w =>
      wRes P T_api_Sector t8 w fun r8 =>
      k (.tuple #[r8, t34]) w))

theorem call_codec_write_codec_Inode (a0 a1 a2 a3 : Value) {w : World} {k : Value → World → Prop} (h : F_codec_write_codec_Inode a0 a1 a2 a3 w k) : wCall P n_codec_write_codec_Inode [a0, a1, a2, a3] w k :=
  call_of_den mixedP Try.func162 (by kernel_rfl) .z (by kernel_rfl) (Eq.mp (by kernel_rfl) h)

def F_codec_passInode (a0 a1 : Value) (w : World) (k : Value → World → Prop) : Prop :=
  wDraw w fun w =>
  wNil P a1 w fun t7 w =>
  wFieldA P T_codec_Inode t7 0 w fun t8 w =>
  wFunc P (.method "drumlin/codec.word") [a0] [] w fun t9 w =>
  wNil P t9 w fun _ w =>
  wInvoke P a0 "drumlin/codec.word" [(.int .i64 2), t8] w fun _ w =>
  wDraw w fun w =>
  wNil P a1 w fun t15 w =>
  wFieldA P T_codec_Inode t15 1 w fun t16 w =>
  wFunc P (.method "drumlin/codec.word") [a0] [] w fun t17 w =>
  wNil P t17 w fun _ w =>
  wInvoke P a0 "drumlin/codec.word" [(.int .i64 4), t16] w fun _ w =>
  wDraw w fun w =>
  wNil P a1 w fun t23 w =>
  wFieldA P T_codec_Inode t23 2 w fun t24 w =>
  wFunc P (.method "drumlin/codec.int") [a0] [] w fun t25 w =>
  wNil P t25 w fun _ w =>
  wInvoke P a0 "drumlin/codec.int" [(.int .i64 1), t24] w fun _ w =>
  wDraw w fun w =>
  wNil P a1 w fun t31 w =>
  wFieldA P T_codec_Inode t31 3 w fun t32 w =>
  wFunc P (.method "drumlin/codec.int") [a0] [] w fun t33 w =>
  wNil P t33 w fun _ w =>
  wInvoke P a0 "drumlin/codec.int" [(.int .i64 4), t32] w fun _ w =>
  wDraw w fun w =>
  wNil P a1 w fun t39 w =>
  wFieldA P T_codec_Inode t39 4 w fun t40 w =>
  wFunc P (.method "drumlin/codec.word") [a0] [] w fun t41 w =>
  wNil P t41 w fun _ w =>
  wInvoke P a0 "drumlin/codec.word" [(.int .i64 4), t40] w fun _ w =>
  wJ0 (fun k1 =>
    wL1 (.int .i64 0) w (fun _ v45 w k2 =>
      wBin P .lss T_int v45 (.int .i64 8) w fun t46 w =>
      wIf t46 (
        wDraw w fun w =>
        wNil P a1 w fun t51 w =>
        wFieldA P T_codec_Inode t51 5 w fun t52 w =>
        wIndexA P T_A8int t52 v45 w fun t53 w =>
        wFunc P (.method "drumlin/codec.int") [a0] [] w fun t54 w =>
        wNil P t54 w fun _ w =>
        wInvoke P a0 "drumlin/codec.int" [(.int .i64 4), t53] w fun _ w =>
        wBin P .add T_int v45 (.int .i64 1) w fun t58 w =>
        k2 t58 w) (
        k1 w))) fun _ w =>
  wDraw w fun w =>
  wNil P a1 w fun t61 w =>
  wFieldA P T_codec_Inode t61 6 w fun t62 w =>
  wFunc P (.method "drumlin/codec.int") [a0] [] w fun t63 w =>
  wNil P t63 w fun _ w =>
  wInvoke P a0 "drumlin/codec.int" [(.int .i64 4), t62] w fun _ w =>
  wDraw w fun w =>
  wNil P a1 w fun t69 w =>
  wFieldA P T_codec_Inode t69 7 w fun t70 w =>
  wFunc P (.method "drumlin/codec.int") [a0] [] w fun t71 w =>
  wNil P t71 w fun _ w =>
  wInvoke P a0 "drumlin/codec.int" [(.int .i64 4), t70] w fun _ w =>
  k (.tuple #[]) w

theorem call_codec_passInode (a0 a1 : Value) {w : World} {k : Value → World → Prop} (h : F_codec_passInode a0 a1 w k) : wCall P n_codec_passInode [a0, a1] w k :=
  call_of_den mixedP Try.func163 (by kernel_rfl) (.s (.r (.ops [0, 1, 2, 3] (.eff 4 [] (.ops [5, 6] (.eff 7 [] .nil))))) (.s (.r (.ops [0, 1, 2, 3] (.eff 4 [] (.ops [5, 6] (.eff 7 [] .nil))))) (.s (.r (.ops [0, 1, 2, 3] (.eff 4 [] (.ops [5, 6] (.eff 7 [] .nil))))) (.s (.r (.ops [0, 1, 2, 3] (.eff 4 [] (.ops [5, 6] (.eff 7 [] .nil))))) (.s (.r (.ops [0, 1, 2, 3] (.eff 4 [] (.ops [5, 6] (.eff 7 [] .nil))))) (.j [] [0, 1] (.s .z (.b (.l [45] [0, 1] (.s .z (.s .z (.s (.b (.s .z (.r (.ops [0, 1, 2, 3, 4, 5] (.eff 6 [] (.ops [7, 8] (.eff 9 [] .nil))))))) .z)))))) (.s (.r (.ops [0, 1, 2, 3] (.eff 4 [] (.ops [5, 6] (.eff 7 [] .nil))))) (.r (.ops [0, 1, 2, 3] (.eff 4 [] (.ops [5, 6] (.eff 7 [] .nil)))))))))))) (by kernel_rfl) (Eq.mp (by kernel_rfl) h)

def F_codec_mayInode (a0 : Value) (w : World) (k : Value → World → Prop) : Prop :=
  wBox P T_codec_Inode a0 w fun t1 w =>
  wFieldA P T_codec_Inode t1 2 w fun t3 w =>
  wLoad P T_int t3 w fun t4 w =>
  wCall P n_codec_among [t4, (.int .i64 1), (.int .i64 2)] w fun t5 w =>
  k t5 w

theorem call_codec_mayInode (a0 : Value) {w : World} {k : Value → World → Prop} (h : F_codec_mayInode a0 w k) : wCall P n_codec_mayInode [a0] w k :=
  call_of_den mixedP Try.func164 (by kernel_rfl) .z (by kernel_rfl) (Eq.mp (by kernel_rfl) h)

def F_codec_read_codec_Inode (a0 a1 a2 a3 : Value) (w : World) (k : Value → World → Prop) : Prop :=
  wBox P T_api_Sector a1 w fun t5 w =>
  wAlloc P T_codec_Inode w fun t8 w =>
  wAlloc P T_codec_Inode w fun t10 w =>
  wAlloc P T_codec_Inode w fun t11 w =>
  wLoad P T_api_Sector t5 w fun t17 w =>
  wCall P n_seal_Open [t17] w fun t18 w =>
  wExtract P t18 0 w fun t19 w =>
  wExtract P t18 1 w fun t20 w =>
  wExtract P t18 2 w fun t21 w =>
  wBin P .neq T_api_Errno t21 (.int .i64 0) w fun t23 w =>
  wGrp t23 false (fun k27 =>
    wBin P .neq T_uint8 t19 a0 w fun t27 w =>
    k27 t27 w) w fun _ t27 w =>
  wPick t23 (.bool true) t27 w fun t28 w =>
  wIf t28 (
    wLoad P T_codec_Inode t11 w fun t29 w =>
    wStore P T_codec_Inode t8 t29 w fun w =>
    wRes P T_codec_Inode t8 w fun r8 =>
    k (.tuple #[r8, (.int .i64 21)]) w) (
    wBuild P T_codec_reader [(0, t20)] w fun t31 w =>
    wBox P T_codec_reader t31 w fun t32 w =>
    wIface P T_pcodec_reader t32 w fun t35 w =>
    wCallV P a2 [t35, t10] w fun _ w =>
    wNil P t32 w fun t38 w =>
    wFieldA P T_codec_reader t38 2 w fun t39 w =>
    wLoad P T_bool t39 w fun t40 w =>
    wGrp t40 false (fun k48 =>
      wNil P t32 w fun t43 w =>
      wFieldA P T_codec_reader t43 1 w fun t44 w =>
      wLoad P T_int t44 w fun t45 w =>
      wLen P .len #[T_Luint8] [t20] w fun t47 w =>
      wBin P .neq T_int t45 t47 w fun t48 w =>
      k48 t48 w) w fun _ t48 w =>
    wPick t40 (.bool true) t48 w fun t49 w =>
    wGrp t49 false (fun k54 =>
      wLoad P T_codec_Inode t10 w fun t52 w =>
      wCallV P a3 [t52] w fun t53 w =>
      wUn P .not t53 w fun t54 w =>
      k54 t54 w) w fun _ t54 w =>
    wPick t49 (.bool true) t54 w fun t55 w =>
    wIf t55 (
      wLoad P T_codec_Inode t11 w fun t56 w =>
      wStore P T_codec_Inode t8 t56 w fun w =>
      wRes P T_codec_Inode t8 w fun r8 =>
      k (.tuple #[r8, (.int .i64 21)]) w) (
      wLoad P T_codec_Inode t10 w fun t57 w =>
      wStore P T_codec_Inode t8 t57 w fun w =>
      wRes P T_codec_Inode t8 w fun r8 =>
      k (.tuple #[r8, (.int .i64 0)]) w))

theorem call_codec_read_codec_Inode (a0 a1 a2 a3 : Value) {w : World} {k : Value → World → Prop} (h : F_codec_read_codec_Inode a0 a1 a2 a3 w k) : wCall P n_codec_read_codec_Inode [a0, a1, a2, a3] w k :=
  call_of_den mixedP Try.func167 (by kernel_rfl) (.s .z (.s .z (.s .z (.s (.s (.r (.ops [0, 1, 2] (.grp 2 false 27 [25, 26] (.ops [3, 4, 5] .nil) (.ops [6] .nil)))) .z) (.s .z (.s (.s .z (.s (.r (.ops [0, 1, 2, 3, 4] (.grp 4 false 48 [42, 43, 44, 45, 46, 47] (.ops [5, 6, 7, 8, 9, 10, 11] .nil) (.ops [12, 13] (.grp 13 false 54 [51, 52, 53] (.ops [14, 15, 16, 17] .nil) (.ops [18] .nil)))))) .z)) .z)))))) (by kernel_rfl) (Eq.mp (by kernel_rfl) h)

def F_codec_write_codec_Header (a0 a1 a2 a3 : Value) (w : World) (k : Value → World → Prop) : Prop :=
  wBox P T_codec_Header a1 w fun t5 w =>
  wAlloc P T_api_Sector w fun t8 w =>
  wBuild P T_codec_writer [] w fun t11 w =>
  wBox P T_codec_writer t11 w fun t12 w =>
  wLoad P T_codec_Header t5 w fun t14 w =>
  wCallV P a3 [t14] w fun t15 w =>
  wUn P .not t15 w fun t16 w =>
  wIf t16 (
    wBuild P T_api_Sector [] w fun t17 w =>
    wStore P T_api_Sector t8 t17 w fun w =>
    wRes P T_api_Sector t8 w fun r8 =>
    k (.tuple #[r8, (.int .i64 1)]) w) (
    wIface P T_pcodec_writer t12 w fun t20 w =>
    wCallV P a2 [t20, t5] w fun _ w =>
    wNil P t12 w fun t23 w =>
    wFieldA P T_codec_writer t23 1 w fun t24 w =>
    wLoad P T_bool t24 w fun t25 w =>
    wIf t25 (
      wBuild P T_api_Sector [] w fun t26 w =>
      wStore P T_api_Sector t8 t26 w fun w =>
      wRes P T_api_Sector t8 w fun r8 =>
      k (.tuple #[r8, (.int .i64 1)]) w) (
      wNil P t12 w fun t29 w =>
      wFieldA P T_codec_writer t29 0 w fun t30 w =>
      wLoad P T_Luint8 t30 w fun t31 w =>
      wCall P n_seal_Make [a0, t31] w fun t32 w =>
      wExtract P t32 0 w fun t33 w =>
      wExtract P t32 1 w fun t34 w =>
      wStore P T_api_Sector t8 t33 w fun w =>
      wRes P T_api_Sector t8 w fun r8 =>
      k (.tuple #[r8, t34]) w))

theorem call_codec_write_codec_Header (a0 a1 a2 a3 : Value) {w : World} {k : Value → World → Prop} (h : F_codec_write_codec_Header a0 a1 a2 a3 w k) : wCall P n_codec_write_codec_Header [a0, a1, a2, a3] w k :=
  call_of_den mixedP Try.func170 (by kernel_rfl) .z (by kernel_rfl) (Eq.mp (by kernel_rfl) h)

def F_codec_passHeader (a0 a1 : Value) (w : World) (k : Value → World → Prop) : Prop :=
  wDraw w fun w =>
  wNil P a1 w fun t6 w =>
  wFieldA P T_codec_Header t6 0 w fun t7 w =>
  wFunc P (.method "drumlin/codec.wide") [a0] [] w fun t8 w =>
  wNil P t8 w fun _ w =>
  wInvoke P a0 "drumlin/codec.wide" [(.int .i64 8), t7] w fun _ w =>
  wDraw w fun w =>
  wNil P a1 w fun t14 w =>
  wFieldA P T_codec_Header t14 1 w fun t15 w =>
  wFunc P (.method "drumlin/codec.wide") [a0] [] w fun t16 w =>
  wNil P t16 w fun _ w =>
  wInvoke P a0 "drumlin/codec.wide" [(.int .i64 8), t15] w fun _ w =>
  wDraw w fun w =>
  wNil P a1 w fun t22 w =>
  wFieldA P T_codec_Header t22 2 w fun t23 w =>
  wFunc P (.method "drumlin/codec.int") [a0] [] w fun t24 w =>
  wNil P t24 w fun _ w =>
  wInvoke P a0 "drumlin/codec.int" [(.int .i64 2), t23] w fun _ w =>
  wDraw w fun w =>
  wNil P a1 w fun t30 w =>
  wFieldA P T_codec_Header t30 3 w fun t31 w =>
  wFunc P (.method "drumlin/codec.int") [a0] [] w fun t32 w =>
  wNil P t32 w fun _ w =>
  wInvoke P a0 "drumlin/codec.int" [(.int .i64 2), t31] w fun _ w =>
  wDraw w fun w =>
  wNil P a1 w fun t38 w =>
  wFieldA P T_codec_Header t38 4 w fun t39 w =>
  wFunc P (.method "drumlin/codec.int") [a0] [] w fun t40 w =>
  wNil P t40 w fun _ w =>
  wInvoke P a0 "drumlin/codec.int" [(.int .i64 2), t39] w fun _ w =>
  wDraw w fun w =>
  wNil P a1 w fun t46 w =>
  wFieldA P T_codec_Header t46 5 w fun t47 w =>
  wFunc P (.method "drumlin/codec.word") [a0] [] w fun t48 w =>
  wNil P t48 w fun _ w =>
  wInvoke P a0 "drumlin/codec.word" [(.int .i64 4), t47] w fun _ w =>
  k (.tuple #[]) w

theorem call_codec_passHeader (a0 a1 : Value) {w : World} {k : Value → World → Prop} (h : F_codec_passHeader a0 a1 w k) : wCall P n_codec_passHeader [a0, a1] w k :=
  call_of_den mixedP Try.func171 (by kernel_rfl) (.s (.r (.ops [0, 1, 2, 3] (.eff 4 [] (.ops [5, 6] (.eff 7 [] .nil))))) (.s (.r (.ops [0, 1, 2, 3] (.eff 4 [] (.ops [5, 6] (.eff 7 [] .nil))))) (.s (.r (.ops [0, 1, 2, 3] (.eff 4 [] (.ops [5, 6] (.eff 7 [] .nil))))) (.s (.r (.ops [0, 1, 2, 3] (.eff 4 [] (.ops [5, 6] (.eff 7 [] .nil))))) (.s (.r (.ops [0, 1, 2, 3] (.eff 4 [] (.ops [5, 6] (.eff 7 [] .nil))))) (.r (.ops [0, 1, 2, 3] (.eff 4 [] (.ops [5, 6] (.eff 7 [] .nil)))))))))) (by kernel_rfl) (Eq.mp (by kernel_rfl) h)

def F_codec_mayHeader (a0 : Value) (w : World) (k : Value → World → Prop) : Prop :=
  wBox P T_codec_Header a0 w fun _ w =>
  k (.bool true) w

theorem call_codec_mayHeader (a0 : Value) {w : World} {k : Value → World → Prop} (h : F_codec_mayHeader a0 w k) : wCall P n_codec_mayHeader [a0] w k :=
  call_of_den mixedP Try.func172 (by kernel_rfl) .z (by kernel_rfl) (Eq.mp (by kernel_rfl) h)

def F_codec_read_codec_Header (a0 a1 a2 a3 : Value) (w : World) (k : Value → World → Prop) : Prop :=
  wBox P T_api_Sector a1 w fun t5 w =>
  wAlloc P T_codec_Header w fun t8 w =>
  wAlloc P T_codec_Header w fun t10 w =>
  wAlloc P T_codec_Header w fun t11 w =>
  wLoad P T_api_Sector t5 w fun t17 w =>
  wCall P n_seal_Open [t17] w fun t18 w =>
  wExtract P t18 0 w fun t19 w =>
  wExtract P t18 1 w fun t20 w =>
  wExtract P t18 2 w fun t21 w =>
  wBin P .neq T_api_Errno t21 (.int .i64 0) w fun t23 w =>
  wGrp t23 false (fun k27 =>
    wBin P .neq T_uint8 t19 a0 w fun t27 w =>
    k27 t27 w) w fun _ t27 w =>
  wPick t23 (.bool true) t27 w fun t28 w =>
  wIf t28 (
    wLoad P T_codec_Header t11 w fun t29 w =>
    wStore P T_codec_Header t8 t29 w fun w =>
    wRes P T_codec_Header t8 w fun r8 =>
    k (.tuple #[r8, (.int .i64 21)]) w) (
    wBuild P T_codec_reader [(0, t20)] w fun t31 w =>
    wBox P T_codec_reader t31 w fun t32 w =>
    wIface P T_pcodec_reader t32 w fun t35 w =>
    wCallV P a2 [t35, t10] w fun _ w =>
    wNil P t32 w fun t38 w =>
    wFieldA P T_codec_reader t38 2 w fun t39 w =>
    wLoad P T_bool t39 w fun t40 w =>
    wGrp t40 false (fun k48 =>
      wNil P t32 w fun t43 w =>
      wFieldA P T_codec_reader t43 1 w fun t44 w =>
      wLoad P T_int t44 w fun t45 w =>
      wLen P .len #[T_Luint8] [t20] w fun t47 w =>
      wBin P .neq T_int t45 t47 w fun t48 w =>
      k48 t48 w) w fun _ t48 w =>
    wPick t40 (.bool true) t48 w fun t49 w =>
    wGrp t49 false (fun k54 =>
      wLoad P T_codec_Header t10 w fun t52 w =>
      wCallV P a3 [t52] w fun t53 w =>
      wUn P .not t53 w fun t54 w =>
      k54 t54 w) w fun _ t54 w =>
    wPick t49 (.bool true) t54 w fun t55 w =>
    wIf t55 (
      wLoad P T_codec_Header t11 w fun t56 w =>
      wStore P T_codec_Header t8 t56 w fun w =>
      wRes P T_codec_Header t8 w fun r8 =>
      k (.tuple #[r8, (.int .i64 21)]) w) (
      wLoad P T_codec_Header t10 w fun t57 w =>
      wStore P T_codec_Header t8 t57 w fun w =>
      wRes P T_codec_Header t8 w fun r8 =>
      k (.tuple #[r8, (.int .i64 0)]) w))

theorem call_codec_read_codec_Header (a0 a1 a2 a3 : Value) {w : World} {k : Value → World → Prop} (h : F_codec_read_codec_Header a0 a1 a2 a3 w k) : wCall P n_codec_read_codec_Header [a0, a1, a2, a3] w k :=
  call_of_den mixedP Try.func175 (by kernel_rfl) (.s .z (.s .z (.s .z (.s (.s (.r (.ops [0, 1, 2] (.grp 2 false 27 [25, 26] (.ops [3, 4, 5] .nil) (.ops [6] .nil)))) .z) (.s .z (.s (.s .z (.s (.r (.ops [0, 1, 2, 3, 4] (.grp 4 false 48 [42, 43, 44, 45, 46, 47] (.ops [5, 6, 7, 8, 9, 10, 11] .nil) (.ops [12, 13] (.grp 13 false 54 [51, 52, 53] (.ops [14, 15, 16, 17] .nil) (.ops [18] .nil)))))) .z)) .z)))))) (by kernel_rfl) (Eq.mp (by kernel_rfl) h)

def F_codec_among (a0 a1 a2 : Value) (w : World) (k : Value → World → Prop) : Prop :=
  wBin P .geq T_int a0 a1 w fun t9 w =>
  wGrp t9 true (fun k13 =>
    wBin P .leq T_int a0 a2 w fun t13 w =>
    k13 t13 w) w fun _ t13 w =>
  wPick t9 t13 (.bool false) w fun t14 w =>
  k t14 w

theorem call_codec_among (a0 a1 a2 : Value) {w : World} {k : Value → World → Prop} (h : F_codec_among a0 a1 a2 w k) : wCall P n_codec_among [a0, a1, a2] w k :=
  call_of_den mixedP Try.func178 (by kernel_rfl) (.s .z (.s (.r (.ops [0, 1, 2, 3] (.grp 3 true 13 [11, 12] (.ops [4, 5, 6] .nil) (.ops [7, 8] .nil)))) .z)) (by kernel_rfl) (Eq.mp (by kernel_rfl) h)

def F_codec_write_LLcodec_Slot (a0 a1 a2 a3 : Value) (w : World) (k : Value → World → Prop) : Prop :=
  wBox P T_Lcodec_Slot a1 w fun t5 w =>
  wAlloc P T_api_Sector w fun t8 w =>
  wBuild P T_codec_writer [] w fun t11 w =>
  wBox P T_codec_writer t11 w fun t12 w =>
  wLoad P T_Lcodec_Slot t5 w fun t14 w =>
  wCallV P a3 [t14] w fun t15 w =>
  wUn P .not t15 w fun t16 w =>
  wIf t16 (
    wBuild P T_api_Sector [] w fun t17 w =>
    wStore P T_api_Sector t8 t17 w fun w =>
    wRes P T_api_Sector t8 w fun r8 =>
    k (.tuple #[r8, (.int .i64 1)]) w) (
    wIface P T_pcodec_writer t12 w fun t20 w =>
    wCallV P a2 [t20, t5] w fun _ w =>
    wNil P t12 w fun t23 w =>
    wFieldA P T_codec_writer t23 1 w fun t24 w =>
    wLoad P T_bool t24 w fun t25 w =>
    wIf t25 (
      wBuild P T_api_Sector [] w fun t26 w =>
      wStore P T_api_Sector t8 t26 w fun w =>
      wRes P T_api_Sector t8 w fun r8 =>
      k (.tuple #[r8, (.int .i64 1)]) w) (
      wNil P t12 w fun t29 w =>
      wFieldA P T_codec_writer t29 0 w fun t30 w =>
      wLoad P T_Luint8 t30 w fun t31 w =>
      wCall P n_seal_Make [a0, t31] w fun t32 w =>
      wExtract P t32 0 w fun t33 w =>
      wExtract P t32 1 w fun t34 w =>
      wStore P T_api_Sector t8 t33 w fun w =>
      wRes P T_api_Sector t8 w fun r8 =>
      k (.tuple #[r8, t34]) w))

theorem call_codec_write_LLcodec_Slot (a0 a1 a2 a3 : Value) {w : World} {k : Value → World → Prop} (h : F_codec_write_LLcodec_Slot a0 a1 a2 a3 w k) : wCall P n_codec_write_LLcodec_Slot [a0, a1, a2, a3] w k :=
  call_of_den mixedP Try.func183 (by kernel_rfl) .z (by kernel_rfl) (Eq.mp (by kernel_rfl) h)

def F_codec_passSlots (a0 a1 : Value) (w : World) (k : Value → World → Prop) : Prop :=
  wCall P n_codec_list_codec_Slot [a0, a1, (.func (.func n_codec_passSlot) #[] #[])] w fun _ w =>
  k (.tuple #[]) w

theorem call_codec_passSlots (a0 a1 : Value) {w : World} {k : Value → World → Prop} (h : F_codec_passSlots a0 a1 w k) : wCall P n_codec_passSlots [a0, a1] w k :=
  call_of_den mixedP Try.func184 (by kernel_rfl) .z (by kernel_rfl) (Eq.mp (by kernel_rfl) h)

def F_codec_maySlots (a0 : Value) (w : World) (k : Value → World → Prop) : Prop :=
  wCall P n_codec_each_codec_Slot [(.int .i64 10), (.func (.func n_codec_maySlots_c1) #[] #[])] w fun t3 w =>
  wCallV P t3 [a0] w fun t5 w =>
  k t5 w

theorem call_codec_maySlots (a0 : Value) {w : World} {k : Value → World → Prop} (h : F_codec_maySlots a0 w k) : wCall P n_codec_maySlots [a0] w k :=
  call_of_den mixedP Try.func185 (by kernel_rfl) .z (by kernel_rfl) (Eq.mp (by kernel_rfl) h)

def F_codec_read_LLcodec_Slot (a0 a1 a2 a3 : Value) (w : World) (k : Value → World → Prop) : Prop :=
  wBox P T_api_Sector a1 w fun t5 w =>
  wAlloc P T_Lcodec_Slot w fun t10 w =>
  wLoad P T_api_Sector t5 w fun t17 w =>
  wCall P n_seal_Open [t17] w fun t18 w =>
  wExtract P t18 0 w fun t19 w =>
  wExtract P t18 1 w fun t20 w =>
  wExtract P t18 2 w fun t21 w =>
  wBin P .neq T_api_Errno t21 (.int .i64 0) w fun t23 w =>
  wGrp t23 false (fun k27 =>
    wBin P .neq T_uint8 t19 a0 w fun t27 w =>
    k27 t27 w) w fun _ t27 w =>
  wPick t23 (.bool true) t27 w fun t28 w =>
  wIf t28 (
    k (.tuple #[(.slice none 0 0), (.int .i64 21)]) w) (
    wBuild P T_codec_reader [(0, t20)] w fun t31 w =>
    wBox P T_codec_reader t31 w fun t32 w =>
    wIface P T_pcodec_reader t32 w fun t35 w =>
    wCallV P a2 [t35, t10] w fun _ w =>
    wNil P t32 w fun t38 w =>
    wFieldA P T_codec_reader t38 2 w fun t39 w =>
    wLoad P T_bool t39 w fun t40 w =>
    wGrp t40 false (fun k48 =>
      wNil P t32 w fun t43 w =>
      wFieldA P T_codec_reader t43 1 w fun t44 w =>
      wLoad P T_int t44 w fun t45 w =>
      wLen P .len #[T_Luint8] [t20] w fun t47 w =>
      wBin P .neq T_int t45 t47 w fun t48 w =>
      k48 t48 w) w fun _ t48 w =>
    wPick t40 (.bool true) t48 w fun t49 w =>
    wGrp t49 false (fun k54 =>
      wLoad P T_Lcodec_Slot t10 w fun t52 w =>
      wCallV P a3 [t52] w fun t53 w =>
      wUn P .not t53 w fun t54 w =>
      k54 t54 w) w fun _ t54 w =>
    wPick t49 (.bool true) t54 w fun t55 w =>
    wIf t55 (
      k (.tuple #[(.slice none 0 0), (.int .i64 21)]) w) (
      wLoad P T_Lcodec_Slot t10 w fun t57 w =>
      k (.tuple #[t57, (.int .i64 0)]) w))

theorem call_codec_read_LLcodec_Slot (a0 a1 a2 a3 : Value) {w : World} {k : Value → World → Prop} (h : F_codec_read_LLcodec_Slot a0 a1 a2 a3 w k) : wCall P n_codec_read_LLcodec_Slot [a0, a1, a2, a3] w k :=
  call_of_den mixedP Try.func186 (by kernel_rfl) (.s .z (.s .z (.s .z (.s (.s (.r (.ops [0, 1, 2] (.grp 2 false 27 [25, 26] (.ops [3, 4, 5] .nil) (.ops [6] .nil)))) .z) (.s .z (.s (.s .z (.s (.r (.ops [0, 1, 2, 3, 4] (.grp 4 false 48 [42, 43, 44, 45, 46, 47] (.ops [5, 6, 7, 8, 9, 10, 11] .nil) (.ops [12, 13] (.grp 13 false 54 [51, 52, 53] (.ops [14, 15, 16, 17] .nil) (.ops [18] .nil)))))) .z)) .z)))))) (by kernel_rfl) (Eq.mp (by kernel_rfl) h)

def F_codec_write_LLcodec_Record (a0 a1 a2 a3 : Value) (w : World) (k : Value → World → Prop) : Prop :=
  wBox P T_Lcodec_Record a1 w fun t5 w =>
  wAlloc P T_api_Sector w fun t8 w =>
  wBuild P T_codec_writer [] w fun t11 w =>
  wBox P T_codec_writer t11 w fun t12 w =>
  wLoad P T_Lcodec_Record t5 w fun t14 w =>
  wCallV P a3 [t14] w fun t15 w =>
  wUn P .not t15 w fun t16 w =>
  wIf t16 (
    wBuild P T_api_Sector [] w fun t17 w =>
    wStore P T_api_Sector t8 t17 w fun w =>
    wRes P T_api_Sector t8 w fun r8 =>
    k (.tuple #[r8, (.int .i64 1)]) w) (
    wIface P T_pcodec_writer t12 w fun t20 w =>
    wCallV P a2 [t20, t5] w fun _ w =>
    wNil P t12 w fun t23 w =>
    wFieldA P T_codec_writer t23 1 w fun t24 w =>
    wLoad P T_bool t24 w fun t25 w =>
    wIf t25 (
      wBuild P T_api_Sector [] w fun t26 w =>
      wStore P T_api_Sector t8 t26 w fun w =>
      wRes P T_api_Sector t8 w fun r8 =>
      k (.tuple #[r8, (.int .i64 1)]) w) (
      wNil P t12 w fun t29 w =>
      wFieldA P T_codec_writer t29 0 w fun t30 w =>
      wLoad P T_Luint8 t30 w fun t31 w =>
      wCall P n_seal_Make [a0, t31] w fun t32 w =>
      wExtract P t32 0 w fun t33 w =>
      wExtract P t32 1 w fun t34 w =>
      wStore P T_api_Sector t8 t33 w fun w =>
      wRes P T_api_Sector t8 w fun r8 =>
      k (.tuple #[r8, t34]) w))

theorem call_codec_write_LLcodec_Record (a0 a1 a2 a3 : Value) {w : World} {k : Value → World → Prop} (h : F_codec_write_LLcodec_Record a0 a1 a2 a3 w k) : wCall P n_codec_write_LLcodec_Record [a0, a1, a2, a3] w k :=
  call_of_den mixedP Try.func187 (by kernel_rfl) .z (by kernel_rfl) (Eq.mp (by kernel_rfl) h)

def F_codec_passRecords (a0 a1 : Value) (w : World) (k : Value → World → Prop) : Prop :=
  wCall P n_codec_list_codec_Record [a0, a1, (.func (.func n_codec_passRecord) #[] #[])] w fun _ w =>
  k (.tuple #[]) w

theorem call_codec_passRecords (a0 a1 : Value) {w : World} {k : Value → World → Prop} (h : F_codec_passRecords a0 a1 w k) : wCall P n_codec_passRecords [a0, a1] w k :=
  call_of_den mixedP Try.func188 (by kernel_rfl) .z (by kernel_rfl) (Eq.mp (by kernel_rfl) h)

def F_codec_mayRecords (a0 : Value) (w : World) (k : Value → World → Prop) : Prop :=
  wCall P n_codec_each_codec_Record [(.int .i64 13), (.func (.func n_codec_mayRecords_c1) #[] #[])] w fun t3 w =>
  wCallV P t3 [a0] w fun t5 w =>
  k t5 w

theorem call_codec_mayRecords (a0 : Value) {w : World} {k : Value → World → Prop} (h : F_codec_mayRecords a0 w k) : wCall P n_codec_mayRecords [a0] w k :=
  call_of_den mixedP Try.func189 (by kernel_rfl) .z (by kernel_rfl) (Eq.mp (by kernel_rfl) h)

def F_codec_read_LLcodec_Record (a0 a1 a2 a3 : Value) (w : World) (k : Value → World → Prop) : Prop :=
  wBox P T_api_Sector a1 w fun t5 w =>
  wAlloc P T_Lcodec_Record w fun t10 w =>
  wLoad P T_api_Sector t5 w fun t17 w =>
  wCall P n_seal_Open [t17] w fun t18 w =>
  wExtract P t18 0 w fun t19 w =>
  wExtract P t18 1 w fun t20 w =>
  wExtract P t18 2 w fun t21 w =>
  wBin P .neq T_api_Errno t21 (.int .i64 0) w fun t23 w =>
  wGrp t23 false (fun k27 =>
    wBin P .neq T_uint8 t19 a0 w fun t27 w =>
    k27 t27 w) w fun _ t27 w =>
  wPick t23 (.bool true) t27 w fun t28 w =>
  wIf t28 (
    k (.tuple #[(.slice none 0 0), (.int .i64 21)]) w) (
    wBuild P T_codec_reader [(0, t20)] w fun t31 w =>
    wBox P T_codec_reader t31 w fun t32 w =>
    wIface P T_pcodec_reader t32 w fun t35 w =>
    wCallV P a2 [t35, t10] w fun _ w =>
    wNil P t32 w fun t38 w =>
    wFieldA P T_codec_reader t38 2 w fun t39 w =>
    wLoad P T_bool t39 w fun t40 w =>
    wGrp t40 false (fun k48 =>
      wNil P t32 w fun t43 w =>
      wFieldA P T_codec_reader t43 1 w fun t44 w =>
      wLoad P T_int t44 w fun t45 w =>
      wLen P .len #[T_Luint8] [t20] w fun t47 w =>
      wBin P .neq T_int t45 t47 w fun t48 w =>
      k48 t48 w) w fun _ t48 w =>
    wPick t40 (.bool true) t48 w fun t49 w =>
    wGrp t49 false (fun k54 =>
      wLoad P T_Lcodec_Record t10 w fun t52 w =>
      wCallV P a3 [t52] w fun t53 w =>
      wUn P .not t53 w fun t54 w =>
      k54 t54 w) w fun _ t54 w =>
    wPick t49 (.bool true) t54 w fun t55 w =>
    wIf t55 (
      k (.tuple #[(.slice none 0 0), (.int .i64 21)]) w) (
      wLoad P T_Lcodec_Record t10 w fun t57 w =>
      k (.tuple #[t57, (.int .i64 0)]) w))

theorem call_codec_read_LLcodec_Record (a0 a1 a2 a3 : Value) {w : World} {k : Value → World → Prop} (h : F_codec_read_LLcodec_Record a0 a1 a2 a3 w k) : wCall P n_codec_read_LLcodec_Record [a0, a1, a2, a3] w k :=
  call_of_den mixedP Try.func190 (by kernel_rfl) (.s .z (.s .z (.s .z (.s (.s (.r (.ops [0, 1, 2] (.grp 2 false 27 [25, 26] (.ops [3, 4, 5] .nil) (.ops [6] .nil)))) .z) (.s .z (.s (.s .z (.s (.r (.ops [0, 1, 2, 3, 4] (.grp 4 false 48 [42, 43, 44, 45, 46, 47] (.ops [5, 6, 7, 8, 9, 10, 11] .nil) (.ops [12, 13] (.grp 13 false 54 [51, 52, 53] (.ops [14, 15, 16, 17] .nil) (.ops [18] .nil)))))) .z)) .z)))))) (by kernel_rfl) (Eq.mp (by kernel_rfl) h)

def F_codec_write_codec_Summary (a0 a1 a2 a3 : Value) (w : World) (k : Value → World → Prop) : Prop :=
  wBox P T_codec_Summary a1 w fun t5 w =>
  wAlloc P T_api_Sector w fun t8 w =>
  wBuild P T_codec_writer [] w fun t11 w =>
  wBox P T_codec_writer t11 w fun t12 w =>
  wLoad P T_codec_Summary t5 w fun t14 w =>
  wCallV P a3 [t14] w fun t15 w =>
  wUn P .not t15 w fun t16 w =>
  wIf t16 (
    wBuild P T_api_Sector [] w fun t17 w =>
    wStore P T_api_Sector t8 t17 w fun w =>
    wRes P T_api_Sector t8 w fun r8 =>
    k (.tuple #[r8, (.int .i64 1)]) w) (
    wIface P T_pcodec_writer t12 w fun t20 w =>
    wCallV P a2 [t20, t5] w fun _ w =>
    wNil P t12 w fun t23 w =>
    wFieldA P T_codec_writer t23 1 w fun t24 w =>
    wLoad P T_bool t24 w fun t25 w =>
    wIf t25 (
      wBuild P T_api_Sector [] w fun t26 w =>
      wStore P T_api_Sector t8 t26 w fun w =>
      wRes P T_api_Sector t8 w fun r8 =>
      k (.tuple #[r8, (.int .i64 1)]) w) (
      wNil P t12 w fun t29 w =>
      wFieldA P T_codec_writer t29 0 w fun t30 w =>
      wLoad P T_Luint8 t30 w fun t31 w =>
      wCall P n_seal_Make [a0, t31] w fun t32 w =>
      wExtract P t32 0 w fun t33 w =>
      wExtract P t32 1 w fun t34 w =>
      wStore P T_api_Sector t8 t33 w fun w =>
      wRes P T_api_Sector t8 w fun r8 =>
      k (.tuple #[r8, t34]) w))

theorem call_codec_write_codec_Summary (a0 a1 a2 a3 : Value) {w : World} {k : Value → World → Prop} (h : F_codec_write_codec_Summary a0 a1 a2 a3 w k) : wCall P n_codec_write_codec_Summary [a0, a1, a2, a3] w k :=
  call_of_den mixedP Try.func191 (by kernel_rfl) .z (by kernel_rfl) (Eq.mp (by kernel_rfl) h)

def F_codec_passSummary (a0 a1 : Value) (w : World) (k : Value → World → Prop) : Prop :=
  wDraw w fun w =>
  wNil P a1 w fun t7 w =>
  wFieldA P T_codec_Summary t7 0 w fun t8 w =>
  wFunc P (.method "drumlin/codec.wide") [a0] [] w fun t9 w =>
  wNil P t9 w fun _ w =>
  wInvoke P a0 "drumlin/codec.wide" [(.int .i64 8), t8] w fun _ w =>
  wDraw w fun w =>
  wNil P a1 w fun t15 w =>
  wFieldA P T_codec_Summary t15 1 w fun t16 w =>
  wFunc P (.method "drumlin/codec.wide") [a0] [] w fun t17 w =>
  wNil P t17 w fun _ w =>
  wInvoke P a0 "drumlin/codec.wide" [(.int .i64 8), t16] w fun _ w =>
  wNil P a1 w fun t23 w =>
  wFieldA P T_codec_Summary t23 2 w fun t24 w =>
  wCall P n_codec_flag [a0, t24] w fun _ w =>
  wNil P a1 w fun t27 w =>
  wFieldA P T_codec_Summary t27 5 w fun t28 w =>
  wLoad P T_Lcodec_Entry t28 w fun t29 w =>
  wLen P .len #[T_Lcodec_Entry] [t29] w fun t30 w =>
  wAlloc P T_int w fun t4 w =>
  wStore P T_int t4 t30 w fun w =>
  wInvoke P a0 "drumlin/codec.int" [(.int .i64 1), t4] w fun _ w =>
  wDraw w fun w =>
  wNil P a1 w fun t35 w =>
  wFieldA P T_codec_Summary t35 3 w fun t36 w =>
  wFunc P (.method "drumlin/codec.int") [a0] [] w fun t37 w =>
  wNil P t37 w fun _ w =>
  wInvoke P a0 "drumlin/codec.int" [(.int .i64 2), t36] w fun _ w =>
  wDraw w fun w =>
  wNil P a1 w fun t43 w =>
  wFieldA P T_codec_Summary t43 4 w fun t44 w =>
  wFunc P (.method "drumlin/codec.word") [a0] [] w fun t45 w =>
  wNil P t45 w fun _ w =>
  wInvoke P a0 "drumlin/codec.word" [(.int .i64 4), t44] w fun _ w =>
  wNil P a1 w fun t51 w =>
  wFieldA P T_codec_Summary t51 5 w fun t52 w =>
  wCall P n_codec_list_codec_Entry [a0, t52, (.func (.func n_codec_passEntry) #[] #[])] w fun _ w =>
  k (.tuple #[]) w

theorem call_codec_passSummary (a0 a1 : Value) {w : World} {k : Value → World → Prop} (h : F_codec_passSummary a0 a1 w k) : wCall P n_codec_passSummary [a0, a1] w k :=
  call_of_den mixedP Try.func192 (by kernel_rfl) (.s (.r (.ops [0, 1, 2, 3] (.eff 4 [] (.ops [5, 6] (.eff 7 [] .nil))))) (.s (.r (.ops [0, 1, 2, 3] (.eff 4 [] (.ops [5, 6] (.eff 7 [] .nil))))) (.s .z (.s .z (.s .z (.s (.r (.ops [0, 1, 2, 3] (.eff 4 [] (.ops [5, 6] (.eff 7 [] .nil))))) (.s (.r (.ops [0, 1, 2, 3] (.eff 4 [] (.ops [5, 6] (.eff 7 [] .nil))))) .z))))))) (by kernel_rfl) (Eq.mp (by kernel_rfl) h)

def F_codec_maySummary (a0 : Value) (w : World) (k : Value → World → Prop) : Prop :=
  wBox P T_codec_Summary a0 w fun t1 w =>
  wDraw w fun w =>
  wFieldA P T_codec_Summary t1 5 w fun t4 w =>
  wLoad P T_Lcodec_Entry t4 w fun t5 w =>
  wCall P n_codec_each_codec_Entry [(.int .i64 8), (.func (.func n_codec_maySummary_c1) #[] #[])] w fun t3 w =>
  wKeep P [(T_Lcodec_Entry, t4, t5)] w ∧ wCallV P t3 [t5] w fun t6 w =>
  k t6 w

theorem call_codec_maySummary (a0 : Value) {w : World} {k : Value → World → Prop} (h : F_codec_maySummary a0 w k) : wCall P n_codec_maySummary [a0] w k :=
  call_of_den mixedP Try.func193 (by kernel_rfl) (.s .z (.s (.r (.ops [1, 2] (.eff 0 [2] (.eff 3 [] (.ops [4] .nil))))) .z)) (by kernel_rfl) (Eq.mp (by kernel_rfl) h)

def F_codec_read_codec_Summary (a0 a1 a2 a3 : Value) (w : World) (k : Value → World → Prop) : Prop :=
  wBox P T_api_Sector a1 w fun t5 w =>
  wAlloc P T_codec_Summary w fun t8 w =>
  wAlloc P T_codec_Summary w fun t10 w =>
  wAlloc P T_codec_Summary w fun t11 w =>
  wLoad P T_api_Sector t5 w fun t17 w =>
  wCall P n_seal_Open [t17] w fun t18 w =>
  wExtract P t18 0 w fun t19 w =>
  wExtract P t18 1 w fun t20 w =>
  wExtract P t18 2 w fun t21 w =>
  wBin P .neq T_api_Errno t21 (.int .i64 0) w fun t23 w =>
  wGrp t23 false (fun k27 =>
    wBin P .neq T_uint8 t19 a0 w fun t27 w =>
    k27 t27 w) w fun _ t27 w =>
  wPick t23 (.bool true) t27 w fun t28 w =>
  wIf t28 (
    wLoad P T_codec_Summary t11 w fun t29 w =>
    wStore P T_codec_Summary t8 t29 w fun w =>
    wRes P T_codec_Summary t8 w fun r8 =>
    k (.tuple #[r8, (.int .i64 21)]) w) (
    wBuild P T_codec_reader [(0, t20)] w fun t31 w =>
    wBox P T_codec_reader t31 w fun t32 w =>
    wIface P T_pcodec_reader t32 w fun t35 w =>
    wCallV P a2 [t35, t10] w fun _ w =>
    wNil P t32 w fun t38 w =>
    wFieldA P T_codec_reader t38 2 w fun t39 w =>
    wLoad P T_bool t39 w fun t40 w =>
    wGrp t40 false (fun k48 =>
      wNil P t32 w fun t43 w =>
      wFieldA P T_codec_reader t43 1 w fun t44 w =>
      wLoad P T_int t44 w fun t45 w =>
      wLen P .len #[T_Luint8] [t20] w fun t47 w =>
      wBin P .neq T_int t45 t47 w fun t48 w =>
      k48 t48 w) w fun _ t48 w =>
    wPick t40 (.bool true) t48 w fun t49 w =>
    wGrp t49 false (fun k54 =>
      wLoad P T_codec_Summary t10 w fun t52 w =>
      wCallV P a3 [t52] w fun t53 w =>
      wUn P .not t53 w fun t54 w =>
      k54 t54 w) w fun _ t54 w =>
    wPick t49 (.bool true) t54 w fun t55 w =>
    wIf t55 (
      wLoad P T_codec_Summary t11 w fun t56 w =>
      wStore P T_codec_Summary t8 t56 w fun w =>
      wRes P T_codec_Summary t8 w fun r8 =>
      k (.tuple #[r8, (.int .i64 21)]) w) (
      wLoad P T_codec_Summary t10 w fun t57 w =>
      wStore P T_codec_Summary t8 t57 w fun w =>
      wRes P T_codec_Summary t8 w fun r8 =>
      k (.tuple #[r8, (.int .i64 0)]) w))

theorem call_codec_read_codec_Summary (a0 a1 a2 a3 : Value) {w : World} {k : Value → World → Prop} (h : F_codec_read_codec_Summary a0 a1 a2 a3 w k) : wCall P n_codec_read_codec_Summary [a0, a1, a2, a3] w k :=
  call_of_den mixedP Try.func194 (by kernel_rfl) (.s .z (.s .z (.s .z (.s (.s (.r (.ops [0, 1, 2] (.grp 2 false 27 [25, 26] (.ops [3, 4, 5] .nil) (.ops [6] .nil)))) .z) (.s .z (.s (.s .z (.s (.r (.ops [0, 1, 2, 3, 4] (.grp 4 false 48 [42, 43, 44, 45, 46, 47] (.ops [5, 6, 7, 8, 9, 10, 11] .nil) (.ops [12, 13] (.grp 13 false 54 [51, 52, 53] (.ops [14, 15, 16, 17] .nil) (.ops [18] .nil)))))) .z)) .z)))))) (by kernel_rfl) (Eq.mp (by kernel_rfl) h)

def F_codec_list_codec_Use (a0 a1 a2 : Value) (w : World) (k : Value → World → Prop) : Prop :=
  wJ0 (fun k1 =>
    wNil P a1 w fun t9 w =>
    wLoad P T_Lcodec_Use t9 w fun t10 w =>
    wLen P .len #[T_Lcodec_Use] [t10] w fun t11 w =>
    wL1 (.int .i64 0) w (fun _ v12 w k2 =>
      wBin P .lss T_int v12 t11 w fun t13 w =>
      wIf t13 (
        wNil P a1 w fun t18 w =>
        wLoad P T_Lcodec_Use t18 w fun t19 w =>
        wIndexA P T_Lcodec_Use t19 v12 w fun t21 w =>
        wCallV P a2 [a0, t21] w fun _ w =>
        wBin P .add T_int v12 (.int .i64 1) w fun t23 w =>
        k2 t23 w) (
        k1 w))) fun _ w =>
  wL0 w (fun _ w k1 =>
    wInvoke P a0 "drumlin/codec.more" [] w fun t25 w =>
    wIf t25 (
      wAlloc P T_codec_Use w fun t7 w =>
      wCallV P a2 [a0, t7] w fun _ w =>
      wDraw w fun w =>
      wNil P a1 w fun t31 w =>
      wLoad P T_Lcodec_Use t31 w fun t32 w =>
      wLoad P T_codec_Use t7 w fun t33 w =>
      wBuildS P T_Lcodec_Use 1 [(0, t33)] w fun t34 w =>
      wKeep P [(T_Lcodec_Use, t31, t32)] w ∧ wBuiltin P .append #[T_Lcodec_Use, T_Lcodec_Use] [t32, t34] w fun t35 w =>
      wNil P a1 w fun t36 w =>
      wStore P T_Lcodec_Use t36 t35 w fun w =>
      k1 w) (
      k (.tuple #[]) w))

theorem call_codec_list_codec_Use (a0 a1 a2 : Value) {w : World} {k : Value → World → Prop} (h : F_codec_list_codec_Use a0 a1 a2 w k) : wCall P n_codec_list_codec_Use [a0, a1, a2] w k :=
  call_of_den mixedP Try.func236 (by kernel_rfl) (.j [] [0, 1, 2] (.s .z (.b (.l [12] [0, 1, 2, 11] .z))) (.b (.l [] [0, 1, 2] (.s .z (.b (.s .z (.s .z (.r (.ops [0, 1, 2, 3, 4] (.eff 5 [3] (.eff 6 [] (.ops [7] (.eff 8 [] .nil))))))))))))) (by kernel_rfl) (Eq.mp (by kernel_rfl) h)

def F_codec_passUse (a0 a1 : Value) (w : World) (k : Value → World → Prop) : Prop :=
  wDraw w fun w =>
  wNil P a1 w fun t6 w =>
  wFieldA P T_codec_Use t6 0 w fun t7 w =>
  wFunc P (.method "drumlin/codec.int") [a0] [] w fun t8 w =>
  wNil P t8 w fun _ w =>
  wInvoke P a0 "drumlin/codec.int" [(.int .i64 2), t7] w fun _ w =>
  wDraw w fun w =>
  wNil P a1 w fun t14 w =>
  wFieldA P T_codec_Use t14 1 w fun t15 w =>
  wFunc P (.method "drumlin/codec.int") [a0] [] w fun t16 w =>
  wNil P t16 w fun _ w =>
  wInvoke P a0 "drumlin/codec.int" [(.int .i64 1), t15] w fun _ w =>
  wDraw w fun w =>
  wNil P a1 w fun t22 w =>
  wFieldA P T_codec_Use t22 2 w fun t23 w =>
  wFunc P (.method "drumlin/codec.word") [a0] [] w fun t24 w =>
  wNil P t24 w fun _ w =>
  wInvoke P a0 "drumlin/codec.word" [(.int .i64 4), t23] w fun _ w =>
  k (.tuple #[]) w

theorem call_codec_passUse (a0 a1 : Value) {w : World} {k : Value → World → Prop} (h : F_codec_passUse a0 a1 w k) : wCall P n_codec_passUse [a0, a1] w k :=
  call_of_den mixedP Try.func237 (by kernel_rfl) (.s (.r (.ops [0, 1, 2, 3] (.eff 4 [] (.ops [5, 6] (.eff 7 [] .nil))))) (.s (.r (.ops [0, 1, 2, 3] (.eff 4 [] (.ops [5, 6] (.eff 7 [] .nil))))) (.r (.ops [0, 1, 2, 3] (.eff 4 [] (.ops [5, 6] (.eff 7 [] .nil))))))) (by kernel_rfl) (Eq.mp (by kernel_rfl) h)

def F_codec_each_codec_Use (a0 a1 : Value) (w : World) (k : Value → World → Prop) : Prop :=
  wBox P T_int a0 w fun t2 w =>
  wBox P T_func_codec_Use__bool a1 w fun t3 w =>
  wFunc P (.func n_codec_each_codec_Use_c1) [] [t3, t2] w fun t5 w =>
  k t5 w

theorem call_codec_each_codec_Use (a0 a1 : Value) {w : World} {k : Value → World → Prop} (h : F_codec_each_codec_Use a0 a1 w k) : wCall P n_codec_each_codec_Use [a0, a1] w k :=
  call_of_den mixedP Try.func238 (by kernel_rfl) .z (by kernel_rfl) (Eq.mp (by kernel_rfl) h)

def F_codec_mayUses_c1 (a0 : Value) (w : World) (k : Value → World → Prop) : Prop :=
  wBox P T_codec_Use a0 w fun t1 w =>
  wFieldA P T_codec_Use t1 1 w fun t3 w =>
  wLoad P T_int t3 w fun t4 w =>
  wCall P n_codec_among [t4, (.int .i64 0), (.int .i64 3)] w fun t5 w =>
  k t5 w

theorem call_codec_mayUses_c1 (a0 : Value) {w : World} {k : Value → World → Prop} (h : F_codec_mayUses_c1 a0 w k) : wCall P n_codec_mayUses_c1 [a0] w k :=
  call_of_den mixedP Try.func239 (by kernel_rfl) .z (by kernel_rfl) (Eq.mp (by kernel_rfl) h)

def F_codec_list_codec_Slot (a0 a1 a2 : Value) (w : World) (k : Value → World → Prop) : Prop :=
  wJ0 (fun k1 =>
    wNil P a1 w fun t9 w =>
    wLoad P T_Lcodec_Slot t9 w fun t10 w =>
    wLen P .len #[T_Lcodec_Slot] [t10] w fun t11 w =>
    wL1 (.int .i64 0) w (fun _ v12 w k2 =>
      wBin P .lss T_int v12 t11 w fun t13 w =>
      wIf t13 (
        wNil P a1 w fun t18 w =>
        wLoad P T_Lcodec_Slot t18 w fun t19 w =>
        wIndexA P T_Lcodec_Slot t19 v12 w fun t21 w =>
        wCallV P a2 [a0, t21] w fun _ w =>
        wBin P .add T_int v12 (.int .i64 1) w fun t23 w =>
        k2 t23 w) (
        k1 w))) fun _ w =>
  wL0 w (fun _ w k1 =>
    wInvoke P a0 "drumlin/codec.more" [] w fun t25 w =>
    wIf t25 (
      wAlloc P T_codec_Slot w fun t7 w =>
      wCallV P a2 [a0, t7] w fun _ w =>
      wDraw w fun w =>
      wNil P a1 w fun t31 w =>
      wLoad P T_Lcodec_Slot t31 w fun t32 w =>
      wLoad P T_codec_Slot t7 w fun t33 w =>
      wBuildS P T_Lcodec_Slot 1 [(0, t33)] w fun t34 w =>
      wKeep P [(T_Lcodec_Slot, t31, t32)] w ∧ wBuiltin P .append #[T_Lcodec_Slot, T_Lcodec_Slot] [t32, t34] w fun t35 w =>
      wNil P a1 w fun t36 w =>
      wStore P T_Lcodec_Slot t36 t35 w fun w =>
      k1 w) (
      k (.tuple #[]) w))

theorem call_codec_list_codec_Slot (a0 a1 a2 : Value) {w : World} {k : Value → World → Prop} (h : F_codec_list_codec_Slot a0 a1 a2 w k) : wCall P n_codec_list_codec_Slot [a0, a1, a2] w k :=
  call_of_den mixedP Try.func246 (by kernel_rfl) (.j [] [0, 1, 2] (.s .z (.b (.l [12] [0, 1, 2, 11] .z))) (.b (.l [] [0, 1, 2] (.s .z (.b (.s .z (.s .z (.r (.ops [0, 1, 2, 3, 4] (.eff 5 [3] (.eff 6 [] (.ops [7] (.eff 8 [] .nil))))))))))))) (by kernel_rfl) (Eq.mp (by kernel_rfl) h)

def F_codec_passSlot (a0 a1 : Value) (w : World) (k : Value → World → Prop) : Prop :=
  wDraw w fun w =>
  wNil P a1 w fun t6 w =>
  wFieldA P T_codec_Slot t6 0 w fun t7 w =>
  wFunc P (.method "drumlin/codec.int") [a0] [] w fun t8 w =>
  wNil P t8 w fun _ w =>
  wInvoke P a0 "drumlin/codec.int" [(.int .i64 4), t7] w fun _ w =>
  wDraw w fun w =>
  wNil P a1 w fun t14 w =>
  wFieldA P T_codec_Slot t14 1 w fun t15 w =>
  wFunc P (.method "drumlin/codec.word") [a0] [] w fun t16 w =>
  wNil P t16 w fun _ w =>
  wInvoke P a0 "drumlin/codec.word" [(.int .i64 4), t15] w fun _ w =>
  wDraw w fun w =>
  wNil P a1 w fun t22 w =>
  wFieldA P T_codec_Slot t22 2 w fun t23 w =>
  wFunc P (.method "drumlin/codec.int") [a0] [] w fun t24 w =>
  wNil P t24 w fun _ w =>
  wInvoke P a0 "drumlin/codec.int" [(.int .i64 2), t23] w fun _ w =>
  wDraw w fun w =>
  wNil P a1 w fun t30 w =>
  wFieldA P T_codec_Slot t30 3 w fun t31 w =>
  wFunc P (.method "drumlin/codec.int") [a0] [] w fun t32 w =>
  wNil P t32 w fun _ w =>
  wInvoke P a0 "drumlin/codec.int" [(.int .i64 1), t31] w fun _ w =>
  k (.tuple #[]) w

theorem call_codec_passSlot (a0 a1 : Value) {w : World} {k : Value → World → Prop} (h : F_codec_passSlot a0 a1 w k) : wCall P n_codec_passSlot [a0, a1] w k :=
  call_of_den mixedP Try.func247 (by kernel_rfl) (.s (.r (.ops [0, 1, 2, 3] (.eff 4 [] (.ops [5, 6] (.eff 7 [] .nil))))) (.s (.r (.ops [0, 1, 2, 3] (.eff 4 [] (.ops [5, 6] (.eff 7 [] .nil))))) (.s (.r (.ops [0, 1, 2, 3] (.eff 4 [] (.ops [5, 6] (.eff 7 [] .nil))))) (.r (.ops [0, 1, 2, 3] (.eff 4 [] (.ops [5, 6] (.eff 7 [] .nil)))))))) (by kernel_rfl) (Eq.mp (by kernel_rfl) h)

def F_codec_each_codec_Slot (a0 a1 : Value) (w : World) (k : Value → World → Prop) : Prop :=
  wBox P T_int a0 w fun t2 w =>
  wBox P T_func_codec_Slot__bool a1 w fun t3 w =>
  wFunc P (.func n_codec_each_codec_Slot_c1) [] [t3, t2] w fun t5 w =>
  k t5 w

theorem call_codec_each_codec_Slot (a0 a1 : Value) {w : World} {k : Value → World → Prop} (h : F_codec_each_codec_Slot a0 a1 w k) : wCall P n_codec_each_codec_Slot [a0, a1] w k :=
  call_of_den mixedP Try.func248 (by kernel_rfl) .z (by kernel_rfl) (Eq.mp (by kernel_rfl) h)

def F_codec_maySlots_c1 (a0 : Value) (w : World) (k : Value → World → Prop) : Prop :=
  wBox P T_codec_Slot a0 w fun t1 w =>
  wFieldA P T_codec_Slot t1 3 w fun t3 w =>
  wLoad P T_int t3 w fun t4 w =>
  wCall P n_codec_among [t4, (.int .i64 0), (.int .i64 2)] w fun t5 w =>
  k t5 w

theorem call_codec_maySlots_c1 (a0 : Value) {w : World} {k : Value → World → Prop} (h : F_codec_maySlots_c1 a0 w k) : wCall P n_codec_maySlots_c1 [a0] w k :=
  call_of_den mixedP Try.func249 (by kernel_rfl) .z (by kernel_rfl) (Eq.mp (by kernel_rfl) h)

def F_codec_list_codec_Record (a0 a1 a2 : Value) (w : World) (k : Value → World → Prop) : Prop :=
  wJ0 (fun k1 =>
    wNil P a1 w fun t9 w =>
    wLoad P T_Lcodec_Record t9 w fun t10 w =>
    wLen P .len #[T_Lcodec_Record] [t10] w fun t11 w =>
    wL1 (.int .i64 0) w (fun _ v12 w k2 =>
      wBin P .lss T_int v12 t11 w fun t13 w =>
      wIf t13 (
        wNil P a1 w fun t18 w =>
        wLoad P T_Lcodec_Record t18 w fun t19 w =>
        wIndexA P T_Lcodec_Record t19 v12 w fun t21 w =>
        wCallV P a2 [a0, t21] w fun _ w =>
        wBin P .add T_int v12 (.int .i64 1) w fun t23 w =>
        k2 t23 w) (
        k1 w))) fun _ w =>
  wL0 w (fun _ w k1 =>
    wInvoke P a0 "drumlin/codec.more" [] w fun t25 w =>
    wIf t25 (
      wAlloc P T_codec_Record w fun t7 w =>
      wCallV P a2 [a0, t7] w fun _ w =>
      wDraw w fun w =>
      wNil P a1 w fun t31 w =>
      wLoad P T_Lcodec_Record t31 w fun t32 w =>
      wLoad P T_codec_Record t7 w fun t33 w =>
      wBuildS P T_Lcodec_Record 1 [(0, t33)] w fun t34 w =>
      wKeep P [(T_Lcodec_Record, t31, t32)] w ∧ wBuiltin P .append #[T_Lcodec_Record, T_Lcodec_Record] [t32, t34] w fun t35 w =>
      wNil P a1 w fun t36 w =>
      wStore P T_Lcodec_Record t36 t35 w fun w =>
      k1 w) (
      k (.tuple #[]) w))

theorem call_codec_list_codec_Record (a0 a1 a2 : Value) {w : World} {k : Value → World → Prop} (h : F_codec_list_codec_Record a0 a1 a2 w k) : wCall P n_codec_list_codec_Record [a0, a1, a2] w k :=
  call_of_den mixedP Try.func250 (by kernel_rfl) (.j [] [0, 1, 2] (.s .z (.b (.l [12] [0, 1, 2, 11] .z))) (.b (.l [] [0, 1, 2] (.s .z (.b (.s .z (.s .z (.r (.ops [0, 1, 2, 3, 4] (.eff 5 [3] (.eff 6 [] (.ops [7] (.eff 8 [] .nil))))))))))))) (by kernel_rfl) (Eq.mp (by kernel_rfl) h)

def F_codec_passRecord (a0 a1 : Value) (w : World) (k : Value → World → Prop) : Prop :=
  wDraw w fun w =>
  wNil P a1 w fun t6 w =>
  wFieldA P T_codec_Record t6 0 w fun t7 w =>
  wFunc P (.method "drumlin/codec.word") [a0] [] w fun t8 w =>
  wNil P t8 w fun _ w =>
  wInvoke P a0 "drumlin/codec.word" [(.int .i64 2), t7] w fun _ w =>
  wDraw w fun w =>
  wNil P a1 w fun t14 w =>
  wFieldA P T_codec_Record t14 1 w fun t15 w =>
  wFunc P (.method "drumlin/codec.word") [a0] [] w fun t16 w =>
  wNil P t16 w fun _ w =>
  wInvoke P a0 "drumlin/codec.word" [(.int .i64 4), t15] w fun _ w =>
  wDraw w fun w =>
  wNil P a1 w fun t22 w =>
  wFieldA P T_codec_Record t22 2 w fun t23 w =>
  wFunc P (.method "drumlin/codec.int") [a0] [] w fun t24 w =>
  wNil P t24 w fun _ w =>
  wInvoke P a0 "drumlin/codec.int" [(.int .i64 2), t23] w fun _ w =>
  wDraw w fun w =>
  wNil P a1 w fun t30 w =>
  wFieldA P T_codec_Record t30 3 w fun t31 w =>
  wFunc P (.method "drumlin/codec.int") [a0] [] w fun t32 w =>
  wNil P t32 w fun _ w =>
  wInvoke P a0 "drumlin/codec.int" [(.int .i64 1), t31] w fun _ w =>
  k (.tuple #[]) w

theorem call_codec_passRecord (a0 a1 : Value) {w : World} {k : Value → World → Prop} (h : F_codec_passRecord a0 a1 w k) : wCall P n_codec_passRecord [a0, a1] w k :=
  call_of_den mixedP Try.func251 (by kernel_rfl) (.s (.r (.ops [0, 1, 2, 3] (.eff 4 [] (.ops [5, 6] (.eff 7 [] .nil))))) (.s (.r (.ops [0, 1, 2, 3] (.eff 4 [] (.ops [5, 6] (.eff 7 [] .nil))))) (.s (.r (.ops [0, 1, 2, 3] (.eff 4 [] (.ops [5, 6] (.eff 7 [] .nil))))) (.r (.ops [0, 1, 2, 3] (.eff 4 [] (.ops [5, 6] (.eff 7 [] .nil)))))))) (by kernel_rfl) (Eq.mp (by kernel_rfl) h)

def F_codec_each_codec_Record (a0 a1 : Value) (w : World) (k : Value → World → Prop) : Prop :=
  wBox P T_int a0 w fun t2 w =>
  wBox P T_func_codec_Record__bool a1 w fun t3 w =>
  wFunc P (.func n_codec_each_codec_Record_c1) [] [t3, t2] w fun t5 w =>
  k t5 w

theorem call_codec_each_codec_Record (a0 a1 : Value) {w : World} {k : Value → World → Prop} (h : F_codec_each_codec_Record a0 a1 w k) : wCall P n_codec_each_codec_Record [a0, a1] w k :=
  call_of_den mixedP Try.func252 (by kernel_rfl) .z (by kernel_rfl) (Eq.mp (by kernel_rfl) h)

def F_codec_mayRecords_c1 (a0 : Value) (w : World) (k : Value → World → Prop) : Prop :=
  wBox P T_codec_Record a0 w fun t1 w =>
  wFieldA P T_codec_Record t1 3 w fun t3 w =>
  wLoad P T_int t3 w fun t4 w =>
  wCall P n_codec_among [t4, (.int .i64 0), (.int .i64 2)] w fun t5 w =>
  k t5 w

theorem call_codec_mayRecords_c1 (a0 : Value) {w : World} {k : Value → World → Prop} (h : F_codec_mayRecords_c1 a0 w k) : wCall P n_codec_mayRecords_c1 [a0] w k :=
  call_of_den mixedP Try.func253 (by kernel_rfl) .z (by kernel_rfl) (Eq.mp (by kernel_rfl) h)

def F_codec_flag (a0 a1 : Value) (w : World) (k : Value → World → Prop) : Prop :=
  wAlloc P T_int w fun t4 w =>
  wStore P T_int t4 (.int .i64 0) w fun w =>
  wJ0 (fun k1 =>
    wNil P a1 w fun t6 w =>
    wLoad P T_bool t6 w fun t7 w =>
    wIf t7 (
      wStore P T_int t4 (.int .i64 1) w fun w =>
      k1 w) (
      k1 w)) fun _ w =>
  wInvoke P a0 "drumlin/codec.int" [(.int .i64 1), t4] w fun _ w =>
  wLoad P T_int t4 w fun t11 w =>
  wBin P .eql T_int t11 (.int .i64 1) w fun t12 w =>
  wNil P a1 w fun t13 w =>
  wStore P T_bool t13 t12 w fun w =>
  k (.tuple #[]) w

theorem call_codec_flag (a0 a1 : Value) {w : World} {k : Value → World → Prop} (h : F_codec_flag a0 a1 w k) : wCall P n_codec_flag [a0, a1] w k :=
  call_of_den mixedP Try.func254 (by kernel_rfl) (.s .z (.j [] [0, 1, 4] .z .z)) (by kernel_rfl) (Eq.mp (by kernel_rfl) h)

def F_codec_list_codec_Entry (a0 a1 a2 : Value) (w : World) (k : Value → World → Prop) : Prop :=
  wJ0 (fun k1 =>
    wNil P a1 w fun t9 w =>
    wLoad P T_Lcodec_Entry t9 w fun t10 w =>
    wLen P .len #[T_Lcodec_Entry] [t10] w fun t11 w =>
    wL1 (.int .i64 0) w (fun _ v12 w k2 =>
      wBin P .lss T_int v12 t11 w fun t13 w =>
      wIf t13 (
        wNil P a1 w fun t18 w =>
        wLoad P T_Lcodec_Entry t18 w fun t19 w =>
        wIndexA P T_Lcodec_Entry t19 v12 w fun t21 w =>
        wCallV P a2 [a0, t21] w fun _ w =>
        wBin P .add T_int v12 (.int .i64 1) w fun t23 w =>
        k2 t23 w) (
        k1 w))) fun _ w =>
  wL0 w (fun _ w k1 =>
    wInvoke P a0 "drumlin/codec.more" [] w fun t25 w =>
    wIf t25 (
      wAlloc P T_codec_Entry w fun t7 w =>
      wCallV P a2 [a0, t7] w fun _ w =>
      wDraw w fun w =>
      wNil P a1 w fun t31 w =>
      wLoad P T_Lcodec_Entry t31 w fun t32 w =>
      wLoad P T_codec_Entry t7 w fun t33 w =>
      wBuildS P T_Lcodec_Entry 1 [(0, t33)] w fun t34 w =>
      wKeep P [(T_Lcodec_Entry, t31, t32)] w ∧ wBuiltin P .append #[T_Lcodec_Entry, T_Lcodec_Entry] [t32, t34] w fun t35 w =>
      wNil P a1 w fun t36 w =>
      wStore P T_Lcodec_Entry t36 t35 w fun w =>
      k1 w) (
      k (.tuple #[]) w))

theorem call_codec_list_codec_Entry (a0 a1 a2 : Value) {w : World} {k : Value → World → Prop} (h : F_codec_list_codec_Entry a0 a1 a2 w k) : wCall P n_codec_list_codec_Entry [a0, a1, a2] w k :=
  call_of_den mixedP Try.func255 (by kernel_rfl) (.j [] [0, 1, 2] (.s .z (.b (.l [12] [0, 1, 2, 11] .z))) (.b (.l [] [0, 1, 2] (.s .z (.b (.s .z (.s .z (.r (.ops [0, 1, 2, 3, 4] (.eff 5 [3] (.eff 6 [] (.ops [7] (.eff 8 [] .nil))))))))))))) (by kernel_rfl) (Eq.mp (by kernel_rfl) h)

def F_codec_passEntry (a0 a1 : Value) (w : World) (k : Value → World → Prop) : Prop :=
  wDraw w fun w =>
  wNil P a1 w fun t6 w =>
  wFieldA P T_codec_Entry t6 0 w fun t7 w =>
  wFunc P (.method "drumlin/codec.int") [a0] [] w fun t8 w =>
  wNil P t8 w fun _ w =>
  wInvoke P a0 "drumlin/codec.int" [(.int .i64 1), t7] w fun _ w =>
  wDraw w fun w =>
  wNil P a1 w fun t14 w =>
  wFieldA P T_codec_Entry t14 1 w fun t15 w =>
  wFunc P (.method "drumlin/codec.word") [a0] [] w fun t16 w =>
  wNil P t16 w fun _ w =>
  wInvoke P a0 "drumlin/codec.word" [(.int .i64 2), t15] w fun _ w =>
  wDraw w fun w =>
  wNil P a1 w fun t22 w =>
  wFieldA P T_codec_Entry t22 2 w fun t23 w =>
  wFunc P (.method "drumlin/codec.word") [a0] [] w fun t24 w =>
  wNil P t24 w fun _ w =>
  wInvoke P a0 "drumlin/codec.word" [(.int .i64 4), t23] w fun _ w =>
  wDraw w fun w =>
  wNil P a1 w fun t30 w =>
  wFieldA P T_codec_Entry t30 3 w fun t31 w =>
  wFunc P (.method "drumlin/codec.int") [a0] [] w fun t32 w =>
  wNil P t32 w fun _ w =>
  wInvoke P a0 "drumlin/codec.int" [(.int .i64 2), t31] w fun _ w =>
  k (.tuple #[]) w

theorem call_codec_passEntry (a0 a1 : Value) {w : World} {k : Value → World → Prop} (h : F_codec_passEntry a0 a1 w k) : wCall P n_codec_passEntry [a0, a1] w k :=
  call_of_den mixedP Try.func256 (by kernel_rfl) (.s (.r (.ops [0, 1, 2, 3] (.eff 4 [] (.ops [5, 6] (.eff 7 [] .nil))))) (.s (.r (.ops [0, 1, 2, 3] (.eff 4 [] (.ops [5, 6] (.eff 7 [] .nil))))) (.s (.r (.ops [0, 1, 2, 3] (.eff 4 [] (.ops [5, 6] (.eff 7 [] .nil))))) (.r (.ops [0, 1, 2, 3] (.eff 4 [] (.ops [5, 6] (.eff 7 [] .nil)))))))) (by kernel_rfl) (Eq.mp (by kernel_rfl) h)

def F_codec_each_codec_Entry (a0 a1 : Value) (w : World) (k : Value → World → Prop) : Prop :=
  wBox P T_int a0 w fun t2 w =>
  wBox P T_func_codec_Entry__bool a1 w fun t3 w =>
  wFunc P (.func n_codec_each_codec_Entry_c1) [] [t3, t2] w fun t5 w =>
  k t5 w

theorem call_codec_each_codec_Entry (a0 a1 : Value) {w : World} {k : Value → World → Prop} (h : F_codec_each_codec_Entry a0 a1 w k) : wCall P n_codec_each_codec_Entry [a0, a1] w k :=
  call_of_den mixedP Try.func257 (by kernel_rfl) .z (by kernel_rfl) (Eq.mp (by kernel_rfl) h)

def F_codec_maySummary_c1 (a0 : Value) (w : World) (k : Value → World → Prop) : Prop :=
  wBox P T_codec_Entry a0 w fun t1 w =>
  wFieldA P T_codec_Entry t1 0 w fun t3 w =>
  wLoad P T_int t3 w fun t4 w =>
  wCall P n_codec_among [t4, (.int .i64 1), (.int .i64 6)] w fun t5 w =>
  k t5 w

theorem call_codec_maySummary_c1 (a0 : Value) {w : World} {k : Value → World → Prop} (h : F_codec_maySummary_c1 a0 w k) : wCall P n_codec_maySummary_c1 [a0] w k :=
  call_of_den mixedP Try.func258 (by kernel_rfl) .z (by kernel_rfl) (Eq.mp (by kernel_rfl) h)

def F_codec_each_codec_Use_c1 (a0 a1 a2 : Value) (w : World) (k : Value → World → Prop) : Prop :=
  wJ0 (fun k1 =>
    wLen P .len #[T_Lcodec_Use] [a0] w fun t8 w =>
    wL1 (.int .i64 0) w (fun _ v9 w k2 =>
      wBin P .lss T_int v9 t8 w fun t10 w =>
      wIf t10 (
        wIndexA P T_Lcodec_Use a0 v9 w fun t11 w =>
        wLoad P T_codec_Use t11 w fun t12 w =>
        wAlloc P T_codec_Use w fun t6 w =>
        wStore P T_codec_Use t6 t12 w fun w =>
        wLoad P T_func_codec_Use__bool a1 w fun t13 w =>
        wLoad P T_codec_Use t6 w fun t14 w =>
        wCallV P t13 [t14] w fun t15 w =>
        wUn P .not t15 w fun t16 w =>
        wIf t16 (
          k (.bool false) w) (
          wBin P .add T_int v9 (.int .i64 1) w fun t17 w =>
          k2 t17 w)) (
        k1 w))) fun _ w =>
  wLen P .len #[T_Lcodec_Use] [a0] w fun t19 w =>
  wLoad P T_int a2 w fun t20 w =>
  wBin P .leq T_int t19 t20 w fun t21 w =>
  k t21 w

theorem call_codec_each_codec_Use_c1 (a0 a1 a2 : Value) {w : World} {k : Value → World → Prop} (h : F_codec_each_codec_Use_c1 a0 a1 a2 w k) : wCall P n_codec_each_codec_Use_c1 [a0, a1, a2] w k :=
  call_of_den mixedP Try.func280 (by kernel_rfl) (.s .z (.j [] [0, 2] (.s .z (.b (.l [9] [0, 1, 2, 7, 8] .z))) .z)) (by kernel_rfl) (Eq.mp (by kernel_rfl) h)

def F_codec_each_codec_Slot_c1 (a0 a1 a2 : Value) (w : World) (k : Value → World → Prop) : Prop :=
  wJ0 (fun k1 =>
    wLen P .len #[T_Lcodec_Slot] [a0] w fun t8 w =>
    wL1 (.int .i64 0) w (fun _ v9 w k2 =>
      wBin P .lss T_int v9 t8 w fun t10 w =>
      wIf t10 (
        wIndexA P T_Lcodec_Slot a0 v9 w fun t11 w =>
        wLoad P T_codec_Slot t11 w fun t12 w =>
        wAlloc P T_codec_Slot w fun t6 w =>
        wStore P T_codec_Slot t6 t12 w fun w =>
        wLoad P T_func_codec_Slot__bool a1 w fun t13 w =>
        wLoad P T_codec_Slot t6 w fun t14 w =>
        wCallV P t13 [t14] w fun t15 w =>
        wUn P .not t15 w fun t16 w =>
        wIf t16 (
          k (.bool false) w) (
          wBin P .add T_int v9 (.int .i64 1) w fun t17 w =>
          k2 t17 w)) (
        k1 w))) fun _ w =>
  wLen P .len #[T_Lcodec_Slot] [a0] w fun t19 w =>
  wLoad P T_int a2 w fun t20 w =>
  wBin P .leq T_int t19 t20 w fun t21 w =>
  k t21 w

theorem call_codec_each_codec_Slot_c1 (a0 a1 a2 : Value) {w : World} {k : Value → World → Prop} (h : F_codec_each_codec_Slot_c1 a0 a1 a2 w k) : wCall P n_codec_each_codec_Slot_c1 [a0, a1, a2] w k :=
  call_of_den mixedP Try.func285 (by kernel_rfl) (.s .z (.j [] [0, 2] (.s .z (.b (.l [9] [0, 1, 2, 7, 8] .z))) .z)) (by kernel_rfl) (Eq.mp (by kernel_rfl) h)

def F_codec_each_codec_Record_c1 (a0 a1 a2 : Value) (w : World) (k : Value → World → Prop) : Prop :=
  wJ0 (fun k1 =>
    wLen P .len #[T_Lcodec_Record] [a0] w fun t8 w =>
    wL1 (.int .i64 0) w (fun _ v9 w k2 =>
      wBin P .lss T_int v9 t8 w fun t10 w =>
      wIf t10 (
        wIndexA P T_Lcodec_Record a0 v9 w fun t11 w =>
        wLoad P T_codec_Record t11 w fun t12 w =>
        wAlloc P T_codec_Record w fun t6 w =>
        wStore P T_codec_Record t6 t12 w fun w =>
        wLoad P T_func_codec_Record__bool a1 w fun t13 w =>
        wLoad P T_codec_Record t6 w fun t14 w =>
        wCallV P t13 [t14] w fun t15 w =>
        wUn P .not t15 w fun t16 w =>
        wIf t16 (
          k (.bool false) w) (
          wBin P .add T_int v9 (.int .i64 1) w fun t17 w =>
          k2 t17 w)) (
        k1 w))) fun _ w =>
  wLen P .len #[T_Lcodec_Record] [a0] w fun t19 w =>
  wLoad P T_int a2 w fun t20 w =>
  wBin P .leq T_int t19 t20 w fun t21 w =>
  k t21 w

theorem call_codec_each_codec_Record_c1 (a0 a1 a2 : Value) {w : World} {k : Value → World → Prop} (h : F_codec_each_codec_Record_c1 a0 a1 a2 w k) : wCall P n_codec_each_codec_Record_c1 [a0, a1, a2] w k :=
  call_of_den mixedP Try.func286 (by kernel_rfl) (.s .z (.j [] [0, 2] (.s .z (.b (.l [9] [0, 1, 2, 7, 8] .z))) .z)) (by kernel_rfl) (Eq.mp (by kernel_rfl) h)

def F_codec_each_codec_Entry_c1 (a0 a1 a2 : Value) (w : World) (k : Value → World → Prop) : Prop :=
  wJ0 (fun k1 =>
    wLen P .len #[T_Lcodec_Entry] [a0] w fun t8 w =>
    wL1 (.int .i64 0) w (fun _ v9 w k2 =>
      wBin P .lss T_int v9 t8 w fun t10 w =>
      wIf t10 (
        wIndexA P T_Lcodec_Entry a0 v9 w fun t11 w =>
        wLoad P T_codec_Entry t11 w fun t12 w =>
        wAlloc P T_codec_Entry w fun t6 w =>
        wStore P T_codec_Entry t6 t12 w fun w =>
        wLoad P T_func_codec_Entry__bool a1 w fun t13 w =>
        wLoad P T_codec_Entry t6 w fun t14 w =>
        wCallV P t13 [t14] w fun t15 w =>
        wUn P .not t15 w fun t16 w =>
        wIf t16 (
          k (.bool false) w) (
          wBin P .add T_int v9 (.int .i64 1) w fun t17 w =>
          k2 t17 w)) (
        k1 w))) fun _ w =>
  wLen P .len #[T_Lcodec_Entry] [a0] w fun t19 w =>
  wLoad P T_int a2 w fun t20 w =>
  wBin P .leq T_int t19 t20 w fun t21 w =>
  k t21 w

theorem call_codec_each_codec_Entry_c1 (a0 a1 a2 : Value) {w : World} {k : Value → World → Prop} (h : F_codec_each_codec_Entry_c1 a0 a1 a2 w k) : wCall P n_codec_each_codec_Entry_c1 [a0, a1, a2] w k :=
  call_of_den mixedP Try.func287 (by kernel_rfl) (.s .z (.j [] [0, 2] (.s .z (.b (.l [9] [0, 1, 2, 7, 8] .z))) .z)) (by kernel_rfl) (Eq.mp (by kernel_rfl) h)

def F_codec_writer_int (a0 a1 a2 : Value) (w : World) (k : Value → World → Prop) : Prop :=
  wNil P a2 w fun t8 w =>
  wLoad P T_int t8 w fun t9 w =>
  wLen P .max #[T_int, T_int] [t9, (.int .i64 0)] w fun t10 w =>
  wConv P T_int T_uint64 t10 w fun t11 w =>
  wAlloc P T_uint64 w fun t6 w =>
  wStore P T_uint64 t6 t11 w fun w =>
  wNil P a0 w fun t14 w =>
  wFieldA P T_codec_writer t14 1 w fun t15 w =>
  wLoad P T_bool t15 w fun t16 w =>
  wGrp t16 false (fun k21 =>
    wNil P a2 w fun t19 w =>
    wLoad P T_int t19 w fun t20 w =>
    wBin P .lss T_int t20 (.int .i64 0) w fun t21 w =>
    k21 t21 w) w fun _ t21 w =>
  wPick t16 (.bool true) t21 w fun t22 w =>
  wNil P a0 w fun t23 w =>
  wFieldA P T_codec_writer t23 1 w fun t24 w =>
  wStore P T_bool t24 t22 w fun w =>
  wCall P n_codec_writer_wide [a0, a1, t6] w fun _ w =>
  k (.tuple #[]) w

theorem call_codec_writer_int (a0 a1 a2 : Value) {w : World} {k : Value → World → Prop} (h : F_codec_writer_int a0 a1 a2 w k) : wCall P n_codec_writer_int [a0, a1, a2] w k :=
  call_of_den mixedP Try.func315 (by kernel_rfl) (.s .z (.s (.r (.ops [0, 1, 2, 3, 4, 5] (.grp 5 false 21 [18, 19, 20] (.ops [6, 7, 8, 9] .nil) (.ops [10, 11, 12, 13] .nil)))) .z)) (by kernel_rfl) (Eq.mp (by kernel_rfl) h)

def F_codec_writer_more (a0 : Value) (w : World) (k : Value → World → Prop) : Prop :=
  k (.bool false) w

theorem call_codec_writer_more (a0 : Value) {w : World} {k : Value → World → Prop} (h : F_codec_writer_more a0 w k) : wCall P n_codec_writer_more [a0] w k :=
  call_of_den mixedP Try.func316 (by kernel_rfl) .z (by kernel_rfl) (Eq.mp (by kernel_rfl) h)

def F_codec_writer_wide (a0 a1 a2 : Value) (w : World) (k : Value → World → Prop) : Prop :=
  wMake P T_Luint8 a1 a1 w fun t8 w =>
  wJ0 (fun k1 =>
    wNil P a2 w fun t12 w =>
    wLoad P T_uint64 t12 w fun t13 w =>
    wCall P n_num_Put [t8, (.int .i64 0), a1, t13] w fun t14 w =>
    wBin P .neq T_api_Errno t14 (.int .i64 0) w fun t15 w =>
    wIf t15 (
      wNil P a0 w fun t17 w =>
      wFieldA P T_codec_writer t17 1 w fun t18 w =>
      wStore P T_bool t18 (.bool true) w fun w =>
      k1 w) (
      k1 w)) fun _ w =>
  wNil P a0 w fun t21 w =>
  wFieldA P T_codec_writer t21 0 w fun t22 w =>
  wLoad P T_Luint8 t22 w fun t23 w =>
  wBuiltin P .append #[T_Luint8, T_Luint8] [t23, t8] w fun t25 w =>
  wNil P a0 w fun t26 w =>
  wFieldA P T_codec_writer t26 0 w fun t27 w =>
  wStore P T_Luint8 t27 t25 w fun w =>
  k (.tuple #[]) w

theorem call_codec_writer_wide (a0 a1 a2 : Value) {w : World} {k : Value → World → Prop} (h : F_codec_writer_wide a0 a1 a2 w k) : wCall P n_codec_writer_wide [a0, a1, a2] w k :=
  call_of_den mixedP Try.func317 (by kernel_rfl) (.s .z (.j [] [0, 6] .z .z)) (by kernel_rfl) (Eq.mp (by kernel_rfl) h)

def F_codec_writer_word (a0 a1 a2 : Value) (w : World) (k : Value → World → Prop) : Prop :=
  wNil P a2 w fun t8 w =>
  wLoad P T_uint32 t8 w fun t9 w =>
  wConv P T_uint32 T_uint64 t9 w fun t10 w =>
  wAlloc P T_uint64 w fun t6 w =>
  wStore P T_uint64 t6 t10 w fun w =>
  wCall P n_codec_writer_wide [a0, a1, t6] w fun _ w =>
  k (.tuple #[]) w

theorem call_codec_writer_word (a0 a1 a2 : Value) {w : World} {k : Value → World → Prop} (h : F_codec_writer_word a0 a1 a2 w k) : wCall P n_codec_writer_word [a0, a1, a2] w k :=
  call_of_den mixedP Try.func318 (by kernel_rfl) .z (by kernel_rfl) (Eq.mp (by kernel_rfl) h)

def F_codec_reader_int (a0 a1 a2 : Value) (w : World) (k : Value → World → Prop) : Prop :=
  wAlloc P T_uint64 w fun t6 w =>
  wCall P n_codec_reader_wide [a0, a1, t6] w fun _ w =>
  wLoad P T_uint64 t6 w fun t11 w =>
  wConv P T_uint64 T_int t11 w fun t12 w =>
  wNil P a2 w fun t13 w =>
  wStore P T_int t13 t12 w fun w =>
  k (.tuple #[]) w

theorem call_codec_reader_int (a0 a1 a2 : Value) {w : World} {k : Value → World → Prop} (h : F_codec_reader_int a0 a1 a2 w k) : wCall P n_codec_reader_int [a0, a1, a2] w k :=
  call_of_den mixedP Try.func319 (by kernel_rfl) .z (by kernel_rfl) (Eq.mp (by kernel_rfl) h)

def F_codec_reader_more (a0 : Value) (w : World) (k : Value → World → Prop) : Prop :=
  wDraw w fun w =>
  wNil P a0 w fun t4 w =>
  wFieldA P T_codec_reader t4 2 w fun t5 w =>
  wLoad P T_bool t5 w fun t6 w =>
  wUn P .not t6 w fun t7 w =>
  wGrp t7 true (fun k18 =>
    wNil P a0 w fun t10 w =>
    wFieldA P T_codec_reader t10 1 w fun t11 w =>
    wLoad P T_int t11 w fun t12 w =>
    wNil P a0 w fun t14 w =>
    wFieldA P T_codec_reader t14 0 w fun t15 w =>
    wLoad P T_Luint8 t15 w fun t16 w =>
    wLen P .len #[T_Luint8] [t16] w fun t17 w =>
    wBin P .lss T_int t12 t17 w fun t18 w =>
    k18 t18 w) w fun _ t18 w =>
  wPick t7 t18 (.bool false) w fun t19 w =>
  k t19 w

theorem call_codec_reader_more (a0 : Value) {w : World} {k : Value → World → Prop} (h : F_codec_reader_more a0 w k) : wCall P n_codec_reader_more [a0] w k :=
  call_of_den mixedP Try.func320 (by kernel_rfl) (.s .z (.s (.r (.ops [0, 1, 2, 3, 4, 5] (.grp 5 true 18 [9, 10, 11, 12, 13, 14, 15, 16, 17] (.ops [6, 7, 8, 9, 10, 11, 12, 13, 14, 15] .nil) (.ops [16, 17] .nil)))) .z)) (by kernel_rfl) (Eq.mp (by kernel_rfl) h)

def F_codec_reader_wide (a0 a1 a2 : Value) (w : World) (k : Value → World → Prop) : Prop :=
  wDraw w fun w =>
  wNil P a0 w fun t10 w =>
  wFieldA P T_codec_reader t10 0 w fun t11 w =>
  wLoad P T_Luint8 t11 w fun t12 w =>
  wNil P a0 w fun t14 w =>
  wFieldA P T_codec_reader t14 1 w fun t15 w =>
  wLoad P T_int t15 w fun t16 w =>
  wCall P n_num_Get [t12, t16, a1] w fun t18 w =>
  wExtract P t18 0 w fun t19 w =>
  wExtract P t18 1 w fun t20 w =>
  wNil P a2 w fun t23 w =>
  wStore P T_uint64 t23 t19 w fun w =>
  wNil P a0 w fun t26 w =>
  wFieldA P T_codec_reader t26 2 w fun t27 w =>
  wLoad P T_bool t27 w fun t28 w =>
  wGrp t28 false (fun k31 =>
    wBin P .neq T_api_Errno t20 (.int .i64 0) w fun t31 w =>
    k31 t31 w) w fun _ t31 w =>
  wPick t28 (.bool true) t31 w fun t32 w =>
  wNil P a0 w fun t33 w =>
  wFieldA P T_codec_reader t33 2 w fun t34 w =>
  wStore P T_bool t34 t32 w fun w =>
  wNil P a0 w fun t36 w =>
  wFieldA P T_codec_reader t36 1 w fun t37 w =>
  wLoad P T_int t37 w fun t38 w =>
  wBin P .add T_int t38 a1 w fun t40 w =>
  wNil P a0 w fun t41 w =>
  wFieldA P T_codec_reader t41 1 w fun t42 w =>
  wStore P T_int t42 t40 w fun w =>
  k (.tuple #[]) w

theorem call_codec_reader_wide (a0 a1 a2 : Value) {w : World} {k : Value → World → Prop} (h : F_codec_reader_wide a0 a1 a2 w k) : wCall P n_codec_reader_wide [a0, a1, a2] w k :=
  call_of_den mixedP Try.func321 (by kernel_rfl) (.s (.r (.ops [0, 1, 2, 3, 4, 5, 6, 7, 8] (.eff 9 [] (.ops [10, 11, 12, 13, 14] .nil)))) (.s .z (.s (.r (.ops [0, 1, 2, 3, 4, 5] (.grp 5 false 31 [30] (.ops [6, 7] .nil) (.ops [8, 9, 10, 11] .nil)))) .z))) (by kernel_rfl) (Eq.mp (by kernel_rfl) h)

def F_codec_reader_word (a0 a1 a2 : Value) (w : World) (k : Value → World → Prop) : Prop :=
  wAlloc P T_uint64 w fun t6 w =>
  wCall P n_codec_reader_wide [a0, a1, t6] w fun _ w =>
  wLoad P T_uint64 t6 w fun t11 w =>
  wConv P T_uint64 T_uint32 t11 w fun t12 w =>
  wNil P a2 w fun t13 w =>
  wStore P T_uint32 t13 t12 w fun w =>
  k (.tuple #[]) w

theorem call_codec_reader_word (a0 a1 a2 : Value) {w : World} {k : Value → World → Prop} (h : F_codec_reader_word a0 a1 a2 w k) : wCall P n_codec_reader_word [a0, a1, a2] w k :=
  call_of_den mixedP Try.func322 (by kernel_rfl) .z (by kernel_rfl) (Eq.mp (by kernel_rfl) h)

end Go.Dn
