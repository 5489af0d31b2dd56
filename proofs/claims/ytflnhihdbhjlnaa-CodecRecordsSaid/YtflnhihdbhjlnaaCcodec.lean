import Derived.Test.YtflnhihdbhjlnaaCinode
/-! Contracts of codec's public functions: inodes, headers, slots, uses, records; printed by mkcodec.py. -/
set_option maxRecDepth 10000
set_option linter.unusedVariables false
set_option linter.unusedSimpArgs false
namespace Go.Dn
open Go
def mayL (p : List Int → Bool) (most : Nat) (rs : List (List Int)) : Bool := rs.all p && decide ((rs.length : Int) ≤ (most : Int))
def kHeader : List IntKind := [.u64, .u64, .i64, .i64, .i64, .u32]
def wHeader : List Nat := [8, 8, 2, 2, 2, 4]
def wSlot : List Nat := [4, 4, 2, 1]
def wUse : List Nat := [2, 1, 4]
def wRecord : List Nat := [2, 4, 2, 1]
def wdEntry : List Nat := [1, 2, 4, 2]
section
variable {w : World}
theorem wrV_len {o : Option (List Nat)} (h : ∀ s, o = some s → s.length = 128) : (o.getD zeroS).length = 128 := by
  cases o with
  | none => exact zeroS_length
  | some s => exact h s rfl
theorem writeR_len {kind : Nat} {ws : List Nat} {m : List Int → Bool} {r : List Int} : ∀ s, writeR kind ws m r = some s → s.length = 128 := by
  intro s h
  unfold writeR at h
  split at h
  · exact sealMk_len h
  · cases h
theorem writeL_len {kind : Nat} {ws : List Nat} {m : List (List Int) → Bool} {rs : List (List Int)} : ∀ s, writeL kind ws m rs = some s → s.length = 128 := by
  intro s h
  unfold writeL at h
  split at h
  · exact sealMk_len h
  · cases h
/-- The end of a writing function. -/
theorem wr_end {o : Option (List Nat)} {g : Nat} {k : Value → World → Prop} (h : ∀ s, o = some s → s.length = 128) (B : Blk w g T_api_Sector (List.replicate 128 (.int .u8 0))) (hk : ∀ w', Ex [g] w w' → k (wrV o) w') :
    wExtract P (wrV o) 0 w fun t6 w => wExtract P (wrV o) 1 w fun t7 w => wStore P T_api_Sector (ptr g) t6 w fun w => wRes P T_api_Sector (ptr g) w fun r2 => k (.tuple #[r2, t7]) w := by
  unfold wrV
  rw [ext_0, ext_1]
  refine st_sector g_T_api_Sector (wrV_len h) B List.length_replicate fun w1 hE1 B1 => ?_
  refine res_sector g_T_api_Sector (wrV_len h) B1 ?_
  exact hk w1 hE1

theorem may_Inode {r : List Int} {k : Value → World → Prop} (hr : r.length = kInode.length) (hk : ∀ w', Ex [] w w' → k (.bool ((mayB 2 1 2) r)) w') : wCallV P (.func (.func n_codec_mayInode) #[] #[]) [.agg ⟨rc kInode r⟩] w k := by
  rw [callv_0]
  refine call_codec_mayInode _ ?_
  exact may_field (j := 2) hr rfl (show fldT P T_codec_Inode 2 = some 2 by kernel_rfl) hk
theorem z_Inode : zeroT P T_codec_Inode = some (.agg ⟨rc kInode (zs kInode)⟩) := by kernel_rfl
theorem codec_WriteInode {r : List Int} {k : Value → World → Prop} (hr : r.length = kInode.length) (hin : inR kInode r) (hk : ∀ w', Ex [] w w' → k (wrV (writeR 2 wInode (mayB 2 1 2) r)) w') : wCall P n_codec_WriteInode [.agg ⟨rc kInode r⟩] w k := by
  refine call_codec_WriteInode _ ?_
  unfold F_codec_WriteInode
  refine box_i (vs := rc kInode r) rfl fun w1 g1 hg1 hE1 B1 => ?_
  refine alloc_i z_T_api_Sector (vs := List.replicate 128 (.int .u8 0)) rfl fun w2 g2 hg2 hE2 B2 => ?_
  have l1 := hE1.le
  rw [ld_aggT g_T_codec_Inode (rc_length hr) _ _ _ (B1.ex hE2 (by simp))]
  refine write_rec (ks := kInode) (ws := wInode) (kind := 2) (m := (mayB 2 1 2)) (fun h => call_codec_write_codec_Inode _ _ _ _ h) g_T_codec_Inode pass_Inode rfl (by decide) hr hin (by omega) (fun w1 k1 hk1 => may_Inode hr hk1) fun w3 hE3 => ?_
  refine wr_end writeR_len (B2.ex hE3 (by simp)) fun w4 hE4 => ?_
  exact hk w4 (((hE1.trans hE2).trans hE3).new hE4 (by omega))
theorem codec_ReadInode {s : List Nat} {k : Value → World → Prop} (hs : s.length = 128) (hb : ∀ b ∈ s, b < 256) (hbad : readR 2 wInode (mayB 2 1 2) s = none → ∀ w', Ex [] w w' → k (.tuple #[.agg ⟨rc kInode (zs kInode)⟩, .int .i64 21]) w')
    (hk : ∀ r, readR 2 wInode (mayB 2 1 2) s = some r → ∀ w', Ex [] w w' → k (.tuple #[.agg ⟨rc kInode r⟩, .int .i64 0]) w') : wCall P n_codec_ReadInode [sv s] w k := by
  refine call_codec_ReadInode _ ?_
  unfold F_codec_ReadInode
  refine box_i (sv_cells s) fun w1 g1 hg1 hE1 B1 => ?_
  refine alloc_i z_Inode (vs := rc kInode (zs kInode)) rfl fun w2 g2 hg2 hE2 B2 => ?_
  have l1 := hE1.le
  rw [ld_sector g_T_api_Sector hs (B1.ex hE2 (by simp))]
  have fin : ∀ r e w3, r.length = kInode.length → Ex [] w2 w3 → (∀ w', Ex [] w w' → k (.tuple #[.agg ⟨rc kInode r⟩, .int .i64 e]) w') →
      (wExtract P (.tuple #[.agg ⟨rc kInode r⟩, .int .i64 e]) 0 w3 fun t6 w => wExtract P (.tuple #[.agg ⟨rc kInode r⟩, .int .i64 e]) 1 w fun t7 w => wStore P T_codec_Inode (ptr g2) t6 w fun w => wRes P T_codec_Inode (ptr g2) w fun r2 => k (.tuple #[r2, t7]) w) := by
    intro r e w3 hr hE3 hk'
    rw [ext_0, ext_1]
    refine st_all g_T_codec_Inode (rc_length hr) (rc_isC _ _) (B2.ex hE3 (by simp)) (rc_length (zs_length _)) fun w4 hE4 B4 => ?_
    refine res_agg g_T_codec_Inode B4.all (rc_length hr) ?_
    exact hk' w4 (((hE1.trans hE2).trans hE3).new hE4 (by omega))
  have hlen : ∀ r, readR 2 wInode (mayB 2 1 2) s = some r → r.length = kInode.length := by
    intro r h
    unfold readR at h
    split at h
    · split at h
      · injection h with h; rw [← h, decF_length]; rfl
      · cases h
    · cases h
  exact read_rec (ks := kInode) (ws := wInode) (kind := 2) (m := (mayB 2 1 2)) (fun h => call_codec_read_codec_Inode _ _ _ _ h) g_T_codec_Inode z_Inode (by simp [inR, inR1, kInode, zs]) pass_Inode rfl (by decide) hs hb (by omega) (fun r w1 k1 hr hk1 => may_Inode hr hk1)
    (fun h w3 hE3 => fin _ _ w3 (zs_length _) hE3 (hbad h)) (fun r h w3 hE3 => fin _ _ w3 (hlen r h) hE3 (hk r h))

theorem may_Header {r : List Int} {k : Value → World → Prop} (hr : r.length = kHeader.length) (hk : ∀ w', Ex [] w w' → k (.bool ((fun _ => true) r)) w') : wCallV P (.func (.func n_codec_mayHeader) #[] #[]) [.agg ⟨rc kHeader r⟩] w k := by
  rw [callv_0]
  refine call_codec_mayHeader _ ?_
  unfold F_codec_mayHeader
  exact box_i (vs := rc kHeader r) rfl fun w1 _ _ hE1 _ => hk w1 hE1
theorem z_Header : zeroT P T_codec_Header = some (.agg ⟨rc kHeader (zs kHeader)⟩) := by kernel_rfl
theorem codec_WriteHeader {r : List Int} {k : Value → World → Prop} (hr : r.length = kHeader.length) (hin : inR kHeader r) (hk : ∀ w', Ex [] w w' → k (wrV (writeR 6 wHeader (fun _ => true) r)) w') : wCall P n_codec_WriteHeader [.agg ⟨rc kHeader r⟩] w k := by
  refine call_codec_WriteHeader _ ?_
  unfold F_codec_WriteHeader
  refine box_i (vs := rc kHeader r) rfl fun w1 g1 hg1 hE1 B1 => ?_
  refine alloc_i z_T_api_Sector (vs := List.replicate 128 (.int .u8 0)) rfl fun w2 g2 hg2 hE2 B2 => ?_
  have l1 := hE1.le
  rw [ld_aggT g_T_codec_Header (rc_length hr) _ _ _ (B1.ex hE2 (by simp))]
  refine write_rec (ks := kHeader) (ws := wHeader) (kind := 6) (m := (fun _ => true)) (fun h => call_codec_write_codec_Header _ _ _ _ h) g_T_codec_Header pass_Header rfl (by decide) hr hin (by omega) (fun w1 k1 hk1 => may_Header hr hk1) fun w3 hE3 => ?_
  refine wr_end writeR_len (B2.ex hE3 (by simp)) fun w4 hE4 => ?_
  exact hk w4 (((hE1.trans hE2).trans hE3).new hE4 (by omega))
theorem codec_ReadHeader {s : List Nat} {k : Value → World → Prop} (hs : s.length = 128) (hb : ∀ b ∈ s, b < 256) (hbad : readR 6 wHeader (fun _ => true) s = none → ∀ w', Ex [] w w' → k (.tuple #[.agg ⟨rc kHeader (zs kHeader)⟩, .int .i64 21]) w')
    (hk : ∀ r, readR 6 wHeader (fun _ => true) s = some r → ∀ w', Ex [] w w' → k (.tuple #[.agg ⟨rc kHeader r⟩, .int .i64 0]) w') : wCall P n_codec_ReadHeader [sv s] w k := by
  refine call_codec_ReadHeader _ ?_
  unfold F_codec_ReadHeader
  refine box_i (sv_cells s) fun w1 g1 hg1 hE1 B1 => ?_
  refine alloc_i z_Header (vs := rc kHeader (zs kHeader)) rfl fun w2 g2 hg2 hE2 B2 => ?_
  have l1 := hE1.le
  rw [ld_sector g_T_api_Sector hs (B1.ex hE2 (by simp))]
  have fin : ∀ r e w3, r.length = kHeader.length → Ex [] w2 w3 → (∀ w', Ex [] w w' → k (.tuple #[.agg ⟨rc kHeader r⟩, .int .i64 e]) w') →
      (wExtract P (.tuple #[.agg ⟨rc kHeader r⟩, .int .i64 e]) 0 w3 fun t6 w => wExtract P (.tuple #[.agg ⟨rc kHeader r⟩, .int .i64 e]) 1 w fun t7 w => wStore P T_codec_Header (ptr g2) t6 w fun w => wRes P T_codec_Header (ptr g2) w fun r2 => k (.tuple #[r2, t7]) w) := by
    intro r e w3 hr hE3 hk'
    rw [ext_0, ext_1]
    refine st_all g_T_codec_Header (rc_length hr) (rc_isC _ _) (B2.ex hE3 (by simp)) (rc_length (zs_length _)) fun w4 hE4 B4 => ?_
    refine res_agg g_T_codec_Header B4.all (rc_length hr) ?_
    exact hk' w4 (((hE1.trans hE2).trans hE3).new hE4 (by omega))
  have hlen : ∀ r, readR 6 wHeader (fun _ => true) s = some r → r.length = kHeader.length := by
    intro r h
    unfold readR at h
    split at h
    · split at h
      · injection h with h; rw [← h, decF_length]; rfl
      · cases h
    · cases h
  exact read_rec (ks := kHeader) (ws := wHeader) (kind := 6) (m := (fun _ => true)) (fun h => call_codec_read_codec_Header _ _ _ _ h) g_T_codec_Header z_Header (by simp [inR, inR1, kHeader, zs]) pass_Header rfl (by decide) hs hb (by omega) (fun r w1 k1 hr hk1 => may_Header hr hk1)
    (fun h w3 hE3 => fin _ _ w3 (zs_length _) hE3 (hbad h)) (fun r h w3 hE3 => fin _ _ w3 (hlen r h) hE3 (hk r h))

theorem may_Slots {v : Value} {rs : List (List Int)} {k : Value → World → Prop} (S : SlG w kSlot.length v (rcs kSlot rs)) (hlen : lenR kSlot rs) (hn : rs.length ≤ 1000000) (hk : ∀ w', Ex [] w w' → k (.bool ((mayL (mayB 3 0 2) 10) rs)) w') : wCallV P (.func (.func n_codec_maySlots) #[] #[]) [v] w k := by
  rw [callv_0]
  refine call_codec_maySlots _ ?_
  unfold F_codec_maySlots
  refine call_codec_each_codec_Slot _ _ ?_
  unfold F_codec_each_codec_Slot
  refine box_i (vs := [.int .i64 10]) rfl fun w1 g1 hg1 hE1 B1 => ?_
  refine box_i (vs := [.func (.func n_codec_maySlots_c1) #[] #[]]) rfl fun w2 g2 hg2 hE2 B2 => ?_
  rw [func_eq]
  dsimp only
  rw [callv_eq]
  refine call_codec_each_codec_Slot_c1 _ _ _ ?_
  refine each_i (TF := T_func_codec_Slot__bool) (most := 10) (p := mayB 3 0 2) el_Slot o_T_func_codec_Slot__bool ((S.ex0 hE1).ex0 hE2) hlen hn B2 (B1.ex hE2 (by simp)) (fun r hr w3 k3 hk3 => ?_) fun w3 hE3 => hk w3 ((hE1.trans hE2).trans hE3)
  rw [callv_0]
  refine call_codec_maySlots_c1 _ ?_
  exact may_field (j := 3) (hlen r hr) rfl (show fldT P T_codec_Slot 3 = some 3 by kernel_rfl) hk3
theorem codec_WriteSlots {v : Value} {rs : List (List Int)} {k : Value → World → Prop} (S : SlB w T_codec_Slot kSlot.length v (rcs kSlot rs)) (hlen : lenR kSlot rs) (hin : ∀ r ∈ rs, inR kSlot r) (hn : rs.length ≤ 1000) (hk : ∀ w', Ex [] w w' → k (wrV (writeL 4 wSlot (mayL (mayB 3 0 2) 10) rs)) w') : wCall P n_codec_WriteSlots [v] w k := by
  refine call_codec_WriteSlots _ ?_
  unfold F_codec_WriteSlots
  refine alloc_i z_T_api_Sector (vs := List.replicate 128 (.int .u8 0)) rfl fun w2 g2 hg2 hE2 B2 => ?_
  refine write_list (ks := kSlot) (ws := wSlot) (kind := 4) (m := (mayL (mayB 3 0 2) 10)) (fun h => call_codec_write_LLcodec_Slot _ _ _ _ h) el_Slot lc_Slot pass_Slot (fun h => call_codec_passSlots _ _ h) rfl (by decide) (S.ex0 hE2) hlen hin hn (by omega) (fun w1 k1 hS hk1 => may_Slots hS.slg hlen (by omega) hk1) fun w3 hE3 => ?_
  refine wr_end writeL_len (B2.ex hE3 (by simp)) fun w4 hE4 => ?_
  exact hk w4 ((hE2.trans hE3).new hE4 (by omega))
theorem codec_ReadSlots {s : List Nat} {k : Value → World → Prop} (hs : s.length = 128) (hb : ∀ b ∈ s, b < 256) (hbad : readL 4 wSlot (mayL (mayB 3 0 2) 10) s = none → ∀ w', Ex [] w w' → k (.tuple #[.slice none 0 0, .int .i64 21]) w')
    (hk : ∀ rs, readL 4 wSlot (mayL (mayB 3 0 2) 10) s = some rs → lenR kSlot rs → ∀ v w', Ex [] w w' → Own w' w.heap.size T_codec_Slot kSlot.length v (rcs kSlot rs) → k (.tuple #[v, .int .i64 0]) w') : wCall P n_codec_ReadSlots [sv s] w k := by
  refine call_codec_ReadSlots _ ?_
  unfold F_codec_ReadSlots
  refine box_i (sv_cells s) fun w1 g1 hg1 hE1 B1 => ?_
  have l1 := hE1.le
  rw [ld_sector g_T_api_Sector hs B1]
  refine read_list (ks := kSlot) (ws := wSlot) (kind := 4) (m := (mayL (mayB 3 0 2) 10)) (fun h => call_codec_read_LLcodec_Slot _ _ _ _ h) el_Slot z_T_Lcodec_Slot lc_Slot pass_Slot (fun h => call_codec_passSlots _ _ h) rfl (by decide) hs hb (by omega) (fun w1 rs v base k1 hO hlen hn hk1 => may_Slots hO.slg hlen (by omega) hk1)
    (fun h w3 hE3 => ?_) (fun rs h hl v w3 hE3 hO3 => ?_)
  · rw [ext_0, ext_1]; exact hbad h w3 (hE1.trans hE3)
  · rw [ext_0, ext_1]; exact hk rs h hl v w3 (hE1.trans hE3) (hO3.base (by omega))

theorem may_Uses {v : Value} {rs : List (List Int)} {k : Value → World → Prop} (S : SlG w kUse.length v (rcs kUse rs)) (hlen : lenR kUse rs) (hn : rs.length ≤ 1000000) (hk : ∀ w', Ex [] w w' → k (.bool ((mayL (mayB 1 0 3) 15) rs)) w') : wCallV P (.func (.func n_codec_mayUses) #[] #[]) [v] w k := by
  rw [callv_0]
  refine call_codec_mayUses _ ?_
  unfold F_codec_mayUses
  refine call_codec_each_codec_Use _ _ ?_
  unfold F_codec_each_codec_Use
  refine box_i (vs := [.int .i64 15]) rfl fun w1 g1 hg1 hE1 B1 => ?_
  refine box_i (vs := [.func (.func n_codec_mayUses_c1) #[] #[]]) rfl fun w2 g2 hg2 hE2 B2 => ?_
  rw [func_eq]
  dsimp only
  rw [callv_eq]
  refine call_codec_each_codec_Use_c1 _ _ _ ?_
  refine each_i (TF := T_func_codec_Use__bool) (most := 15) (p := mayB 1 0 3) el_Use o_T_func_codec_Use__bool ((S.ex0 hE1).ex0 hE2) hlen hn B2 (B1.ex hE2 (by simp)) (fun r hr w3 k3 hk3 => ?_) fun w3 hE3 => hk w3 ((hE1.trans hE2).trans hE3)
  rw [callv_0]
  refine call_codec_mayUses_c1 _ ?_
  exact may_field (j := 1) (hlen r hr) rfl (show fldT P T_codec_Use 1 = some 1 by kernel_rfl) hk3
theorem codec_WriteUses {v : Value} {rs : List (List Int)} {k : Value → World → Prop} (S : SlB w T_codec_Use kUse.length v (rcs kUse rs)) (hlen : lenR kUse rs) (hin : ∀ r ∈ rs, inR kUse r) (hn : rs.length ≤ 1000) (hk : ∀ w', Ex [] w w' → k (wrV (writeL 5 wUse (mayL (mayB 1 0 3) 15) rs)) w') : wCall P n_codec_WriteUses [v] w k := by
  refine call_codec_WriteUses _ ?_
  unfold F_codec_WriteUses
  refine alloc_i z_T_api_Sector (vs := List.replicate 128 (.int .u8 0)) rfl fun w2 g2 hg2 hE2 B2 => ?_
  refine write_list (ks := kUse) (ws := wUse) (kind := 5) (m := (mayL (mayB 1 0 3) 15)) (fun h => call_codec_write_LLcodec_Use _ _ _ _ h) el_Use lc_Use pass_Use (fun h => call_codec_passUses _ _ h) rfl (by decide) (S.ex0 hE2) hlen hin hn (by omega) (fun w1 k1 hS hk1 => may_Uses hS.slg hlen (by omega) hk1) fun w3 hE3 => ?_
  refine wr_end writeL_len (B2.ex hE3 (by simp)) fun w4 hE4 => ?_
  exact hk w4 ((hE2.trans hE3).new hE4 (by omega))
theorem codec_ReadUses {s : List Nat} {k : Value → World → Prop} (hs : s.length = 128) (hb : ∀ b ∈ s, b < 256) (hbad : readL 5 wUse (mayL (mayB 1 0 3) 15) s = none → ∀ w', Ex [] w w' → k (.tuple #[.slice none 0 0, .int .i64 21]) w')
    (hk : ∀ rs, readL 5 wUse (mayL (mayB 1 0 3) 15) s = some rs → lenR kUse rs → ∀ v w', Ex [] w w' → Own w' w.heap.size T_codec_Use kUse.length v (rcs kUse rs) → k (.tuple #[v, .int .i64 0]) w') : wCall P n_codec_ReadUses [sv s] w k := by
  refine call_codec_ReadUses _ ?_
  unfold F_codec_ReadUses
  refine box_i (sv_cells s) fun w1 g1 hg1 hE1 B1 => ?_
  have l1 := hE1.le
  rw [ld_sector g_T_api_Sector hs B1]
  refine read_list (ks := kUse) (ws := wUse) (kind := 5) (m := (mayL (mayB 1 0 3) 15)) (fun h => call_codec_read_LLcodec_Use _ _ _ _ h) el_Use z_T_Lcodec_Use lc_Use pass_Use (fun h => call_codec_passUses _ _ h) rfl (by decide) hs hb (by omega) (fun w1 rs v base k1 hO hlen hn hk1 => may_Uses hO.slg hlen (by omega) hk1)
    (fun h w3 hE3 => ?_) (fun rs h hl v w3 hE3 hO3 => ?_)
  · rw [ext_0, ext_1]; exact hbad h w3 (hE1.trans hE3)
  · rw [ext_0, ext_1]; exact hk rs h hl v w3 (hE1.trans hE3) (hO3.base (by omega))

theorem may_Records {v : Value} {rs : List (List Int)} {k : Value → World → Prop} (S : SlG w kRecord.length v (rcs kRecord rs)) (hlen : lenR kRecord rs) (hn : rs.length ≤ 1000000) (hk : ∀ w', Ex [] w w' → k (.bool ((mayL (mayB 3 0 2) 13) rs)) w') : wCallV P (.func (.func n_codec_mayRecords) #[] #[]) [v] w k := by
  rw [callv_0]
  refine call_codec_mayRecords _ ?_
  unfold F_codec_mayRecords
  refine call_codec_each_codec_Record _ _ ?_
  unfold F_codec_each_codec_Record
  refine box_i (vs := [.int .i64 13]) rfl fun w1 g1 hg1 hE1 B1 => ?_
  refine box_i (vs := [.func (.func n_codec_mayRecords_c1) #[] #[]]) rfl fun w2 g2 hg2 hE2 B2 => ?_
  rw [func_eq]
  dsimp only
  rw [callv_eq]
  refine call_codec_each_codec_Record_c1 _ _ _ ?_
  refine each_i (TF := T_func_codec_Record__bool) (most := 13) (p := mayB 3 0 2) el_Record o_T_func_codec_Record__bool ((S.ex0 hE1).ex0 hE2) hlen hn B2 (B1.ex hE2 (by simp)) (fun r hr w3 k3 hk3 => ?_) fun w3 hE3 => hk w3 ((hE1.trans hE2).trans hE3)
  rw [callv_0]
  refine call_codec_mayRecords_c1 _ ?_
  exact may_field (j := 3) (hlen r hr) rfl (show fldT P T_codec_Record 3 = some 3 by kernel_rfl) hk3
theorem codec_WriteRecords {v : Value} {rs : List (List Int)} {k : Value → World → Prop} (S : SlB w T_codec_Record kRecord.length v (rcs kRecord rs)) (hlen : lenR kRecord rs) (hin : ∀ r ∈ rs, inR kRecord r) (hn : rs.length ≤ 1000) (hk : ∀ w', Ex [] w w' → k (wrV (writeL 7 wRecord (mayL (mayB 3 0 2) 13) rs)) w') : wCall P n_codec_WriteRecords [v] w k := by
  refine call_codec_WriteRecords _ ?_
  unfold F_codec_WriteRecords
  refine alloc_i z_T_api_Sector (vs := List.replicate 128 (.int .u8 0)) rfl fun w2 g2 hg2 hE2 B2 => ?_
  refine write_list (ks := kRecord) (ws := wRecord) (kind := 7) (m := (mayL (mayB 3 0 2) 13)) (fun h => call_codec_write_LLcodec_Record _ _ _ _ h) el_Record lc_Record pass_Record (fun h => call_codec_passRecords _ _ h) rfl (by decide) (S.ex0 hE2) hlen hin hn (by omega) (fun w1 k1 hS hk1 => may_Records hS.slg hlen (by omega) hk1) fun w3 hE3 => ?_
  refine wr_end writeL_len (B2.ex hE3 (by simp)) fun w4 hE4 => ?_
  exact hk w4 ((hE2.trans hE3).new hE4 (by omega))
theorem codec_ReadRecords {s : List Nat} {k : Value → World → Prop} (hs : s.length = 128) (hb : ∀ b ∈ s, b < 256) (hbad : readL 7 wRecord (mayL (mayB 3 0 2) 13) s = none → ∀ w', Ex [] w w' → k (.tuple #[.slice none 0 0, .int .i64 21]) w')
    (hk : ∀ rs, readL 7 wRecord (mayL (mayB 3 0 2) 13) s = some rs → lenR kRecord rs → ∀ v w', Ex [] w w' → Own w' w.heap.size T_codec_Record kRecord.length v (rcs kRecord rs) → k (.tuple #[v, .int .i64 0]) w') : wCall P n_codec_ReadRecords [sv s] w k := by
  refine call_codec_ReadRecords _ ?_
  unfold F_codec_ReadRecords
  refine box_i (sv_cells s) fun w1 g1 hg1 hE1 B1 => ?_
  have l1 := hE1.le
  rw [ld_sector g_T_api_Sector hs B1]
  refine read_list (ks := kRecord) (ws := wRecord) (kind := 7) (m := (mayL (mayB 3 0 2) 13)) (fun h => call_codec_read_LLcodec_Record _ _ _ _ h) el_Record z_T_Lcodec_Record lc_Record pass_Record (fun h => call_codec_passRecords _ _ h) rfl (by decide) hs hb (by omega) (fun w1 rs v base k1 hO hlen hn hk1 => may_Records hO.slg hlen (by omega) hk1)
    (fun h w3 hE3 => ?_) (fun rs h hl v w3 hE3 hO3 => ?_)
  · rw [ext_0, ext_1]; exact hbad h w3 (hE1.trans hE3)
  · rw [ext_0, ext_1]; exact hk rs h hl v w3 (hE1.trans hE3) (hO3.base (by omega))

end
end Go.Dn
