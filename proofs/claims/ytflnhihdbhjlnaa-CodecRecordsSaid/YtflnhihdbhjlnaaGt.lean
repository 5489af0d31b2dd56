import Derived.Test.YtflnhihdbhjlnaaGn
import Derived.Test.YtflnhihdbhjlnaaMem6
/-! Facts on types, printed by mkg.py. -/
set_option maxRecDepth 100000
set_option linter.unusedVariables false
namespace Go.Dn
open Go Go.Proofs
theorem o_T___ : oneT P T___ = true := by kernel_rfl
theorem o_T_int64 : oneT P T_int64 = true := by kernel_rfl
theorem z_T_int64 : zeroT P T_int64 = some (.int .i64 0) := by kernel_rfl
theorem i_T_int64 : P.underlying T_int64 = some (.int .i64) := by kernel_rfl
theorem o_T_int : oneT P T_int = true := by kernel_rfl
theorem z_T_int : zeroT P T_int = some (.int .i64 0) := by kernel_rfl
theorem i_T_int : P.underlying T_int = some (.int .i64) := by kernel_rfl
theorem o_T_bool : oneT P T_bool = true := by kernel_rfl
theorem z_T_bool : zeroT P T_bool = some (.bool false) := by kernel_rfl
theorem b_T_bool : P.underlying T_bool = some .bool := by kernel_rfl
theorem o_T_uint8 : oneT P T_uint8 = true := by kernel_rfl
theorem z_T_uint8 : zeroT P T_uint8 = some (.int .u8 0) := by kernel_rfl
theorem i_T_uint8 : P.underlying T_uint8 = some (.int .u8) := by kernel_rfl
theorem o_T_string : oneT P T_string = true := by kernel_rfl
theorem z_T_string : zeroT P T_string = some (.string ByteArray.empty) := by kernel_rfl
theorem o_T_Llaw03_Act : oneT P T_Llaw03_Act = true := by kernel_rfl
theorem z_T_Llaw03_Act : zeroT P T_Llaw03_Act = some (.slice none 0 0) := by kernel_rfl
theorem u_T_Llaw03_Act : P.underlying T_Llaw03_Act = some (.slice T_law03_Act) := by kernel_rfl
theorem s_T_Llaw03_Act : slT P T_Llaw03_Act = some 4 := by kernel_rfl
theorem app_T_Llaw03_Act {w : World} {K : Value → World → Prop} {base : Nat} {v x : Value} {xs ys : List Value} {n m : Nat} (ho : Own w base T_law03_Act 4 v xs) (hy : SlG w 4 x ys) (hn : xs.length = n * 4) (hm : ys.length = m * 4) (hc : ∀ u ∈ ys, isC u = true)
    (hb : (n + m) * 64 ≤ 140737488355328) (hba : base ≤ w.heap.size) (hk : ∀ v' w', Own w' base T_law03_Act 4 v' (xs ++ ys) → Ex v.ownBlock.toList w w' → (v'.ownBlock = v.ownBlock ∨ v'.ownBlock = some w.heap.size) → K v' w') : wBuiltin P .append #[T_Llaw03_Act, T_Llaw03_Act] [v, x] w K := by
  have h : (P.info? T_law03_Act).map (fun i => (i.zero, i.size, i.bytes)) = some (some (.agg ⟨[.int .i64 0, .int .i64 0, .slice none 0 0, .slice none 0 0]⟩), 4, 64) := by kernel_rfl
  cases hi : P.info? T_law03_Act with
  | none => rw [hi] at h; cases h
  | some i =>
    rw [hi] at h
    simp only [Option.map_some, Option.some.injEq, Prod.mk.injEq] at h
    exact app_i u_T_Llaw03_Act hi h.1 h.2.1 h.2.2 (by kernel_rfl) (by omega) ho hy hn hm hc hb (by omega) hba hk
theorem o_T_pdisk_Disk : oneT P T_pdisk_Disk = true := by kernel_rfl
theorem z_T_pdisk_Disk : zeroT P T_pdisk_Disk = some (.pointer none) := by kernel_rfl
theorem o_T_LA128uint8 : oneT P T_LA128uint8 = true := by kernel_rfl
theorem z_T_LA128uint8 : zeroT P T_LA128uint8 = some (.slice none 0 0) := by kernel_rfl
theorem u_T_LA128uint8 : P.underlying T_LA128uint8 = some (.slice T_A128uint8) := by kernel_rfl
theorem s_T_LA128uint8 : slT P T_LA128uint8 = some 128 := by kernel_rfl
theorem app_T_LA128uint8 {w : World} {K : Value → World → Prop} {base : Nat} {v x : Value} {xs ys : List Value} {n m : Nat} (ho : Own w base T_A128uint8 128 v xs) (hy : SlG w 128 x ys) (hn : xs.length = n * 128) (hm : ys.length = m * 128) (hc : ∀ u ∈ ys, isC u = true)
    (hb : (n + m) * 128 ≤ 140737488355328) (hba : base ≤ w.heap.size) (hk : ∀ v' w', Own w' base T_A128uint8 128 v' (xs ++ ys) → Ex v.ownBlock.toList w w' → (v'.ownBlock = v.ownBlock ∨ v'.ownBlock = some w.heap.size) → K v' w') : wBuiltin P .append #[T_LA128uint8, T_LA128uint8] [v, x] w K := by
  have h : (P.info? T_A128uint8).map (fun i => (i.zero, i.size, i.bytes)) = some (some (.agg ⟨List.replicate 128 (.int .u8 0)⟩), 128, 128) := by kernel_rfl
  cases hi : P.info? T_A128uint8 with
  | none => rw [hi] at h; cases h
  | some i =>
    rw [hi] at h
    simp only [Option.map_some, Option.some.injEq, Prod.mk.injEq] at h
    exact app_i u_T_LA128uint8 hi h.1 h.2.1 h.2.2 (by kernel_rfl) (by omega) ho hy hn hm hc hb (by omega) hba hk
theorem o_T_Lref03_Write : oneT P T_Lref03_Write = true := by kernel_rfl
theorem z_T_Lref03_Write : zeroT P T_Lref03_Write = some (.slice none 0 0) := by kernel_rfl
theorem u_T_Lref03_Write : P.underlying T_Lref03_Write = some (.slice T_ref03_Write) := by kernel_rfl
theorem s_T_Lref03_Write : slT P T_Lref03_Write = some 129 := by kernel_rfl
theorem app_T_Lref03_Write {w : World} {K : Value → World → Prop} {base : Nat} {v x : Value} {xs ys : List Value} {n m : Nat} (ho : Own w base T_ref03_Write 129 v xs) (hy : SlG w 129 x ys) (hn : xs.length = n * 129) (hm : ys.length = m * 129) (hc : ∀ u ∈ ys, isC u = true)
    (hb : (n + m) * 136 ≤ 140737488355328) (hba : base ≤ w.heap.size) (hk : ∀ v' w', Own w' base T_ref03_Write 129 v' (xs ++ ys) → Ex v.ownBlock.toList w w' → (v'.ownBlock = v.ownBlock ∨ v'.ownBlock = some w.heap.size) → K v' w') : wBuiltin P .append #[T_Lref03_Write, T_Lref03_Write] [v, x] w K := by
  have h : (P.info? T_ref03_Write).map (fun i => (i.zero, i.size, i.bytes)) = some (some (.agg ⟨[.int .i64 0] ++ List.replicate 128 (.int .u8 0)⟩), 129, 136) := by kernel_rfl
  cases hi : P.info? T_ref03_Write with
  | none => rw [hi] at h; cases h
  | some i =>
    rw [hi] at h
    simp only [Option.map_some, Option.some.injEq, Prod.mk.injEq] at h
    exact app_i u_T_Lref03_Write hi h.1 h.2.1 h.2.2 (by kernel_rfl) (by omega) ho hy hn hm hc hb (by omega) hba hk
theorem e_T_ref03_Disk : P.eqGuardType P.depth T_ref03_Disk = false := by kernel_rfl
theorem g_T_ref03_Disk : aggT P T_ref03_Disk 5 = true := by kernel_rfl
theorem z_T_ref03_Disk : zeroT P T_ref03_Disk = some (.agg ⟨[.slice none 0 0, .slice none 0 0, .bool false, .int .i64 0, .int .i64 0]⟩) := by kernel_rfl
theorem o_T_Luint8 : oneT P T_Luint8 = true := by kernel_rfl
theorem z_T_Luint8 : zeroT P T_Luint8 = some (.slice none 0 0) := by kernel_rfl
theorem u_T_Luint8 : P.underlying T_Luint8 = some (.slice T_uint8) := by kernel_rfl
theorem s_T_Luint8 : slT P T_Luint8 = some 1 := by kernel_rfl
theorem app_T_Luint8 {w : World} {K : Value → World → Prop} {base : Nat} {v x : Value} {xs ys : List Value} {n m : Nat} (ho : Own w base T_uint8 1 v xs) (hy : SlG w 1 x ys) (hn : xs.length = n * 1) (hm : ys.length = m * 1) (hc : ∀ u ∈ ys, isC u = true)
    (hb : (n + m) * 1 ≤ 140737488355328) (hba : base ≤ w.heap.size) (hk : ∀ v' w', Own w' base T_uint8 1 v' (xs ++ ys) → Ex v.ownBlock.toList w w' → (v'.ownBlock = v.ownBlock ∨ v'.ownBlock = some w.heap.size) → K v' w') : wBuiltin P .append #[T_Luint8, T_Luint8] [v, x] w K := by
  have h : (P.info? T_uint8).map (fun i => (i.zero, i.size, i.bytes)) = some (some (.int .u8 0), 1, 1) := by kernel_rfl
  cases hi : P.info? T_uint8 with
  | none => rw [hi] at h; cases h
  | some i =>
    rw [hi] at h
    simp only [Option.map_some, Option.some.injEq, Prod.mk.injEq] at h
    exact app_i u_T_Luint8 hi h.1 h.2.1 h.2.2 (by kernel_rfl) (by omega) ho hy hn hm hc hb (by omega) hba hk
theorem o_T_Lbool : oneT P T_Lbool = true := by kernel_rfl
theorem z_T_Lbool : zeroT P T_Lbool = some (.slice none 0 0) := by kernel_rfl
theorem u_T_Lbool : P.underlying T_Lbool = some (.slice T_bool) := by kernel_rfl
theorem s_T_Lbool : slT P T_Lbool = some 1 := by kernel_rfl
theorem app_T_Lbool {w : World} {K : Value → World → Prop} {base : Nat} {v x : Value} {xs ys : List Value} {n m : Nat} (ho : Own w base T_bool 1 v xs) (hy : SlG w 1 x ys) (hn : xs.length = n * 1) (hm : ys.length = m * 1) (hc : ∀ u ∈ ys, isC u = true)
    (hb : (n + m) * 1 ≤ 140737488355328) (hba : base ≤ w.heap.size) (hk : ∀ v' w', Own w' base T_bool 1 v' (xs ++ ys) → Ex v.ownBlock.toList w w' → (v'.ownBlock = v.ownBlock ∨ v'.ownBlock = some w.heap.size) → K v' w') : wBuiltin P .append #[T_Lbool, T_Lbool] [v, x] w K := by
  have h : (P.info? T_bool).map (fun i => (i.zero, i.size, i.bytes)) = some (some (.bool false), 1, 1) := by kernel_rfl
  cases hi : P.info? T_bool with
  | none => rw [hi] at h; cases h
  | some i =>
    rw [hi] at h
    simp only [Option.map_some, Option.some.injEq, Prod.mk.injEq] at h
    exact app_i u_T_Lbool hi h.1 h.2.1 h.2.2 (by kernel_rfl) (by omega) ho hy hn hm hc hb (by omega) hba hk
theorem e_T_law03_Act : P.eqGuardType P.depth T_law03_Act = false := by kernel_rfl
theorem g_T_law03_Act : aggT P T_law03_Act 4 = true := by kernel_rfl
theorem z_T_law03_Act : zeroT P T_law03_Act = some (.agg ⟨[.int .i64 0, .int .i64 0, .slice none 0 0, .slice none 0 0]⟩) := by kernel_rfl
theorem e_T_A128uint8 : P.eqGuardType P.depth T_A128uint8 = false := by kernel_rfl
theorem g_T_A128uint8 : aggT P T_A128uint8 128 = true := by kernel_rfl
theorem z_T_A128uint8 : zeroT P T_A128uint8 = some (.agg ⟨List.replicate 128 (.int .u8 0)⟩) := by kernel_rfl
theorem v_T_A128uint8 : P.underlying T_A128uint8 = some (.array 128 T_uint8) := by kernel_rfl
theorem a_T_A128uint8 : arT P T_A128uint8 = some (128, 1) := by kernel_rfl
theorem e_T_ref03_Write : P.eqGuardType P.depth T_ref03_Write = false := by kernel_rfl
theorem g_T_ref03_Write : aggT P T_ref03_Write 129 = true := by kernel_rfl
theorem z_T_ref03_Write : zeroT P T_ref03_Write = some (.agg ⟨[.int .i64 0] ++ List.replicate 128 (.int .u8 0)⟩) := by kernel_rfl
theorem o_T_Lref05_Use : oneT P T_Lref05_Use = true := by kernel_rfl
theorem z_T_Lref05_Use : zeroT P T_Lref05_Use = some (.slice none 0 0) := by kernel_rfl
theorem u_T_Lref05_Use : P.underlying T_Lref05_Use = some (.slice T_ref05_Use) := by kernel_rfl
theorem s_T_Lref05_Use : slT P T_Lref05_Use = some 3 := by kernel_rfl
theorem app_T_Lref05_Use {w : World} {K : Value → World → Prop} {base : Nat} {v x : Value} {xs ys : List Value} {n m : Nat} (ho : Own w base T_ref05_Use 3 v xs) (hy : SlG w 3 x ys) (hn : xs.length = n * 3) (hm : ys.length = m * 3) (hc : ∀ u ∈ ys, isC u = true)
    (hb : (n + m) * 24 ≤ 140737488355328) (hba : base ≤ w.heap.size) (hk : ∀ v' w', Own w' base T_ref05_Use 3 v' (xs ++ ys) → Ex v.ownBlock.toList w w' → (v'.ownBlock = v.ownBlock ∨ v'.ownBlock = some w.heap.size) → K v' w') : wBuiltin P .append #[T_Lref05_Use, T_Lref05_Use] [v, x] w K := by
  have h : (P.info? T_ref05_Use).map (fun i => (i.zero, i.size, i.bytes)) = some (some (.agg ⟨[.int .i64 0, .int .i64 0, .int .u32 0]⟩), 3, 24) := by kernel_rfl
  cases hi : P.info? T_ref05_Use with
  | none => rw [hi] at h; cases h
  | some i =>
    rw [hi] at h
    simp only [Option.map_some, Option.some.injEq, Prod.mk.injEq] at h
    exact app_i u_T_Lref05_Use hi h.1 h.2.1 h.2.2 (by kernel_rfl) (by omega) ho hy hn hm hc hb (by omega) hba hk
theorem o_T_Lcodec_Use : oneT P T_Lcodec_Use = true := by kernel_rfl
theorem z_T_Lcodec_Use : zeroT P T_Lcodec_Use = some (.slice none 0 0) := by kernel_rfl
theorem u_T_Lcodec_Use : P.underlying T_Lcodec_Use = some (.slice T_codec_Use) := by kernel_rfl
theorem s_T_Lcodec_Use : slT P T_Lcodec_Use = some 3 := by kernel_rfl
theorem app_T_Lcodec_Use {w : World} {K : Value → World → Prop} {base : Nat} {v x : Value} {xs ys : List Value} {n m : Nat} (ho : Own w base T_codec_Use 3 v xs) (hy : SlG w 3 x ys) (hn : xs.length = n * 3) (hm : ys.length = m * 3) (hc : ∀ u ∈ ys, isC u = true)
    (hb : (n + m) * 24 ≤ 140737488355328) (hba : base ≤ w.heap.size) (hk : ∀ v' w', Own w' base T_codec_Use 3 v' (xs ++ ys) → Ex v.ownBlock.toList w w' → (v'.ownBlock = v.ownBlock ∨ v'.ownBlock = some w.heap.size) → K v' w') : wBuiltin P .append #[T_Lcodec_Use, T_Lcodec_Use] [v, x] w K := by
  have h : (P.info? T_codec_Use).map (fun i => (i.zero, i.size, i.bytes)) = some (some (.agg ⟨[.int .i64 0, .int .i64 0, .int .u32 0]⟩), 3, 24) := by kernel_rfl
  cases hi : P.info? T_codec_Use with
  | none => rw [hi] at h; cases h
  | some i =>
    rw [hi] at h
    simp only [Option.map_some, Option.some.injEq, Prod.mk.injEq] at h
    exact app_i u_T_Lcodec_Use hi h.1 h.2.1 h.2.2 (by kernel_rfl) (by omega) ho hy hn hm hc hb (by omega) hba hk
theorem o_T_uint32 : oneT P T_uint32 = true := by kernel_rfl
theorem z_T_uint32 : zeroT P T_uint32 = some (.int .u32 0) := by kernel_rfl
theorem i_T_uint32 : P.underlying T_uint32 = some (.int .u32) := by kernel_rfl
theorem e_T_ref05_Use : P.eqGuardType P.depth T_ref05_Use = false := by kernel_rfl
theorem g_T_ref05_Use : aggT P T_ref05_Use 3 = true := by kernel_rfl
theorem z_T_ref05_Use : zeroT P T_ref05_Use = some (.agg ⟨[.int .i64 0, .int .i64 0, .int .u32 0]⟩) := by kernel_rfl
theorem e_T_codec_Use : P.eqGuardType P.depth T_codec_Use = false := by kernel_rfl
theorem g_T_codec_Use : aggT P T_codec_Use 3 = true := by kernel_rfl
theorem z_T_codec_Use : zeroT P T_codec_Use = some (.agg ⟨[.int .i64 0, .int .i64 0, .int .u32 0]⟩) := by kernel_rfl
theorem o_T_Lfloat64 : oneT P T_Lfloat64 = true := by kernel_rfl
theorem z_T_Lfloat64 : zeroT P T_Lfloat64 = some (.slice none 0 0) := by kernel_rfl
theorem u_T_Lfloat64 : P.underlying T_Lfloat64 = some (.slice T_float64) := by kernel_rfl
theorem s_T_Lfloat64 : slT P T_Lfloat64 = some 1 := by kernel_rfl
theorem app_T_Lfloat64 {w : World} {K : Value → World → Prop} {base : Nat} {v x : Value} {xs ys : List Value} {n m : Nat} (ho : Own w base T_float64 1 v xs) (hy : SlG w 1 x ys) (hn : xs.length = n * 1) (hm : ys.length = m * 1) (hc : ∀ u ∈ ys, isC u = true)
    (hb : (n + m) * 8 ≤ 140737488355328) (hba : base ≤ w.heap.size) (hk : ∀ v' w', Own w' base T_float64 1 v' (xs ++ ys) → Ex v.ownBlock.toList w w' → (v'.ownBlock = v.ownBlock ∨ v'.ownBlock = some w.heap.size) → K v' w') : wBuiltin P .append #[T_Lfloat64, T_Lfloat64] [v, x] w K := by
  have h : (P.info? T_float64).map (fun i => (i.zero, i.size, i.bytes)) = some (some (.float .f64 0), 1, 8) := by kernel_rfl
  cases hi : P.info? T_float64 with
  | none => rw [hi] at h; cases h
  | some i =>
    rw [hi] at h
    simp only [Option.map_some, Option.some.injEq, Prod.mk.injEq] at h
    exact app_i u_T_Lfloat64 hi h.1 h.2.1 h.2.2 (by kernel_rfl) (by omega) ho hy hn hm hc hb (by omega) hba hk
theorem o_T_float64 : oneT P T_float64 = true := by kernel_rfl
theorem z_T_float64 : zeroT P T_float64 = some (.float .f64 0) := by kernel_rfl
theorem o_T_Llaw10_Act : oneT P T_Llaw10_Act = true := by kernel_rfl
theorem z_T_Llaw10_Act : zeroT P T_Llaw10_Act = some (.slice none 0 0) := by kernel_rfl
theorem u_T_Llaw10_Act : P.underlying T_Llaw10_Act = some (.slice T_law10_Act) := by kernel_rfl
theorem s_T_Llaw10_Act : slT P T_Llaw10_Act = some 7 := by kernel_rfl
theorem app_T_Llaw10_Act {w : World} {K : Value → World → Prop} {base : Nat} {v x : Value} {xs ys : List Value} {n m : Nat} (ho : Own w base T_law10_Act 7 v xs) (hy : SlG w 7 x ys) (hn : xs.length = n * 7) (hm : ys.length = m * 7) (hc : ∀ u ∈ ys, isC u = true)
    (hb : (n + m) * 56 ≤ 140737488355328) (hba : base ≤ w.heap.size) (hk : ∀ v' w', Own w' base T_law10_Act 7 v' (xs ++ ys) → Ex v.ownBlock.toList w w' → (v'.ownBlock = v.ownBlock ∨ v'.ownBlock = some w.heap.size) → K v' w') : wBuiltin P .append #[T_Llaw10_Act, T_Llaw10_Act] [v, x] w K := by
  have h : (P.info? T_law10_Act).map (fun i => (i.zero, i.size, i.bytes)) = some (some (.agg ⟨[.int .i64 0, .int .i64 0, .int .i64 0, .int .i64 0, .int .u32 0, .int .i64 0, .int .i64 0]⟩), 7, 56) := by kernel_rfl
  cases hi : P.info? T_law10_Act with
  | none => rw [hi] at h; cases h
  | some i =>
    rw [hi] at h
    simp only [Option.map_some, Option.some.injEq, Prod.mk.injEq] at h
    exact app_i u_T_Llaw10_Act hi h.1 h.2.1 h.2.2 (by kernel_rfl) (by omega) ho hy hn hm hc hb (by omega) hba hk
theorem o_T_Lint : oneT P T_Lint = true := by kernel_rfl
theorem z_T_Lint : zeroT P T_Lint = some (.slice none 0 0) := by kernel_rfl
theorem u_T_Lint : P.underlying T_Lint = some (.slice T_int) := by kernel_rfl
theorem s_T_Lint : slT P T_Lint = some 1 := by kernel_rfl
theorem app_T_Lint {w : World} {K : Value → World → Prop} {base : Nat} {v x : Value} {xs ys : List Value} {n m : Nat} (ho : Own w base T_int 1 v xs) (hy : SlG w 1 x ys) (hn : xs.length = n * 1) (hm : ys.length = m * 1) (hc : ∀ u ∈ ys, isC u = true)
    (hb : (n + m) * 8 ≤ 140737488355328) (hba : base ≤ w.heap.size) (hk : ∀ v' w', Own w' base T_int 1 v' (xs ++ ys) → Ex v.ownBlock.toList w w' → (v'.ownBlock = v.ownBlock ∨ v'.ownBlock = some w.heap.size) → K v' w') : wBuiltin P .append #[T_Lint, T_Lint] [v, x] w K := by
  have h : (P.info? T_int).map (fun i => (i.zero, i.size, i.bytes)) = some (some (.int .i64 0), 1, 8) := by kernel_rfl
  cases hi : P.info? T_int with
  | none => rw [hi] at h; cases h
  | some i =>
    rw [hi] at h
    simp only [Option.map_some, Option.some.injEq, Prod.mk.injEq] at h
    exact app_i u_T_Lint hi h.1 h.2.1 h.2.2 (by kernel_rfl) (by omega) ho hy hn hm hc hb (by omega) hba hk
theorem o_T_pimap_Map : oneT P T_pimap_Map = true := by kernel_rfl
theorem z_T_pimap_Map : zeroT P T_pimap_Map = some (.pointer none) := by kernel_rfl
theorem o_T_pusage_Table : oneT P T_pusage_Table = true := by kernel_rfl
theorem z_T_pusage_Table : zeroT P T_pusage_Table = some (.pointer none) := by kernel_rfl
theorem o_T_mapAintint : oneT P T_mapAintint = true := by kernel_rfl
theorem z_T_mapAintint : zeroT P T_mapAintint = some (.map none) := by kernel_rfl
theorem e_T_ref05_Slot : P.eqGuardType P.depth T_ref05_Slot = false := by kernel_rfl
theorem g_T_ref05_Slot : aggT P T_ref05_Slot 4 = true := by kernel_rfl
theorem z_T_ref05_Slot : zeroT P T_ref05_Slot = some (.agg ⟨[.int .i64 0, .int .u32 0, .int .i64 0, .int .i64 0]⟩) := by kernel_rfl
theorem e_T_law10_Act : P.eqGuardType P.depth T_law10_Act = false := by kernel_rfl
theorem g_T_law10_Act : aggT P T_law10_Act 7 = true := by kernel_rfl
theorem z_T_law10_Act : zeroT P T_law10_Act = some (.agg ⟨[.int .i64 0, .int .i64 0, .int .i64 0, .int .i64 0, .int .u32 0, .int .i64 0, .int .i64 0]⟩) := by kernel_rfl
theorem o_T_api_Errno : oneT P T_api_Errno = true := by kernel_rfl
theorem z_T_api_Errno : zeroT P T_api_Errno = some (.int .i64 0) := by kernel_rfl
theorem i_T_api_Errno : P.underlying T_api_Errno = some (.int .i64) := by kernel_rfl
theorem e_T_codec_Slot : P.eqGuardType P.depth T_codec_Slot = false := by kernel_rfl
theorem g_T_codec_Slot : aggT P T_codec_Slot 4 = true := by kernel_rfl
theorem z_T_codec_Slot : zeroT P T_codec_Slot = some (.agg ⟨[.int .i64 0, .int .u32 0, .int .i64 0, .int .i64 0]⟩) := by kernel_rfl
theorem o_T_Lapi_Sector : oneT P T_Lapi_Sector = true := by kernel_rfl
theorem z_T_Lapi_Sector : zeroT P T_Lapi_Sector = some (.slice none 0 0) := by kernel_rfl
theorem u_T_Lapi_Sector : P.underlying T_Lapi_Sector = some (.slice T_api_Sector) := by kernel_rfl
theorem s_T_Lapi_Sector : slT P T_Lapi_Sector = some 128 := by kernel_rfl
theorem app_T_Lapi_Sector {w : World} {K : Value → World → Prop} {base : Nat} {v x : Value} {xs ys : List Value} {n m : Nat} (ho : Own w base T_api_Sector 128 v xs) (hy : SlG w 128 x ys) (hn : xs.length = n * 128) (hm : ys.length = m * 128) (hc : ∀ u ∈ ys, isC u = true)
    (hb : (n + m) * 128 ≤ 140737488355328) (hba : base ≤ w.heap.size) (hk : ∀ v' w', Own w' base T_api_Sector 128 v' (xs ++ ys) → Ex v.ownBlock.toList w w' → (v'.ownBlock = v.ownBlock ∨ v'.ownBlock = some w.heap.size) → K v' w') : wBuiltin P .append #[T_Lapi_Sector, T_Lapi_Sector] [v, x] w K := by
  have h : (P.info? T_api_Sector).map (fun i => (i.zero, i.size, i.bytes)) = some (some (.agg ⟨List.replicate 128 (.int .u8 0)⟩), 128, 128) := by kernel_rfl
  cases hi : P.info? T_api_Sector with
  | none => rw [hi] at h; cases h
  | some i =>
    rw [hi] at h
    simp only [Option.map_some, Option.some.injEq, Prod.mk.injEq] at h
    exact app_i u_T_Lapi_Sector hi h.1 h.2.1 h.2.2 (by kernel_rfl) (by omega) ho hy hn hm hc hb (by omega) hba hk
theorem e_T_api_Sector : P.eqGuardType P.depth T_api_Sector = false := by kernel_rfl
theorem g_T_api_Sector : aggT P T_api_Sector 128 = true := by kernel_rfl
theorem z_T_api_Sector : zeroT P T_api_Sector = some (.agg ⟨List.replicate 128 (.int .u8 0)⟩) := by kernel_rfl
theorem v_T_api_Sector : P.underlying T_api_Sector = some (.array 128 T_uint8) := by kernel_rfl
theorem a_T_api_Sector : arT P T_api_Sector = some (128, 1) := by kernel_rfl
theorem e_T_A8int : P.eqGuardType P.depth T_A8int = false := by kernel_rfl
theorem g_T_A8int : aggT P T_A8int 8 = true := by kernel_rfl
theorem z_T_A8int : zeroT P T_A8int = some (.agg ⟨List.replicate 8 (.int .i64 0)⟩) := by kernel_rfl
theorem v_T_A8int : P.underlying T_A8int = some (.array 8 T_int) := by kernel_rfl
theorem a_T_A8int : arT P T_A8int = some (8, 1) := by kernel_rfl
theorem e_T_ref05_Inode : P.eqGuardType P.depth T_ref05_Inode = false := by kernel_rfl
theorem g_T_ref05_Inode : aggT P T_ref05_Inode 15 = true := by kernel_rfl
theorem z_T_ref05_Inode : zeroT P T_ref05_Inode = some (.agg ⟨[.int .u32 0, .int .u32 0, .int .i64 0, .int .i64 0, .int .u32 0] ++ List.replicate 10 (.int .i64 0)⟩) := by kernel_rfl
theorem e_T_codec_Inode : P.eqGuardType P.depth T_codec_Inode = false := by kernel_rfl
theorem g_T_codec_Inode : aggT P T_codec_Inode 15 = true := by kernel_rfl
theorem z_T_codec_Inode : zeroT P T_codec_Inode = some (.agg ⟨[.int .u32 0, .int .u32 0, .int .i64 0, .int .i64 0, .int .u32 0] ++ List.replicate 10 (.int .i64 0)⟩) := by kernel_rfl
theorem o_T_uint64 : oneT P T_uint64 = true := by kernel_rfl
theorem z_T_uint64 : zeroT P T_uint64 = some (.int .u64 0) := by kernel_rfl
theorem i_T_uint64 : P.underlying T_uint64 = some (.int .u64) := by kernel_rfl
theorem e_T_ref05_Header : P.eqGuardType P.depth T_ref05_Header = false := by kernel_rfl
theorem g_T_ref05_Header : aggT P T_ref05_Header 6 = true := by kernel_rfl
theorem z_T_ref05_Header : zeroT P T_ref05_Header = some (.agg ⟨[.int .u64 0, .int .u64 0, .int .i64 0, .int .i64 0, .int .i64 0, .int .u32 0]⟩) := by kernel_rfl
theorem e_T_codec_Header : P.eqGuardType P.depth T_codec_Header = false := by kernel_rfl
theorem g_T_codec_Header : aggT P T_codec_Header 6 = true := by kernel_rfl
theorem z_T_codec_Header : zeroT P T_codec_Header = some (.agg ⟨[.int .u64 0, .int .u64 0, .int .i64 0, .int .i64 0, .int .i64 0, .int .u32 0]⟩) := by kernel_rfl
theorem e_T_A32int : P.eqGuardType P.depth T_A32int = false := by kernel_rfl
theorem g_T_A32int : aggT P T_A32int 32 = true := by kernel_rfl
theorem z_T_A32int : zeroT P T_A32int = some (.agg ⟨List.replicate 32 (.int .i64 0)⟩) := by kernel_rfl
theorem v_T_A32int : P.underlying T_A32int = some (.array 32 T_int) := by kernel_rfl
theorem a_T_A32int : arT P T_A32int = some (32, 1) := by kernel_rfl
theorem o_T_Lref05_Slot : oneT P T_Lref05_Slot = true := by kernel_rfl
theorem z_T_Lref05_Slot : zeroT P T_Lref05_Slot = some (.slice none 0 0) := by kernel_rfl
theorem u_T_Lref05_Slot : P.underlying T_Lref05_Slot = some (.slice T_ref05_Slot) := by kernel_rfl
theorem s_T_Lref05_Slot : slT P T_Lref05_Slot = some 4 := by kernel_rfl
theorem app_T_Lref05_Slot {w : World} {K : Value → World → Prop} {base : Nat} {v x : Value} {xs ys : List Value} {n m : Nat} (ho : Own w base T_ref05_Slot 4 v xs) (hy : SlG w 4 x ys) (hn : xs.length = n * 4) (hm : ys.length = m * 4) (hc : ∀ u ∈ ys, isC u = true)
    (hb : (n + m) * 32 ≤ 140737488355328) (hba : base ≤ w.heap.size) (hk : ∀ v' w', Own w' base T_ref05_Slot 4 v' (xs ++ ys) → Ex v.ownBlock.toList w w' → (v'.ownBlock = v.ownBlock ∨ v'.ownBlock = some w.heap.size) → K v' w') : wBuiltin P .append #[T_Lref05_Slot, T_Lref05_Slot] [v, x] w K := by
  have h : (P.info? T_ref05_Slot).map (fun i => (i.zero, i.size, i.bytes)) = some (some (.agg ⟨[.int .i64 0, .int .u32 0, .int .i64 0, .int .i64 0]⟩), 4, 32) := by kernel_rfl
  cases hi : P.info? T_ref05_Slot with
  | none => rw [hi] at h; cases h
  | some i =>
    rw [hi] at h
    simp only [Option.map_some, Option.some.injEq, Prod.mk.injEq] at h
    exact app_i u_T_Lref05_Slot hi h.1 h.2.1 h.2.2 (by kernel_rfl) (by omega) ho hy hn hm hc hb (by omega) hba hk
theorem o_T_Lcodec_Slot : oneT P T_Lcodec_Slot = true := by kernel_rfl
theorem z_T_Lcodec_Slot : zeroT P T_Lcodec_Slot = some (.slice none 0 0) := by kernel_rfl
theorem u_T_Lcodec_Slot : P.underlying T_Lcodec_Slot = some (.slice T_codec_Slot) := by kernel_rfl
theorem s_T_Lcodec_Slot : slT P T_Lcodec_Slot = some 4 := by kernel_rfl
theorem app_T_Lcodec_Slot {w : World} {K : Value → World → Prop} {base : Nat} {v x : Value} {xs ys : List Value} {n m : Nat} (ho : Own w base T_codec_Slot 4 v xs) (hy : SlG w 4 x ys) (hn : xs.length = n * 4) (hm : ys.length = m * 4) (hc : ∀ u ∈ ys, isC u = true)
    (hb : (n + m) * 32 ≤ 140737488355328) (hba : base ≤ w.heap.size) (hk : ∀ v' w', Own w' base T_codec_Slot 4 v' (xs ++ ys) → Ex v.ownBlock.toList w w' → (v'.ownBlock = v.ownBlock ∨ v'.ownBlock = some w.heap.size) → K v' w') : wBuiltin P .append #[T_Lcodec_Slot, T_Lcodec_Slot] [v, x] w K := by
  have h : (P.info? T_codec_Slot).map (fun i => (i.zero, i.size, i.bytes)) = some (some (.agg ⟨[.int .i64 0, .int .u32 0, .int .i64 0, .int .i64 0]⟩), 4, 32) := by kernel_rfl
  cases hi : P.info? T_codec_Slot with
  | none => rw [hi] at h; cases h
  | some i =>
    rw [hi] at h
    simp only [Option.map_some, Option.some.injEq, Prod.mk.injEq] at h
    exact app_i u_T_Lcodec_Slot hi h.1 h.2.1 h.2.2 (by kernel_rfl) (by omega) ho hy hn hm hc hb (by omega) hba hk
theorem o_T_Lref05_Record : oneT P T_Lref05_Record = true := by kernel_rfl
theorem z_T_Lref05_Record : zeroT P T_Lref05_Record = some (.slice none 0 0) := by kernel_rfl
theorem u_T_Lref05_Record : P.underlying T_Lref05_Record = some (.slice T_ref05_Record) := by kernel_rfl
theorem s_T_Lref05_Record : slT P T_Lref05_Record = some 4 := by kernel_rfl
theorem app_T_Lref05_Record {w : World} {K : Value → World → Prop} {base : Nat} {v x : Value} {xs ys : List Value} {n m : Nat} (ho : Own w base T_ref05_Record 4 v xs) (hy : SlG w 4 x ys) (hn : xs.length = n * 4) (hm : ys.length = m * 4) (hc : ∀ u ∈ ys, isC u = true)
    (hb : (n + m) * 24 ≤ 140737488355328) (hba : base ≤ w.heap.size) (hk : ∀ v' w', Own w' base T_ref05_Record 4 v' (xs ++ ys) → Ex v.ownBlock.toList w w' → (v'.ownBlock = v.ownBlock ∨ v'.ownBlock = some w.heap.size) → K v' w') : wBuiltin P .append #[T_Lref05_Record, T_Lref05_Record] [v, x] w K := by
  have h : (P.info? T_ref05_Record).map (fun i => (i.zero, i.size, i.bytes)) = some (some (.agg ⟨[.int .u32 0, .int .u32 0, .int .i64 0, .int .i64 0]⟩), 4, 24) := by kernel_rfl
  cases hi : P.info? T_ref05_Record with
  | none => rw [hi] at h; cases h
  | some i =>
    rw [hi] at h
    simp only [Option.map_some, Option.some.injEq, Prod.mk.injEq] at h
    exact app_i u_T_Lref05_Record hi h.1 h.2.1 h.2.2 (by kernel_rfl) (by omega) ho hy hn hm hc hb (by omega) hba hk
theorem o_T_Lcodec_Record : oneT P T_Lcodec_Record = true := by kernel_rfl
theorem z_T_Lcodec_Record : zeroT P T_Lcodec_Record = some (.slice none 0 0) := by kernel_rfl
theorem u_T_Lcodec_Record : P.underlying T_Lcodec_Record = some (.slice T_codec_Record) := by kernel_rfl
theorem s_T_Lcodec_Record : slT P T_Lcodec_Record = some 4 := by kernel_rfl
theorem app_T_Lcodec_Record {w : World} {K : Value → World → Prop} {base : Nat} {v x : Value} {xs ys : List Value} {n m : Nat} (ho : Own w base T_codec_Record 4 v xs) (hy : SlG w 4 x ys) (hn : xs.length = n * 4) (hm : ys.length = m * 4) (hc : ∀ u ∈ ys, isC u = true)
    (hb : (n + m) * 24 ≤ 140737488355328) (hba : base ≤ w.heap.size) (hk : ∀ v' w', Own w' base T_codec_Record 4 v' (xs ++ ys) → Ex v.ownBlock.toList w w' → (v'.ownBlock = v.ownBlock ∨ v'.ownBlock = some w.heap.size) → K v' w') : wBuiltin P .append #[T_Lcodec_Record, T_Lcodec_Record] [v, x] w K := by
  have h : (P.info? T_codec_Record).map (fun i => (i.zero, i.size, i.bytes)) = some (some (.agg ⟨[.int .u32 0, .int .u32 0, .int .i64 0, .int .i64 0]⟩), 4, 24) := by kernel_rfl
  cases hi : P.info? T_codec_Record with
  | none => rw [hi] at h; cases h
  | some i =>
    rw [hi] at h
    simp only [Option.map_some, Option.some.injEq, Prod.mk.injEq] at h
    exact app_i u_T_Lcodec_Record hi h.1 h.2.1 h.2.2 (by kernel_rfl) (by omega) ho hy hn hm hc hb (by omega) hba hk
theorem e_T_ref05_Record : P.eqGuardType P.depth T_ref05_Record = false := by kernel_rfl
theorem g_T_ref05_Record : aggT P T_ref05_Record 4 = true := by kernel_rfl
theorem z_T_ref05_Record : zeroT P T_ref05_Record = some (.agg ⟨[.int .u32 0, .int .u32 0, .int .i64 0, .int .i64 0]⟩) := by kernel_rfl
theorem e_T_codec_Record : P.eqGuardType P.depth T_codec_Record = false := by kernel_rfl
theorem g_T_codec_Record : aggT P T_codec_Record 4 = true := by kernel_rfl
theorem z_T_codec_Record : zeroT P T_codec_Record = some (.agg ⟨[.int .u32 0, .int .u32 0, .int .i64 0, .int .i64 0]⟩) := by kernel_rfl
theorem o_T_Lref05_Entry : oneT P T_Lref05_Entry = true := by kernel_rfl
theorem z_T_Lref05_Entry : zeroT P T_Lref05_Entry = some (.slice none 0 0) := by kernel_rfl
theorem u_T_Lref05_Entry : P.underlying T_Lref05_Entry = some (.slice T_ref05_Entry) := by kernel_rfl
theorem s_T_Lref05_Entry : slT P T_Lref05_Entry = some 4 := by kernel_rfl
theorem app_T_Lref05_Entry {w : World} {K : Value → World → Prop} {base : Nat} {v x : Value} {xs ys : List Value} {n m : Nat} (ho : Own w base T_ref05_Entry 4 v xs) (hy : SlG w 4 x ys) (hn : xs.length = n * 4) (hm : ys.length = m * 4) (hc : ∀ u ∈ ys, isC u = true)
    (hb : (n + m) * 24 ≤ 140737488355328) (hba : base ≤ w.heap.size) (hk : ∀ v' w', Own w' base T_ref05_Entry 4 v' (xs ++ ys) → Ex v.ownBlock.toList w w' → (v'.ownBlock = v.ownBlock ∨ v'.ownBlock = some w.heap.size) → K v' w') : wBuiltin P .append #[T_Lref05_Entry, T_Lref05_Entry] [v, x] w K := by
  have h : (P.info? T_ref05_Entry).map (fun i => (i.zero, i.size, i.bytes)) = some (some (.agg ⟨[.int .i64 0, .int .u32 0, .int .u32 0, .int .i64 0]⟩), 4, 24) := by kernel_rfl
  cases hi : P.info? T_ref05_Entry with
  | none => rw [hi] at h; cases h
  | some i =>
    rw [hi] at h
    simp only [Option.map_some, Option.some.injEq, Prod.mk.injEq] at h
    exact app_i u_T_Lref05_Entry hi h.1 h.2.1 h.2.2 (by kernel_rfl) (by omega) ho hy hn hm hc hb (by omega) hba hk
theorem e_T_ref05_Summary : P.eqGuardType P.depth T_ref05_Summary = false := by kernel_rfl
theorem g_T_ref05_Summary : aggT P T_ref05_Summary 6 = true := by kernel_rfl
theorem z_T_ref05_Summary : zeroT P T_ref05_Summary = some (.agg ⟨[.int .u64 0, .int .u64 0, .bool false, .int .i64 0, .int .u32 0, .slice none 0 0]⟩) := by kernel_rfl
theorem o_T_Lcodec_Entry : oneT P T_Lcodec_Entry = true := by kernel_rfl
theorem z_T_Lcodec_Entry : zeroT P T_Lcodec_Entry = some (.slice none 0 0) := by kernel_rfl
theorem u_T_Lcodec_Entry : P.underlying T_Lcodec_Entry = some (.slice T_codec_Entry) := by kernel_rfl
theorem s_T_Lcodec_Entry : slT P T_Lcodec_Entry = some 4 := by kernel_rfl
theorem app_T_Lcodec_Entry {w : World} {K : Value → World → Prop} {base : Nat} {v x : Value} {xs ys : List Value} {n m : Nat} (ho : Own w base T_codec_Entry 4 v xs) (hy : SlG w 4 x ys) (hn : xs.length = n * 4) (hm : ys.length = m * 4) (hc : ∀ u ∈ ys, isC u = true)
    (hb : (n + m) * 24 ≤ 140737488355328) (hba : base ≤ w.heap.size) (hk : ∀ v' w', Own w' base T_codec_Entry 4 v' (xs ++ ys) → Ex v.ownBlock.toList w w' → (v'.ownBlock = v.ownBlock ∨ v'.ownBlock = some w.heap.size) → K v' w') : wBuiltin P .append #[T_Lcodec_Entry, T_Lcodec_Entry] [v, x] w K := by
  have h : (P.info? T_codec_Entry).map (fun i => (i.zero, i.size, i.bytes)) = some (some (.agg ⟨[.int .i64 0, .int .u32 0, .int .u32 0, .int .i64 0]⟩), 4, 24) := by kernel_rfl
  cases hi : P.info? T_codec_Entry with
  | none => rw [hi] at h; cases h
  | some i =>
    rw [hi] at h
    simp only [Option.map_some, Option.some.injEq, Prod.mk.injEq] at h
    exact app_i u_T_Lcodec_Entry hi h.1 h.2.1 h.2.2 (by kernel_rfl) (by omega) ho hy hn hm hc hb (by omega) hba hk
theorem e_T_codec_Summary : P.eqGuardType P.depth T_codec_Summary = false := by kernel_rfl
theorem g_T_codec_Summary : aggT P T_codec_Summary 6 = true := by kernel_rfl
theorem z_T_codec_Summary : zeroT P T_codec_Summary = some (.agg ⟨[.int .u64 0, .int .u64 0, .bool false, .int .i64 0, .int .u32 0, .slice none 0 0]⟩) := by kernel_rfl
theorem e_T_ref09_Table : P.eqGuardType P.depth T_ref09_Table = false := by kernel_rfl
theorem g_T_ref09_Table : aggT P T_ref09_Table 2 = true := by kernel_rfl
theorem z_T_ref09_Table : zeroT P T_ref09_Table = some (.agg ⟨[.int .i64 0, .slice none 0 0]⟩) := by kernel_rfl
theorem o_T_Llaw09_Act : oneT P T_Llaw09_Act = true := by kernel_rfl
theorem z_T_Llaw09_Act : zeroT P T_Llaw09_Act = some (.slice none 0 0) := by kernel_rfl
theorem u_T_Llaw09_Act : P.underlying T_Llaw09_Act = some (.slice T_law09_Act) := by kernel_rfl
theorem s_T_Llaw09_Act : slT P T_Llaw09_Act = some 4 := by kernel_rfl
theorem app_T_Llaw09_Act {w : World} {K : Value → World → Prop} {base : Nat} {v x : Value} {xs ys : List Value} {n m : Nat} (ho : Own w base T_law09_Act 4 v xs) (hy : SlG w 4 x ys) (hn : xs.length = n * 4) (hm : ys.length = m * 4) (hc : ∀ u ∈ ys, isC u = true)
    (hb : (n + m) * 32 ≤ 140737488355328) (hba : base ≤ w.heap.size) (hk : ∀ v' w', Own w' base T_law09_Act 4 v' (xs ++ ys) → Ex v.ownBlock.toList w w' → (v'.ownBlock = v.ownBlock ∨ v'.ownBlock = some w.heap.size) → K v' w') : wBuiltin P .append #[T_Llaw09_Act, T_Llaw09_Act] [v, x] w K := by
  have h : (P.info? T_law09_Act).map (fun i => (i.zero, i.size, i.bytes)) = some (some (.agg ⟨[.int .i64 0, .int .i64 0, .int .i64 0, .int .u32 0]⟩), 4, 32) := by kernel_rfl
  cases hi : P.info? T_law09_Act with
  | none => rw [hi] at h; cases h
  | some i =>
    rw [hi] at h
    simp only [Option.map_some, Option.some.injEq, Prod.mk.injEq] at h
    exact app_i u_T_Llaw09_Act hi h.1 h.2.1 h.2.2 (by kernel_rfl) (by omega) ho hy hn hm hc hb (by omega) hba hk
theorem e_T_law09_Act : P.eqGuardType P.depth T_law09_Act = false := by kernel_rfl
theorem g_T_law09_Act : aggT P T_law09_Act 4 = true := by kernel_rfl
theorem z_T_law09_Act : zeroT P T_law09_Act = some (.agg ⟨[.int .i64 0, .int .i64 0, .int .i64 0, .int .u32 0]⟩) := by kernel_rfl
theorem o_T_Luint64 : oneT P T_Luint64 = true := by kernel_rfl
theorem z_T_Luint64 : zeroT P T_Luint64 = some (.slice none 0 0) := by kernel_rfl
theorem u_T_Luint64 : P.underlying T_Luint64 = some (.slice T_uint64) := by kernel_rfl
theorem s_T_Luint64 : slT P T_Luint64 = some 1 := by kernel_rfl
theorem app_T_Luint64 {w : World} {K : Value → World → Prop} {base : Nat} {v x : Value} {xs ys : List Value} {n m : Nat} (ho : Own w base T_uint64 1 v xs) (hy : SlG w 1 x ys) (hn : xs.length = n * 1) (hm : ys.length = m * 1) (hc : ∀ u ∈ ys, isC u = true)
    (hb : (n + m) * 8 ≤ 140737488355328) (hba : base ≤ w.heap.size) (hk : ∀ v' w', Own w' base T_uint64 1 v' (xs ++ ys) → Ex v.ownBlock.toList w w' → (v'.ownBlock = v.ownBlock ∨ v'.ownBlock = some w.heap.size) → K v' w') : wBuiltin P .append #[T_Luint64, T_Luint64] [v, x] w K := by
  have h : (P.info? T_uint64).map (fun i => (i.zero, i.size, i.bytes)) = some (some (.int .u64 0), 1, 8) := by kernel_rfl
  cases hi : P.info? T_uint64 with
  | none => rw [hi] at h; cases h
  | some i =>
    rw [hi] at h
    simp only [Option.map_some, Option.some.injEq, Prod.mk.injEq] at h
    exact app_i u_T_Luint64 hi h.1 h.2.1 h.2.2 (by kernel_rfl) (by omega) ho hy hn hm hc hb (by omega) hba hk
theorem e_T_ref04_Geom : P.eqGuardType P.depth T_ref04_Geom = false := by kernel_rfl
theorem g_T_ref04_Geom : aggT P T_ref04_Geom 3 = true := by kernel_rfl
theorem z_T_ref04_Geom : zeroT P T_ref04_Geom = some (.agg ⟨[.int .i64 0, .int .i64 0, .int .i64 0]⟩) := by kernel_rfl
theorem e_T_ref11_Place : P.eqGuardType P.depth T_ref11_Place = false := by kernel_rfl
theorem g_T_ref11_Place : aggT P T_ref11_Place 4 = true := by kernel_rfl
theorem z_T_ref11_Place : zeroT P T_ref11_Place = some (.agg ⟨[.int .i64 0, .int .i64 0, .int .i64 0, .int .u64 0]⟩) := by kernel_rfl
theorem e_T_slog_Place : P.eqGuardType P.depth T_slog_Place = false := by kernel_rfl
theorem g_T_slog_Place : aggT P T_slog_Place 4 = true := by kernel_rfl
theorem z_T_slog_Place : zeroT P T_slog_Place = some (.agg ⟨[.int .i64 0, .int .i64 0, .int .i64 0, .int .u64 0]⟩) := by kernel_rfl
theorem e_T_slog_Layout : P.eqGuardType P.depth T_slog_Layout = false := by kernel_rfl
theorem g_T_slog_Layout : aggT P T_slog_Layout 6 = true := by kernel_rfl
theorem z_T_slog_Layout : zeroT P T_slog_Layout = some (.agg ⟨[.slice none 0 0, .int .i64 0, .int .i64 0, .int .i64 0, .int .u64 0, .int .i64 0]⟩) := by kernel_rfl
theorem e_T_geom_Geom : P.eqGuardType P.depth T_geom_Geom = false := by kernel_rfl
theorem g_T_geom_Geom : aggT P T_geom_Geom 3 = true := by kernel_rfl
theorem z_T_geom_Geom : zeroT P T_geom_Geom = some (.agg ⟨[.int .i64 0, .int .i64 0, .int .i64 0]⟩) := by kernel_rfl
theorem o_T_Lref11_Place : oneT P T_Lref11_Place = true := by kernel_rfl
theorem z_T_Lref11_Place : zeroT P T_Lref11_Place = some (.slice none 0 0) := by kernel_rfl
theorem u_T_Lref11_Place : P.underlying T_Lref11_Place = some (.slice T_ref11_Place) := by kernel_rfl
theorem s_T_Lref11_Place : slT P T_Lref11_Place = some 4 := by kernel_rfl
theorem app_T_Lref11_Place {w : World} {K : Value → World → Prop} {base : Nat} {v x : Value} {xs ys : List Value} {n m : Nat} (ho : Own w base T_ref11_Place 4 v xs) (hy : SlG w 4 x ys) (hn : xs.length = n * 4) (hm : ys.length = m * 4) (hc : ∀ u ∈ ys, isC u = true)
    (hb : (n + m) * 32 ≤ 140737488355328) (hba : base ≤ w.heap.size) (hk : ∀ v' w', Own w' base T_ref11_Place 4 v' (xs ++ ys) → Ex v.ownBlock.toList w w' → (v'.ownBlock = v.ownBlock ∨ v'.ownBlock = some w.heap.size) → K v' w') : wBuiltin P .append #[T_Lref11_Place, T_Lref11_Place] [v, x] w K := by
  have h : (P.info? T_ref11_Place).map (fun i => (i.zero, i.size, i.bytes)) = some (some (.agg ⟨[.int .i64 0, .int .i64 0, .int .i64 0, .int .u64 0]⟩), 4, 32) := by kernel_rfl
  cases hi : P.info? T_ref11_Place with
  | none => rw [hi] at h; cases h
  | some i =>
    rw [hi] at h
    simp only [Option.map_some, Option.some.injEq, Prod.mk.injEq] at h
    exact app_i u_T_Lref11_Place hi h.1 h.2.1 h.2.2 (by kernel_rfl) (by omega) ho hy hn hm hc hb (by omega) hba hk
theorem o_T_Llaw11_Step : oneT P T_Llaw11_Step = true := by kernel_rfl
theorem z_T_Llaw11_Step : zeroT P T_Llaw11_Step = some (.slice none 0 0) := by kernel_rfl
theorem u_T_Llaw11_Step : P.underlying T_Llaw11_Step = some (.slice T_law11_Step) := by kernel_rfl
theorem s_T_Llaw11_Step : slT P T_Llaw11_Step = some 5 := by kernel_rfl
theorem app_T_Llaw11_Step {w : World} {K : Value → World → Prop} {base : Nat} {v x : Value} {xs ys : List Value} {n m : Nat} (ho : Own w base T_law11_Step 5 v xs) (hy : SlG w 5 x ys) (hn : xs.length = n * 5) (hm : ys.length = m * 5) (hc : ∀ u ∈ ys, isC u = true)
    (hb : (n + m) * 64 ≤ 140737488355328) (hba : base ≤ w.heap.size) (hk : ∀ v' w', Own w' base T_law11_Step 5 v' (xs ++ ys) → Ex v.ownBlock.toList w w' → (v'.ownBlock = v.ownBlock ∨ v'.ownBlock = some w.heap.size) → K v' w') : wBuiltin P .append #[T_Llaw11_Step, T_Llaw11_Step] [v, x] w K := by
  have h : (P.info? T_law11_Step).map (fun i => (i.zero, i.size, i.bytes)) = some (some (.agg ⟨[.slice none 0 0, .int .u32 0, .bool false, .int .i64 0, .slice none 0 0]⟩), 5, 64) := by kernel_rfl
  cases hi : P.info? T_law11_Step with
  | none => rw [hi] at h; cases h
  | some i =>
    rw [hi] at h
    simp only [Option.map_some, Option.some.injEq, Prod.mk.injEq] at h
    exact app_i u_T_Llaw11_Step hi h.1 h.2.1 h.2.2 (by kernel_rfl) (by omega) ho hy hn hm hc hb (by omega) hba hk
theorem o_T_Lref11_Item : oneT P T_Lref11_Item = true := by kernel_rfl
theorem z_T_Lref11_Item : zeroT P T_Lref11_Item = some (.slice none 0 0) := by kernel_rfl
theorem u_T_Lref11_Item : P.underlying T_Lref11_Item = some (.slice T_ref11_Item) := by kernel_rfl
theorem s_T_Lref11_Item : slT P T_Lref11_Item = some 132 := by kernel_rfl
theorem app_T_Lref11_Item {w : World} {K : Value → World → Prop} {base : Nat} {v x : Value} {xs ys : List Value} {n m : Nat} (ho : Own w base T_ref11_Item 132 v xs) (hy : SlG w 132 x ys) (hn : xs.length = n * 132) (hm : ys.length = m * 132) (hc : ∀ u ∈ ys, isC u = true)
    (hb : (n + m) * 152 ≤ 140737488355328) (hba : base ≤ w.heap.size) (hk : ∀ v' w', Own w' base T_ref11_Item 132 v' (xs ++ ys) → Ex v.ownBlock.toList w w' → (v'.ownBlock = v.ownBlock ∨ v'.ownBlock = some w.heap.size) → K v' w') : wBuiltin P .append #[T_Lref11_Item, T_Lref11_Item] [v, x] w K := by
  have h : (P.info? T_ref11_Item).map (fun i => (i.zero, i.size, i.bytes)) = some (some (.agg ⟨[.int .i64 0, .int .u32 0, .int .u32 0, .int .i64 0] ++ List.replicate 128 (.int .u8 0)⟩), 132, 152) := by kernel_rfl
  cases hi : P.info? T_ref11_Item with
  | none => rw [hi] at h; cases h
  | some i =>
    rw [hi] at h
    simp only [Option.map_some, Option.some.injEq, Prod.mk.injEq] at h
    exact app_i u_T_Lref11_Item hi h.1 h.2.1 h.2.2 (by kernel_rfl) (by omega) ho hy hn hm hc hb (by omega) hba hk
theorem e_T_ref05_Entry : P.eqGuardType P.depth T_ref05_Entry = false := by kernel_rfl
theorem g_T_ref05_Entry : aggT P T_ref05_Entry 4 = true := by kernel_rfl
theorem z_T_ref05_Entry : zeroT P T_ref05_Entry = some (.agg ⟨[.int .i64 0, .int .u32 0, .int .u32 0, .int .i64 0]⟩) := by kernel_rfl
theorem e_T_ref11_Item : P.eqGuardType P.depth T_ref11_Item = false := by kernel_rfl
theorem g_T_ref11_Item : aggT P T_ref11_Item 132 = true := by kernel_rfl
theorem z_T_ref11_Item : zeroT P T_ref11_Item = some (.agg ⟨[.int .i64 0, .int .u32 0, .int .u32 0, .int .i64 0] ++ List.replicate 128 (.int .u8 0)⟩) := by kernel_rfl
theorem o_T_Lslog_Item : oneT P T_Lslog_Item = true := by kernel_rfl
theorem z_T_Lslog_Item : zeroT P T_Lslog_Item = some (.slice none 0 0) := by kernel_rfl
theorem u_T_Lslog_Item : P.underlying T_Lslog_Item = some (.slice T_slog_Item) := by kernel_rfl
theorem s_T_Lslog_Item : slT P T_Lslog_Item = some 132 := by kernel_rfl
theorem app_T_Lslog_Item {w : World} {K : Value → World → Prop} {base : Nat} {v x : Value} {xs ys : List Value} {n m : Nat} (ho : Own w base T_slog_Item 132 v xs) (hy : SlG w 132 x ys) (hn : xs.length = n * 132) (hm : ys.length = m * 132) (hc : ∀ u ∈ ys, isC u = true)
    (hb : (n + m) * 152 ≤ 140737488355328) (hba : base ≤ w.heap.size) (hk : ∀ v' w', Own w' base T_slog_Item 132 v' (xs ++ ys) → Ex v.ownBlock.toList w w' → (v'.ownBlock = v.ownBlock ∨ v'.ownBlock = some w.heap.size) → K v' w') : wBuiltin P .append #[T_Lslog_Item, T_Lslog_Item] [v, x] w K := by
  have h : (P.info? T_slog_Item).map (fun i => (i.zero, i.size, i.bytes)) = some (some (.agg ⟨[.int .i64 0, .int .u32 0, .int .u32 0, .int .i64 0] ++ List.replicate 128 (.int .u8 0)⟩), 132, 152) := by kernel_rfl
  cases hi : P.info? T_slog_Item with
  | none => rw [hi] at h; cases h
  | some i =>
    rw [hi] at h
    simp only [Option.map_some, Option.some.injEq, Prod.mk.injEq] at h
    exact app_i u_T_Lslog_Item hi h.1 h.2.1 h.2.2 (by kernel_rfl) (by omega) ho hy hn hm hc hb (by omega) hba hk
theorem o_T_Lslog_Batch : oneT P T_Lslog_Batch = true := by kernel_rfl
theorem z_T_Lslog_Batch : zeroT P T_Lslog_Batch = some (.slice none 0 0) := by kernel_rfl
theorem u_T_Lslog_Batch : P.underlying T_Lslog_Batch = some (.slice T_slog_Batch) := by kernel_rfl
theorem s_T_Lslog_Batch : slT P T_Lslog_Batch = some 4 := by kernel_rfl
theorem app_T_Lslog_Batch {w : World} {K : Value → World → Prop} {base : Nat} {v x : Value} {xs ys : List Value} {n m : Nat} (ho : Own w base T_slog_Batch 4 v xs) (hy : SlG w 4 x ys) (hn : xs.length = n * 4) (hm : ys.length = m * 4) (hc : ∀ u ∈ ys, isC u = true)
    (hb : (n + m) * 64 ≤ 140737488355328) (hba : base ≤ w.heap.size) (hk : ∀ v' w', Own w' base T_slog_Batch 4 v' (xs ++ ys) → Ex v.ownBlock.toList w w' → (v'.ownBlock = v.ownBlock ∨ v'.ownBlock = some w.heap.size) → K v' w') : wBuiltin P .append #[T_Lslog_Batch, T_Lslog_Batch] [v, x] w K := by
  have h : (P.info? T_slog_Batch).map (fun i => (i.zero, i.size, i.bytes)) = some (some (.agg ⟨[.int .u64 0, .int .u32 0, .slice none 0 0, .slice none 0 0]⟩), 4, 64) := by kernel_rfl
  cases hi : P.info? T_slog_Batch with
  | none => rw [hi] at h; cases h
  | some i =>
    rw [hi] at h
    simp only [Option.map_some, Option.some.injEq, Prod.mk.injEq] at h
    exact app_i u_T_Lslog_Batch hi h.1 h.2.1 h.2.2 (by kernel_rfl) (by omega) ho hy hn hm hc hb (by omega) hba hk
theorem o_T_Lslog_Found : oneT P T_Lslog_Found = true := by kernel_rfl
theorem z_T_Lslog_Found : zeroT P T_Lslog_Found = some (.slice none 0 0) := by kernel_rfl
theorem u_T_Lslog_Found : P.underlying T_Lslog_Found = some (.slice T_slog_Found) := by kernel_rfl
theorem s_T_Lslog_Found : slT P T_Lslog_Found = some 5 := by kernel_rfl
theorem app_T_Lslog_Found {w : World} {K : Value → World → Prop} {base : Nat} {v x : Value} {xs ys : List Value} {n m : Nat} (ho : Own w base T_slog_Found 5 v xs) (hy : SlG w 5 x ys) (hn : xs.length = n * 5) (hm : ys.length = m * 5) (hc : ∀ u ∈ ys, isC u = true)
    (hb : (n + m) * 32 ≤ 140737488355328) (hba : base ≤ w.heap.size) (hk : ∀ v' w', Own w' base T_slog_Found 5 v' (xs ++ ys) → Ex v.ownBlock.toList w w' → (v'.ownBlock = v.ownBlock ∨ v'.ownBlock = some w.heap.size) → K v' w') : wBuiltin P .append #[T_Lslog_Found, T_Lslog_Found] [v, x] w K := by
  have h : (P.info? T_slog_Found).map (fun i => (i.zero, i.size, i.bytes)) = some (some (.agg ⟨[.int .i64 0, .int .u32 0, .int .u32 0, .int .i64 0, .int .i64 0]⟩), 5, 32) := by kernel_rfl
  cases hi : P.info? T_slog_Found with
  | none => rw [hi] at h; cases h
  | some i =>
    rw [hi] at h
    simp only [Option.map_some, Option.some.injEq, Prod.mk.injEq] at h
    exact app_i u_T_Lslog_Found hi h.1 h.2.1 h.2.2 (by kernel_rfl) (by omega) ho hy hn hm hc hb (by omega) hba hk
theorem e_T_slog_Batch : P.eqGuardType P.depth T_slog_Batch = false := by kernel_rfl
theorem g_T_slog_Batch : aggT P T_slog_Batch 4 = true := by kernel_rfl
theorem z_T_slog_Batch : zeroT P T_slog_Batch = some (.agg ⟨[.int .u64 0, .int .u32 0, .slice none 0 0, .slice none 0 0]⟩) := by kernel_rfl
theorem o_T_LLref11_Item : oneT P T_LLref11_Item = true := by kernel_rfl
theorem z_T_LLref11_Item : zeroT P T_LLref11_Item = some (.slice none 0 0) := by kernel_rfl
theorem u_T_LLref11_Item : P.underlying T_LLref11_Item = some (.slice T_Lref11_Item) := by kernel_rfl
theorem s_T_LLref11_Item : slT P T_LLref11_Item = some 1 := by kernel_rfl
theorem app_T_LLref11_Item {w : World} {K : Value → World → Prop} {base : Nat} {v x : Value} {xs ys : List Value} {n m : Nat} (ho : Own w base T_Lref11_Item 1 v xs) (hy : SlG w 1 x ys) (hn : xs.length = n * 1) (hm : ys.length = m * 1) (hc : ∀ u ∈ ys, isC u = true)
    (hb : (n + m) * 24 ≤ 140737488355328) (hba : base ≤ w.heap.size) (hk : ∀ v' w', Own w' base T_Lref11_Item 1 v' (xs ++ ys) → Ex v.ownBlock.toList w w' → (v'.ownBlock = v.ownBlock ∨ v'.ownBlock = some w.heap.size) → K v' w') : wBuiltin P .append #[T_LLref11_Item, T_LLref11_Item] [v, x] w K := by
  have h : (P.info? T_Lref11_Item).map (fun i => (i.zero, i.size, i.bytes)) = some (some (.slice none 0 0), 1, 24) := by kernel_rfl
  cases hi : P.info? T_Lref11_Item with
  | none => rw [hi] at h; cases h
  | some i =>
    rw [hi] at h
    simp only [Option.map_some, Option.some.injEq, Prod.mk.injEq] at h
    exact app_i u_T_LLref11_Item hi h.1 h.2.1 h.2.2 (by kernel_rfl) (by omega) ho hy hn hm hc hb (by omega) hba hk
theorem e_T_law11_Step : P.eqGuardType P.depth T_law11_Step = false := by kernel_rfl
theorem g_T_law11_Step : aggT P T_law11_Step 5 = true := by kernel_rfl
theorem z_T_law11_Step : zeroT P T_law11_Step = some (.agg ⟨[.slice none 0 0, .int .u32 0, .bool false, .int .i64 0, .slice none 0 0]⟩) := by kernel_rfl
theorem e_T_codec_Entry : P.eqGuardType P.depth T_codec_Entry = false := by kernel_rfl
theorem g_T_codec_Entry : aggT P T_codec_Entry 4 = true := by kernel_rfl
theorem z_T_codec_Entry : zeroT P T_codec_Entry = some (.agg ⟨[.int .i64 0, .int .u32 0, .int .u32 0, .int .i64 0]⟩) := by kernel_rfl
theorem e_T_slog_Found : P.eqGuardType P.depth T_slog_Found = false := by kernel_rfl
theorem g_T_slog_Found : aggT P T_slog_Found 5 = true := by kernel_rfl
theorem z_T_slog_Found : zeroT P T_slog_Found = some (.agg ⟨[.int .i64 0, .int .u32 0, .int .u32 0, .int .i64 0, .int .i64 0]⟩) := by kernel_rfl
theorem e_T_disk_state : P.eqGuardType P.depth T_disk_state = false := by kernel_rfl
theorem g_T_disk_state : aggT P T_disk_state 2 = true := by kernel_rfl
theorem z_T_disk_state : zeroT P T_disk_state = some (.agg ⟨[.bool false, .int .i64 0]⟩) := by kernel_rfl
theorem o_T_Ldisk_write : oneT P T_Ldisk_write = true := by kernel_rfl
theorem z_T_Ldisk_write : zeroT P T_Ldisk_write = some (.slice none 0 0) := by kernel_rfl
theorem u_T_Ldisk_write : P.underlying T_Ldisk_write = some (.slice T_disk_write) := by kernel_rfl
theorem s_T_Ldisk_write : slT P T_Ldisk_write = some 129 := by kernel_rfl
theorem app_T_Ldisk_write {w : World} {K : Value → World → Prop} {base : Nat} {v x : Value} {xs ys : List Value} {n m : Nat} (ho : Own w base T_disk_write 129 v xs) (hy : SlG w 129 x ys) (hn : xs.length = n * 129) (hm : ys.length = m * 129) (hc : ∀ u ∈ ys, isC u = true)
    (hb : (n + m) * 136 ≤ 140737488355328) (hba : base ≤ w.heap.size) (hk : ∀ v' w', Own w' base T_disk_write 129 v' (xs ++ ys) → Ex v.ownBlock.toList w w' → (v'.ownBlock = v.ownBlock ∨ v'.ownBlock = some w.heap.size) → K v' w') : wBuiltin P .append #[T_Ldisk_write, T_Ldisk_write] [v, x] w K := by
  have h : (P.info? T_disk_write).map (fun i => (i.zero, i.size, i.bytes)) = some (some (.agg ⟨[.int .i64 0] ++ List.replicate 128 (.int .u8 0)⟩), 129, 136) := by kernel_rfl
  cases hi : P.info? T_disk_write with
  | none => rw [hi] at h; cases h
  | some i =>
    rw [hi] at h
    simp only [Option.map_some, Option.some.injEq, Prod.mk.injEq] at h
    exact app_i u_T_Ldisk_write hi h.1 h.2.1 h.2.2 (by kernel_rfl) (by omega) ho hy hn hm hc hb (by omega) hba hk
theorem e_T_disk_Disk : P.eqGuardType P.depth T_disk_Disk = false := by kernel_rfl
theorem g_T_disk_Disk : aggT P T_disk_Disk 5 = true := by kernel_rfl
theorem z_T_disk_Disk : zeroT P T_disk_Disk = some (.agg ⟨[.bool false, .int .i64 0, .slice none 0 0, .slice none 0 0, .int .i64 0]⟩) := by kernel_rfl
theorem e_T_disk_write : P.eqGuardType P.depth T_disk_write = false := by kernel_rfl
theorem g_T_disk_write : aggT P T_disk_write 129 = true := by kernel_rfl
theorem z_T_disk_write : zeroT P T_disk_write = some (.agg ⟨[.int .i64 0] ++ List.replicate 128 (.int .u8 0)⟩) := by kernel_rfl
theorem o_T_func_codec_Use__bool : oneT P T_func_codec_Use__bool = true := by kernel_rfl
theorem z_T_func_codec_Use__bool : zeroT P T_func_codec_Use__bool = some (.nilFunc) := by kernel_rfl
theorem e_T_imap_Map : P.eqGuardType P.depth T_imap_Map = false := by kernel_rfl
theorem g_T_imap_Map : aggT P T_imap_Map 1 = true := by kernel_rfl
theorem z_T_imap_Map : zeroT P T_imap_Map = some (.agg ⟨[.slice none 0 0]⟩) := by kernel_rfl
theorem e_T_usage_Table : P.eqGuardType P.depth T_usage_Table = false := by kernel_rfl
theorem g_T_usage_Table : aggT P T_usage_Table 2 = true := by kernel_rfl
theorem z_T_usage_Table : zeroT P T_usage_Table = some (.agg ⟨[.int .i64 0, .slice none 0 0]⟩) := by kernel_rfl
theorem o_T_func_codec_Slot__bool : oneT P T_func_codec_Slot__bool = true := by kernel_rfl
theorem z_T_func_codec_Slot__bool : zeroT P T_func_codec_Slot__bool = some (.nilFunc) := by kernel_rfl
theorem o_T_func_int___uint64__uint64_ : oneT P T_func_int___uint64__uint64_ = true := by kernel_rfl
theorem z_T_func_int___uint64__uint64_ : zeroT P T_func_int___uint64__uint64_ = some (.nilFunc) := by kernel_rfl
theorem o_T_Lref05_Field : oneT P T_Lref05_Field = true := by kernel_rfl
theorem z_T_Lref05_Field : zeroT P T_Lref05_Field = some (.slice none 0 0) := by kernel_rfl
theorem u_T_Lref05_Field : P.underlying T_Lref05_Field = some (.slice T_ref05_Field) := by kernel_rfl
theorem s_T_Lref05_Field : slT P T_Lref05_Field = some 2 := by kernel_rfl
theorem app_T_Lref05_Field {w : World} {K : Value → World → Prop} {base : Nat} {v x : Value} {xs ys : List Value} {n m : Nat} (ho : Own w base T_ref05_Field 2 v xs) (hy : SlG w 2 x ys) (hn : xs.length = n * 2) (hm : ys.length = m * 2) (hc : ∀ u ∈ ys, isC u = true)
    (hb : (n + m) * 16 ≤ 140737488355328) (hba : base ≤ w.heap.size) (hk : ∀ v' w', Own w' base T_ref05_Field 2 v' (xs ++ ys) → Ex v.ownBlock.toList w w' → (v'.ownBlock = v.ownBlock ∨ v'.ownBlock = some w.heap.size) → K v' w') : wBuiltin P .append #[T_Lref05_Field, T_Lref05_Field] [v, x] w K := by
  have h : (P.info? T_ref05_Field).map (fun i => (i.zero, i.size, i.bytes)) = some (some (.agg ⟨[.int .i64 0, .int .i64 0]⟩), 2, 16) := by kernel_rfl
  cases hi : P.info? T_ref05_Field with
  | none => rw [hi] at h; cases h
  | some i =>
    rw [hi] at h
    simp only [Option.map_some, Option.some.injEq, Prod.mk.injEq] at h
    exact app_i u_T_Lref05_Field hi h.1 h.2.1 h.2.2 (by kernel_rfl) (by omega) ho hy hn hm hc hb (by omega) hba hk
theorem o_T_Lint64 : oneT P T_Lint64 = true := by kernel_rfl
theorem z_T_Lint64 : zeroT P T_Lint64 = some (.slice none 0 0) := by kernel_rfl
theorem u_T_Lint64 : P.underlying T_Lint64 = some (.slice T_int64) := by kernel_rfl
theorem s_T_Lint64 : slT P T_Lint64 = some 1 := by kernel_rfl
theorem app_T_Lint64 {w : World} {K : Value → World → Prop} {base : Nat} {v x : Value} {xs ys : List Value} {n m : Nat} (ho : Own w base T_int64 1 v xs) (hy : SlG w 1 x ys) (hn : xs.length = n * 1) (hm : ys.length = m * 1) (hc : ∀ u ∈ ys, isC u = true)
    (hb : (n + m) * 8 ≤ 140737488355328) (hba : base ≤ w.heap.size) (hk : ∀ v' w', Own w' base T_int64 1 v' (xs ++ ys) → Ex v.ownBlock.toList w w' → (v'.ownBlock = v.ownBlock ∨ v'.ownBlock = some w.heap.size) → K v' w') : wBuiltin P .append #[T_Lint64, T_Lint64] [v, x] w K := by
  have h : (P.info? T_int64).map (fun i => (i.zero, i.size, i.bytes)) = some (some (.int .i64 0), 1, 8) := by kernel_rfl
  cases hi : P.info? T_int64 with
  | none => rw [hi] at h; cases h
  | some i =>
    rw [hi] at h
    simp only [Option.map_some, Option.some.injEq, Prod.mk.injEq] at h
    exact app_i u_T_Lint64 hi h.1 h.2.1 h.2.2 (by kernel_rfl) (by omega) ho hy hn hm hc hb (by omega) hba hk
theorem e_T_num_Writer : P.eqGuardType P.depth T_num_Writer = false := by kernel_rfl
theorem g_T_num_Writer : aggT P T_num_Writer 130 = true := by kernel_rfl
theorem z_T_num_Writer : zeroT P T_num_Writer = some (.agg ⟨List.replicate 128 (.int .u8 0) ++ [.int .i64 0, .int .i64 0]⟩) := by kernel_rfl
theorem e_T_ref05_Field : P.eqGuardType P.depth T_ref05_Field = false := by kernel_rfl
theorem g_T_ref05_Field : aggT P T_ref05_Field 2 = true := by kernel_rfl
theorem z_T_ref05_Field : zeroT P T_ref05_Field = some (.agg ⟨[.int .i64 0, .int .i64 0]⟩) := by kernel_rfl
theorem e_T_slog_Item : P.eqGuardType P.depth T_slog_Item = false := by kernel_rfl
theorem g_T_slog_Item : aggT P T_slog_Item 132 = true := by kernel_rfl
theorem z_T_slog_Item : zeroT P T_slog_Item = some (.agg ⟨[.int .i64 0, .int .u32 0, .int .u32 0, .int .i64 0] ++ List.replicate 128 (.int .u8 0)⟩) := by kernel_rfl
theorem o_T_Lref04_Part : oneT P T_Lref04_Part = true := by kernel_rfl
theorem z_T_Lref04_Part : zeroT P T_Lref04_Part = some (.slice none 0 0) := by kernel_rfl
theorem u_T_Lref04_Part : P.underlying T_Lref04_Part = some (.slice T_ref04_Part) := by kernel_rfl
theorem s_T_Lref04_Part : slT P T_Lref04_Part = some 6 := by kernel_rfl
theorem app_T_Lref04_Part {w : World} {K : Value → World → Prop} {base : Nat} {v x : Value} {xs ys : List Value} {n m : Nat} (ho : Own w base T_ref04_Part 6 v xs) (hy : SlG w 6 x ys) (hn : xs.length = n * 6) (hm : ys.length = m * 6) (hc : ∀ u ∈ ys, isC u = true)
    (hb : (n + m) * 48 ≤ 140737488355328) (hba : base ≤ w.heap.size) (hk : ∀ v' w', Own w' base T_ref04_Part 6 v' (xs ++ ys) → Ex v.ownBlock.toList w w' → (v'.ownBlock = v.ownBlock ∨ v'.ownBlock = some w.heap.size) → K v' w') : wBuiltin P .append #[T_Lref04_Part, T_Lref04_Part] [v, x] w K := by
  have h : (P.info? T_ref04_Part).map (fun i => (i.zero, i.size, i.bytes)) = some (some (.agg ⟨[.int .i64 0, .int .i64 0, .int .i64 0, .int .i64 0, .int .i64 0, .int .i64 0]⟩), 6, 48) := by kernel_rfl
  cases hi : P.info? T_ref04_Part with
  | none => rw [hi] at h; cases h
  | some i =>
    rw [hi] at h
    simp only [Option.map_some, Option.some.injEq, Prod.mk.injEq] at h
    exact app_i u_T_Lref04_Part hi h.1 h.2.1 h.2.2 (by kernel_rfl) (by omega) ho hy hn hm hc hb (by omega) hba hk
theorem o_T_Lslog_group : oneT P T_Lslog_group = true := by kernel_rfl
theorem z_T_Lslog_group : zeroT P T_Lslog_group = some (.slice none 0 0) := by kernel_rfl
theorem u_T_Lslog_group : P.underlying T_Lslog_group = some (.slice T_slog_group) := by kernel_rfl
theorem s_T_Lslog_group : slT P T_Lslog_group = some 131 := by kernel_rfl
theorem app_T_Lslog_group {w : World} {K : Value → World → Prop} {base : Nat} {v x : Value} {xs ys : List Value} {n m : Nat} (ho : Own w base T_slog_group 131 v xs) (hy : SlG w 131 x ys) (hn : xs.length = n * 131) (hm : ys.length = m * 131) (hc : ∀ u ∈ ys, isC u = true)
    (hb : (n + m) * 184 ≤ 140737488355328) (hba : base ≤ w.heap.size) (hk : ∀ v' w', Own w' base T_slog_group 131 v' (xs ++ ys) → Ex v.ownBlock.toList w w' → (v'.ownBlock = v.ownBlock ∨ v'.ownBlock = some w.heap.size) → K v' w') : wBuiltin P .append #[T_Lslog_group, T_Lslog_group] [v, x] w K := by
  have h : (P.info? T_slog_group).map (fun i => (i.zero, i.size, i.bytes)) = some (some (.agg ⟨[.int .i64 0] ++ List.replicate 128 (.int .u8 0) ++ [.slice none 0 0, .slice none 0 0]⟩), 131, 184) := by kernel_rfl
  cases hi : P.info? T_slog_group with
  | none => rw [hi] at h; cases h
  | some i =>
    rw [hi] at h
    simp only [Option.map_some, Option.some.injEq, Prod.mk.injEq] at h
    exact app_i u_T_Lslog_group hi h.1 h.2.1 h.2.2 (by kernel_rfl) (by omega) ho hy hn hm hc hb (by omega) hba hk
theorem e_T_slog_writer : P.eqGuardType P.depth T_slog_writer = false := by kernel_rfl
theorem g_T_slog_writer : aggT P T_slog_writer 2 = true := by kernel_rfl
theorem z_T_slog_writer : zeroT P T_slog_writer = some (.agg ⟨[.pointer none, .int .i64 0]⟩) := by kernel_rfl
theorem e_T_slog_group : P.eqGuardType P.depth T_slog_group = false := by kernel_rfl
theorem g_T_slog_group : aggT P T_slog_group 131 = true := by kernel_rfl
theorem z_T_slog_group : zeroT P T_slog_group = some (.agg ⟨[.int .i64 0] ++ List.replicate 128 (.int .u8 0) ++ [.slice none 0 0, .slice none 0 0]⟩) := by kernel_rfl
theorem o_T_pcodec_writer : oneT P T_pcodec_writer = true := by kernel_rfl
theorem z_T_pcodec_writer : zeroT P T_pcodec_writer = some (.pointer none) := by kernel_rfl
theorem e_T_codec_writer : P.eqGuardType P.depth T_codec_writer = false := by kernel_rfl
theorem g_T_codec_writer : aggT P T_codec_writer 2 = true := by kernel_rfl
theorem z_T_codec_writer : zeroT P T_codec_writer = some (.agg ⟨[.slice none 0 0, .bool false]⟩) := by kernel_rfl
theorem o_T_pcodec_reader : oneT P T_pcodec_reader = true := by kernel_rfl
theorem z_T_pcodec_reader : zeroT P T_pcodec_reader = some (.pointer none) := by kernel_rfl
theorem e_T_codec_reader : P.eqGuardType P.depth T_codec_reader = false := by kernel_rfl
theorem g_T_codec_reader : aggT P T_codec_reader 3 = true := by kernel_rfl
theorem z_T_codec_reader : zeroT P T_codec_reader = some (.agg ⟨[.slice none 0 0, .int .i64 0, .bool false]⟩) := by kernel_rfl
theorem e_T_num_Reader : P.eqGuardType P.depth T_num_Reader = false := by kernel_rfl
theorem g_T_num_Reader : aggT P T_num_Reader 130 = true := by kernel_rfl
theorem z_T_num_Reader : zeroT P T_num_Reader = some (.agg ⟨List.replicate 128 (.int .u8 0) ++ [.int .i64 0, .int .i64 0]⟩) := by kernel_rfl
theorem o_T_func_codec_Record__bool : oneT P T_func_codec_Record__bool = true := by kernel_rfl
theorem z_T_func_codec_Record__bool : zeroT P T_func_codec_Record__bool = some (.nilFunc) := by kernel_rfl
theorem o_T_func_codec_Entry__bool : oneT P T_func_codec_Entry__bool = true := by kernel_rfl
theorem z_T_func_codec_Entry__bool : zeroT P T_func_codec_Entry__bool = some (.nilFunc) := by kernel_rfl
theorem e_T_ref04_Part : P.eqGuardType P.depth T_ref04_Part = false := by kernel_rfl
theorem g_T_ref04_Part : aggT P T_ref04_Part 6 = true := by kernel_rfl
theorem z_T_ref04_Part : zeroT P T_ref04_Part = some (.agg ⟨[.int .i64 0, .int .i64 0, .int .i64 0, .int .i64 0, .int .i64 0, .int .i64 0]⟩) := by kernel_rfl
theorem o_T_uint : oneT P T_uint = true := by kernel_rfl
theorem z_T_uint : zeroT P T_uint = some (.int .u64 0) := by kernel_rfl
theorem i_T_uint : P.underlying T_uint = some (.int .u64) := by kernel_rfl
theorem f_T_ref03_Disk_0 : fldT P T_ref03_Disk 0 = some 0 := by kernel_rfl
theorem fA_T_ref03_Disk_0 (b o : Nat) (w : World) (K : Value → World → Prop) : wFieldA P T_ref03_Disk (.pointer (some ⟨b, o, none⟩)) 0 w K = K (.pointer (some ⟨b, o, none⟩)) w := fieldA_i f_T_ref03_Disk_0
theorem f_T_ref03_Disk_1 : fldT P T_ref03_Disk 1 = some 1 := by kernel_rfl
theorem fA_T_ref03_Disk_1 (b o : Nat) (w : World) (K : Value → World → Prop) : wFieldA P T_ref03_Disk (.pointer (some ⟨b, o, none⟩)) 1 w K = K (.pointer (some ⟨b, o + 1, none⟩)) w := fieldA_i f_T_ref03_Disk_1
theorem f_T_ref03_Disk_2 : fldT P T_ref03_Disk 2 = some 2 := by kernel_rfl
theorem fA_T_ref03_Disk_2 (b o : Nat) (w : World) (K : Value → World → Prop) : wFieldA P T_ref03_Disk (.pointer (some ⟨b, o, none⟩)) 2 w K = K (.pointer (some ⟨b, o + 2, none⟩)) w := fieldA_i f_T_ref03_Disk_2
theorem f_T_ref03_Disk_3 : fldT P T_ref03_Disk 3 = some 3 := by kernel_rfl
theorem fA_T_ref03_Disk_3 (b o : Nat) (w : World) (K : Value → World → Prop) : wFieldA P T_ref03_Disk (.pointer (some ⟨b, o, none⟩)) 3 w K = K (.pointer (some ⟨b, o + 3, none⟩)) w := fieldA_i f_T_ref03_Disk_3
theorem f_T_ref03_Disk_4 : fldT P T_ref03_Disk 4 = some 4 := by kernel_rfl
theorem fA_T_ref03_Disk_4 (b o : Nat) (w : World) (K : Value → World → Prop) : wFieldA P T_ref03_Disk (.pointer (some ⟨b, o, none⟩)) 4 w K = K (.pointer (some ⟨b, o + 4, none⟩)) w := fieldA_i f_T_ref03_Disk_4
theorem f_T_law03_Act_0 : fldT P T_law03_Act 0 = some 0 := by kernel_rfl
theorem fA_T_law03_Act_0 (b o : Nat) (w : World) (K : Value → World → Prop) : wFieldA P T_law03_Act (.pointer (some ⟨b, o, none⟩)) 0 w K = K (.pointer (some ⟨b, o, none⟩)) w := fieldA_i f_T_law03_Act_0
theorem f_T_law03_Act_1 : fldT P T_law03_Act 1 = some 1 := by kernel_rfl
theorem fA_T_law03_Act_1 (b o : Nat) (w : World) (K : Value → World → Prop) : wFieldA P T_law03_Act (.pointer (some ⟨b, o, none⟩)) 1 w K = K (.pointer (some ⟨b, o + 1, none⟩)) w := fieldA_i f_T_law03_Act_1
theorem f_T_law03_Act_2 : fldT P T_law03_Act 2 = some 2 := by kernel_rfl
theorem fA_T_law03_Act_2 (b o : Nat) (w : World) (K : Value → World → Prop) : wFieldA P T_law03_Act (.pointer (some ⟨b, o, none⟩)) 2 w K = K (.pointer (some ⟨b, o + 2, none⟩)) w := fieldA_i f_T_law03_Act_2
theorem f_T_law03_Act_3 : fldT P T_law03_Act 3 = some 3 := by kernel_rfl
theorem fA_T_law03_Act_3 (b o : Nat) (w : World) (K : Value → World → Prop) : wFieldA P T_law03_Act (.pointer (some ⟨b, o, none⟩)) 3 w K = K (.pointer (some ⟨b, o + 3, none⟩)) w := fieldA_i f_T_law03_Act_3
theorem f_T_ref03_Write_0 : fldT P T_ref03_Write 0 = some 0 := by kernel_rfl
theorem fA_T_ref03_Write_0 (b o : Nat) (w : World) (K : Value → World → Prop) : wFieldA P T_ref03_Write (.pointer (some ⟨b, o, none⟩)) 0 w K = K (.pointer (some ⟨b, o, none⟩)) w := fieldA_i f_T_ref03_Write_0
theorem f_T_ref03_Write_1 : fldT P T_ref03_Write 1 = some 1 := by kernel_rfl
theorem fA_T_ref03_Write_1 (b o : Nat) (w : World) (K : Value → World → Prop) : wFieldA P T_ref03_Write (.pointer (some ⟨b, o, none⟩)) 1 w K = K (.pointer (some ⟨b, o + 1, none⟩)) w := fieldA_i f_T_ref03_Write_1
theorem f_T_ref05_Use_0 : fldT P T_ref05_Use 0 = some 0 := by kernel_rfl
theorem fA_T_ref05_Use_0 (b o : Nat) (w : World) (K : Value → World → Prop) : wFieldA P T_ref05_Use (.pointer (some ⟨b, o, none⟩)) 0 w K = K (.pointer (some ⟨b, o, none⟩)) w := fieldA_i f_T_ref05_Use_0
theorem f_T_ref05_Use_1 : fldT P T_ref05_Use 1 = some 1 := by kernel_rfl
theorem fA_T_ref05_Use_1 (b o : Nat) (w : World) (K : Value → World → Prop) : wFieldA P T_ref05_Use (.pointer (some ⟨b, o, none⟩)) 1 w K = K (.pointer (some ⟨b, o + 1, none⟩)) w := fieldA_i f_T_ref05_Use_1
theorem f_T_ref05_Use_2 : fldT P T_ref05_Use 2 = some 2 := by kernel_rfl
theorem fA_T_ref05_Use_2 (b o : Nat) (w : World) (K : Value → World → Prop) : wFieldA P T_ref05_Use (.pointer (some ⟨b, o, none⟩)) 2 w K = K (.pointer (some ⟨b, o + 2, none⟩)) w := fieldA_i f_T_ref05_Use_2
theorem f_T_codec_Use_0 : fldT P T_codec_Use 0 = some 0 := by kernel_rfl
theorem fA_T_codec_Use_0 (b o : Nat) (w : World) (K : Value → World → Prop) : wFieldA P T_codec_Use (.pointer (some ⟨b, o, none⟩)) 0 w K = K (.pointer (some ⟨b, o, none⟩)) w := fieldA_i f_T_codec_Use_0
theorem f_T_codec_Use_1 : fldT P T_codec_Use 1 = some 1 := by kernel_rfl
theorem fA_T_codec_Use_1 (b o : Nat) (w : World) (K : Value → World → Prop) : wFieldA P T_codec_Use (.pointer (some ⟨b, o, none⟩)) 1 w K = K (.pointer (some ⟨b, o + 1, none⟩)) w := fieldA_i f_T_codec_Use_1
theorem f_T_codec_Use_2 : fldT P T_codec_Use 2 = some 2 := by kernel_rfl
theorem fA_T_codec_Use_2 (b o : Nat) (w : World) (K : Value → World → Prop) : wFieldA P T_codec_Use (.pointer (some ⟨b, o, none⟩)) 2 w K = K (.pointer (some ⟨b, o + 2, none⟩)) w := fieldA_i f_T_codec_Use_2
theorem f_T_ref05_Slot_0 : fldT P T_ref05_Slot 0 = some 0 := by kernel_rfl
theorem fA_T_ref05_Slot_0 (b o : Nat) (w : World) (K : Value → World → Prop) : wFieldA P T_ref05_Slot (.pointer (some ⟨b, o, none⟩)) 0 w K = K (.pointer (some ⟨b, o, none⟩)) w := fieldA_i f_T_ref05_Slot_0
theorem f_T_ref05_Slot_1 : fldT P T_ref05_Slot 1 = some 1 := by kernel_rfl
theorem fA_T_ref05_Slot_1 (b o : Nat) (w : World) (K : Value → World → Prop) : wFieldA P T_ref05_Slot (.pointer (some ⟨b, o, none⟩)) 1 w K = K (.pointer (some ⟨b, o + 1, none⟩)) w := fieldA_i f_T_ref05_Slot_1
theorem f_T_ref05_Slot_2 : fldT P T_ref05_Slot 2 = some 2 := by kernel_rfl
theorem fA_T_ref05_Slot_2 (b o : Nat) (w : World) (K : Value → World → Prop) : wFieldA P T_ref05_Slot (.pointer (some ⟨b, o, none⟩)) 2 w K = K (.pointer (some ⟨b, o + 2, none⟩)) w := fieldA_i f_T_ref05_Slot_2
theorem f_T_ref05_Slot_3 : fldT P T_ref05_Slot 3 = some 3 := by kernel_rfl
theorem fA_T_ref05_Slot_3 (b o : Nat) (w : World) (K : Value → World → Prop) : wFieldA P T_ref05_Slot (.pointer (some ⟨b, o, none⟩)) 3 w K = K (.pointer (some ⟨b, o + 3, none⟩)) w := fieldA_i f_T_ref05_Slot_3
theorem f_T_law10_Act_0 : fldT P T_law10_Act 0 = some 0 := by kernel_rfl
theorem fA_T_law10_Act_0 (b o : Nat) (w : World) (K : Value → World → Prop) : wFieldA P T_law10_Act (.pointer (some ⟨b, o, none⟩)) 0 w K = K (.pointer (some ⟨b, o, none⟩)) w := fieldA_i f_T_law10_Act_0
theorem f_T_law10_Act_1 : fldT P T_law10_Act 1 = some 1 := by kernel_rfl
theorem fA_T_law10_Act_1 (b o : Nat) (w : World) (K : Value → World → Prop) : wFieldA P T_law10_Act (.pointer (some ⟨b, o, none⟩)) 1 w K = K (.pointer (some ⟨b, o + 1, none⟩)) w := fieldA_i f_T_law10_Act_1
theorem f_T_law10_Act_2 : fldT P T_law10_Act 2 = some 2 := by kernel_rfl
theorem fA_T_law10_Act_2 (b o : Nat) (w : World) (K : Value → World → Prop) : wFieldA P T_law10_Act (.pointer (some ⟨b, o, none⟩)) 2 w K = K (.pointer (some ⟨b, o + 2, none⟩)) w := fieldA_i f_T_law10_Act_2
theorem f_T_codec_Slot_0 : fldT P T_codec_Slot 0 = some 0 := by kernel_rfl
theorem fA_T_codec_Slot_0 (b o : Nat) (w : World) (K : Value → World → Prop) : wFieldA P T_codec_Slot (.pointer (some ⟨b, o, none⟩)) 0 w K = K (.pointer (some ⟨b, o, none⟩)) w := fieldA_i f_T_codec_Slot_0
theorem f_T_codec_Slot_1 : fldT P T_codec_Slot 1 = some 1 := by kernel_rfl
theorem fA_T_codec_Slot_1 (b o : Nat) (w : World) (K : Value → World → Prop) : wFieldA P T_codec_Slot (.pointer (some ⟨b, o, none⟩)) 1 w K = K (.pointer (some ⟨b, o + 1, none⟩)) w := fieldA_i f_T_codec_Slot_1
theorem f_T_codec_Slot_2 : fldT P T_codec_Slot 2 = some 2 := by kernel_rfl
theorem fA_T_codec_Slot_2 (b o : Nat) (w : World) (K : Value → World → Prop) : wFieldA P T_codec_Slot (.pointer (some ⟨b, o, none⟩)) 2 w K = K (.pointer (some ⟨b, o + 2, none⟩)) w := fieldA_i f_T_codec_Slot_2
theorem f_T_codec_Slot_3 : fldT P T_codec_Slot 3 = some 3 := by kernel_rfl
theorem fA_T_codec_Slot_3 (b o : Nat) (w : World) (K : Value → World → Prop) : wFieldA P T_codec_Slot (.pointer (some ⟨b, o, none⟩)) 3 w K = K (.pointer (some ⟨b, o + 3, none⟩)) w := fieldA_i f_T_codec_Slot_3
theorem f_T_ref05_Inode_0 : fldT P T_ref05_Inode 0 = some 0 := by kernel_rfl
theorem fA_T_ref05_Inode_0 (b o : Nat) (w : World) (K : Value → World → Prop) : wFieldA P T_ref05_Inode (.pointer (some ⟨b, o, none⟩)) 0 w K = K (.pointer (some ⟨b, o, none⟩)) w := fieldA_i f_T_ref05_Inode_0
theorem f_T_ref05_Inode_1 : fldT P T_ref05_Inode 1 = some 1 := by kernel_rfl
theorem fA_T_ref05_Inode_1 (b o : Nat) (w : World) (K : Value → World → Prop) : wFieldA P T_ref05_Inode (.pointer (some ⟨b, o, none⟩)) 1 w K = K (.pointer (some ⟨b, o + 1, none⟩)) w := fieldA_i f_T_ref05_Inode_1
theorem f_T_ref05_Inode_2 : fldT P T_ref05_Inode 2 = some 2 := by kernel_rfl
theorem fA_T_ref05_Inode_2 (b o : Nat) (w : World) (K : Value → World → Prop) : wFieldA P T_ref05_Inode (.pointer (some ⟨b, o, none⟩)) 2 w K = K (.pointer (some ⟨b, o + 2, none⟩)) w := fieldA_i f_T_ref05_Inode_2
theorem f_T_ref05_Inode_3 : fldT P T_ref05_Inode 3 = some 3 := by kernel_rfl
theorem fA_T_ref05_Inode_3 (b o : Nat) (w : World) (K : Value → World → Prop) : wFieldA P T_ref05_Inode (.pointer (some ⟨b, o, none⟩)) 3 w K = K (.pointer (some ⟨b, o + 3, none⟩)) w := fieldA_i f_T_ref05_Inode_3
theorem f_T_ref05_Inode_4 : fldT P T_ref05_Inode 4 = some 4 := by kernel_rfl
theorem fA_T_ref05_Inode_4 (b o : Nat) (w : World) (K : Value → World → Prop) : wFieldA P T_ref05_Inode (.pointer (some ⟨b, o, none⟩)) 4 w K = K (.pointer (some ⟨b, o + 4, none⟩)) w := fieldA_i f_T_ref05_Inode_4
theorem f_T_ref05_Inode_5 : fldT P T_ref05_Inode 5 = some 5 := by kernel_rfl
theorem fA_T_ref05_Inode_5 (b o : Nat) (w : World) (K : Value → World → Prop) : wFieldA P T_ref05_Inode (.pointer (some ⟨b, o, none⟩)) 5 w K = K (.pointer (some ⟨b, o + 5, none⟩)) w := fieldA_i f_T_ref05_Inode_5
theorem f_T_ref05_Inode_6 : fldT P T_ref05_Inode 6 = some 13 := by kernel_rfl
theorem fA_T_ref05_Inode_6 (b o : Nat) (w : World) (K : Value → World → Prop) : wFieldA P T_ref05_Inode (.pointer (some ⟨b, o, none⟩)) 6 w K = K (.pointer (some ⟨b, o + 13, none⟩)) w := fieldA_i f_T_ref05_Inode_6
theorem f_T_ref05_Inode_7 : fldT P T_ref05_Inode 7 = some 14 := by kernel_rfl
theorem fA_T_ref05_Inode_7 (b o : Nat) (w : World) (K : Value → World → Prop) : wFieldA P T_ref05_Inode (.pointer (some ⟨b, o, none⟩)) 7 w K = K (.pointer (some ⟨b, o + 14, none⟩)) w := fieldA_i f_T_ref05_Inode_7
theorem f_T_codec_Inode_0 : fldT P T_codec_Inode 0 = some 0 := by kernel_rfl
theorem fA_T_codec_Inode_0 (b o : Nat) (w : World) (K : Value → World → Prop) : wFieldA P T_codec_Inode (.pointer (some ⟨b, o, none⟩)) 0 w K = K (.pointer (some ⟨b, o, none⟩)) w := fieldA_i f_T_codec_Inode_0
theorem f_T_codec_Inode_1 : fldT P T_codec_Inode 1 = some 1 := by kernel_rfl
theorem fA_T_codec_Inode_1 (b o : Nat) (w : World) (K : Value → World → Prop) : wFieldA P T_codec_Inode (.pointer (some ⟨b, o, none⟩)) 1 w K = K (.pointer (some ⟨b, o + 1, none⟩)) w := fieldA_i f_T_codec_Inode_1
theorem f_T_codec_Inode_2 : fldT P T_codec_Inode 2 = some 2 := by kernel_rfl
theorem fA_T_codec_Inode_2 (b o : Nat) (w : World) (K : Value → World → Prop) : wFieldA P T_codec_Inode (.pointer (some ⟨b, o, none⟩)) 2 w K = K (.pointer (some ⟨b, o + 2, none⟩)) w := fieldA_i f_T_codec_Inode_2
theorem f_T_codec_Inode_3 : fldT P T_codec_Inode 3 = some 3 := by kernel_rfl
theorem fA_T_codec_Inode_3 (b o : Nat) (w : World) (K : Value → World → Prop) : wFieldA P T_codec_Inode (.pointer (some ⟨b, o, none⟩)) 3 w K = K (.pointer (some ⟨b, o + 3, none⟩)) w := fieldA_i f_T_codec_Inode_3
theorem f_T_codec_Inode_4 : fldT P T_codec_Inode 4 = some 4 := by kernel_rfl
theorem fA_T_codec_Inode_4 (b o : Nat) (w : World) (K : Value → World → Prop) : wFieldA P T_codec_Inode (.pointer (some ⟨b, o, none⟩)) 4 w K = K (.pointer (some ⟨b, o + 4, none⟩)) w := fieldA_i f_T_codec_Inode_4
theorem f_T_codec_Inode_5 : fldT P T_codec_Inode 5 = some 5 := by kernel_rfl
theorem fA_T_codec_Inode_5 (b o : Nat) (w : World) (K : Value → World → Prop) : wFieldA P T_codec_Inode (.pointer (some ⟨b, o, none⟩)) 5 w K = K (.pointer (some ⟨b, o + 5, none⟩)) w := fieldA_i f_T_codec_Inode_5
theorem f_T_codec_Inode_6 : fldT P T_codec_Inode 6 = some 13 := by kernel_rfl
theorem fA_T_codec_Inode_6 (b o : Nat) (w : World) (K : Value → World → Prop) : wFieldA P T_codec_Inode (.pointer (some ⟨b, o, none⟩)) 6 w K = K (.pointer (some ⟨b, o + 13, none⟩)) w := fieldA_i f_T_codec_Inode_6
theorem f_T_codec_Inode_7 : fldT P T_codec_Inode 7 = some 14 := by kernel_rfl
theorem fA_T_codec_Inode_7 (b o : Nat) (w : World) (K : Value → World → Prop) : wFieldA P T_codec_Inode (.pointer (some ⟨b, o, none⟩)) 7 w K = K (.pointer (some ⟨b, o + 14, none⟩)) w := fieldA_i f_T_codec_Inode_7
theorem f_T_ref05_Header_0 : fldT P T_ref05_Header 0 = some 0 := by kernel_rfl
theorem fA_T_ref05_Header_0 (b o : Nat) (w : World) (K : Value → World → Prop) : wFieldA P T_ref05_Header (.pointer (some ⟨b, o, none⟩)) 0 w K = K (.pointer (some ⟨b, o, none⟩)) w := fieldA_i f_T_ref05_Header_0
theorem f_T_ref05_Header_1 : fldT P T_ref05_Header 1 = some 1 := by kernel_rfl
theorem fA_T_ref05_Header_1 (b o : Nat) (w : World) (K : Value → World → Prop) : wFieldA P T_ref05_Header (.pointer (some ⟨b, o, none⟩)) 1 w K = K (.pointer (some ⟨b, o + 1, none⟩)) w := fieldA_i f_T_ref05_Header_1
theorem f_T_ref05_Header_2 : fldT P T_ref05_Header 2 = some 2 := by kernel_rfl
theorem fA_T_ref05_Header_2 (b o : Nat) (w : World) (K : Value → World → Prop) : wFieldA P T_ref05_Header (.pointer (some ⟨b, o, none⟩)) 2 w K = K (.pointer (some ⟨b, o + 2, none⟩)) w := fieldA_i f_T_ref05_Header_2
theorem f_T_ref05_Header_3 : fldT P T_ref05_Header 3 = some 3 := by kernel_rfl
theorem fA_T_ref05_Header_3 (b o : Nat) (w : World) (K : Value → World → Prop) : wFieldA P T_ref05_Header (.pointer (some ⟨b, o, none⟩)) 3 w K = K (.pointer (some ⟨b, o + 3, none⟩)) w := fieldA_i f_T_ref05_Header_3
theorem f_T_ref05_Header_4 : fldT P T_ref05_Header 4 = some 4 := by kernel_rfl
theorem fA_T_ref05_Header_4 (b o : Nat) (w : World) (K : Value → World → Prop) : wFieldA P T_ref05_Header (.pointer (some ⟨b, o, none⟩)) 4 w K = K (.pointer (some ⟨b, o + 4, none⟩)) w := fieldA_i f_T_ref05_Header_4
theorem f_T_ref05_Header_5 : fldT P T_ref05_Header 5 = some 5 := by kernel_rfl
theorem fA_T_ref05_Header_5 (b o : Nat) (w : World) (K : Value → World → Prop) : wFieldA P T_ref05_Header (.pointer (some ⟨b, o, none⟩)) 5 w K = K (.pointer (some ⟨b, o + 5, none⟩)) w := fieldA_i f_T_ref05_Header_5
theorem f_T_codec_Header_0 : fldT P T_codec_Header 0 = some 0 := by kernel_rfl
theorem fA_T_codec_Header_0 (b o : Nat) (w : World) (K : Value → World → Prop) : wFieldA P T_codec_Header (.pointer (some ⟨b, o, none⟩)) 0 w K = K (.pointer (some ⟨b, o, none⟩)) w := fieldA_i f_T_codec_Header_0
theorem f_T_codec_Header_1 : fldT P T_codec_Header 1 = some 1 := by kernel_rfl
theorem fA_T_codec_Header_1 (b o : Nat) (w : World) (K : Value → World → Prop) : wFieldA P T_codec_Header (.pointer (some ⟨b, o, none⟩)) 1 w K = K (.pointer (some ⟨b, o + 1, none⟩)) w := fieldA_i f_T_codec_Header_1
theorem f_T_codec_Header_2 : fldT P T_codec_Header 2 = some 2 := by kernel_rfl
theorem fA_T_codec_Header_2 (b o : Nat) (w : World) (K : Value → World → Prop) : wFieldA P T_codec_Header (.pointer (some ⟨b, o, none⟩)) 2 w K = K (.pointer (some ⟨b, o + 2, none⟩)) w := fieldA_i f_T_codec_Header_2
theorem f_T_codec_Header_3 : fldT P T_codec_Header 3 = some 3 := by kernel_rfl
theorem fA_T_codec_Header_3 (b o : Nat) (w : World) (K : Value → World → Prop) : wFieldA P T_codec_Header (.pointer (some ⟨b, o, none⟩)) 3 w K = K (.pointer (some ⟨b, o + 3, none⟩)) w := fieldA_i f_T_codec_Header_3
theorem f_T_codec_Header_4 : fldT P T_codec_Header 4 = some 4 := by kernel_rfl
theorem fA_T_codec_Header_4 (b o : Nat) (w : World) (K : Value → World → Prop) : wFieldA P T_codec_Header (.pointer (some ⟨b, o, none⟩)) 4 w K = K (.pointer (some ⟨b, o + 4, none⟩)) w := fieldA_i f_T_codec_Header_4
theorem f_T_codec_Header_5 : fldT P T_codec_Header 5 = some 5 := by kernel_rfl
theorem fA_T_codec_Header_5 (b o : Nat) (w : World) (K : Value → World → Prop) : wFieldA P T_codec_Header (.pointer (some ⟨b, o, none⟩)) 5 w K = K (.pointer (some ⟨b, o + 5, none⟩)) w := fieldA_i f_T_codec_Header_5
theorem f_T_ref05_Record_0 : fldT P T_ref05_Record 0 = some 0 := by kernel_rfl
theorem fA_T_ref05_Record_0 (b o : Nat) (w : World) (K : Value → World → Prop) : wFieldA P T_ref05_Record (.pointer (some ⟨b, o, none⟩)) 0 w K = K (.pointer (some ⟨b, o, none⟩)) w := fieldA_i f_T_ref05_Record_0
theorem f_T_ref05_Record_1 : fldT P T_ref05_Record 1 = some 1 := by kernel_rfl
theorem fA_T_ref05_Record_1 (b o : Nat) (w : World) (K : Value → World → Prop) : wFieldA P T_ref05_Record (.pointer (some ⟨b, o, none⟩)) 1 w K = K (.pointer (some ⟨b, o + 1, none⟩)) w := fieldA_i f_T_ref05_Record_1
theorem f_T_ref05_Record_2 : fldT P T_ref05_Record 2 = some 2 := by kernel_rfl
theorem fA_T_ref05_Record_2 (b o : Nat) (w : World) (K : Value → World → Prop) : wFieldA P T_ref05_Record (.pointer (some ⟨b, o, none⟩)) 2 w K = K (.pointer (some ⟨b, o + 2, none⟩)) w := fieldA_i f_T_ref05_Record_2
theorem f_T_ref05_Record_3 : fldT P T_ref05_Record 3 = some 3 := by kernel_rfl
theorem fA_T_ref05_Record_3 (b o : Nat) (w : World) (K : Value → World → Prop) : wFieldA P T_ref05_Record (.pointer (some ⟨b, o, none⟩)) 3 w K = K (.pointer (some ⟨b, o + 3, none⟩)) w := fieldA_i f_T_ref05_Record_3
theorem f_T_codec_Record_0 : fldT P T_codec_Record 0 = some 0 := by kernel_rfl
theorem fA_T_codec_Record_0 (b o : Nat) (w : World) (K : Value → World → Prop) : wFieldA P T_codec_Record (.pointer (some ⟨b, o, none⟩)) 0 w K = K (.pointer (some ⟨b, o, none⟩)) w := fieldA_i f_T_codec_Record_0
theorem f_T_codec_Record_1 : fldT P T_codec_Record 1 = some 1 := by kernel_rfl
theorem fA_T_codec_Record_1 (b o : Nat) (w : World) (K : Value → World → Prop) : wFieldA P T_codec_Record (.pointer (some ⟨b, o, none⟩)) 1 w K = K (.pointer (some ⟨b, o + 1, none⟩)) w := fieldA_i f_T_codec_Record_1
theorem f_T_codec_Record_2 : fldT P T_codec_Record 2 = some 2 := by kernel_rfl
theorem fA_T_codec_Record_2 (b o : Nat) (w : World) (K : Value → World → Prop) : wFieldA P T_codec_Record (.pointer (some ⟨b, o, none⟩)) 2 w K = K (.pointer (some ⟨b, o + 2, none⟩)) w := fieldA_i f_T_codec_Record_2
theorem f_T_codec_Record_3 : fldT P T_codec_Record 3 = some 3 := by kernel_rfl
theorem fA_T_codec_Record_3 (b o : Nat) (w : World) (K : Value → World → Prop) : wFieldA P T_codec_Record (.pointer (some ⟨b, o, none⟩)) 3 w K = K (.pointer (some ⟨b, o + 3, none⟩)) w := fieldA_i f_T_codec_Record_3
theorem f_T_ref05_Summary_0 : fldT P T_ref05_Summary 0 = some 0 := by kernel_rfl
theorem fA_T_ref05_Summary_0 (b o : Nat) (w : World) (K : Value → World → Prop) : wFieldA P T_ref05_Summary (.pointer (some ⟨b, o, none⟩)) 0 w K = K (.pointer (some ⟨b, o, none⟩)) w := fieldA_i f_T_ref05_Summary_0
theorem f_T_ref05_Summary_1 : fldT P T_ref05_Summary 1 = some 1 := by kernel_rfl
theorem fA_T_ref05_Summary_1 (b o : Nat) (w : World) (K : Value → World → Prop) : wFieldA P T_ref05_Summary (.pointer (some ⟨b, o, none⟩)) 1 w K = K (.pointer (some ⟨b, o + 1, none⟩)) w := fieldA_i f_T_ref05_Summary_1
theorem f_T_ref05_Summary_2 : fldT P T_ref05_Summary 2 = some 2 := by kernel_rfl
theorem fA_T_ref05_Summary_2 (b o : Nat) (w : World) (K : Value → World → Prop) : wFieldA P T_ref05_Summary (.pointer (some ⟨b, o, none⟩)) 2 w K = K (.pointer (some ⟨b, o + 2, none⟩)) w := fieldA_i f_T_ref05_Summary_2
theorem f_T_ref05_Summary_3 : fldT P T_ref05_Summary 3 = some 3 := by kernel_rfl
theorem fA_T_ref05_Summary_3 (b o : Nat) (w : World) (K : Value → World → Prop) : wFieldA P T_ref05_Summary (.pointer (some ⟨b, o, none⟩)) 3 w K = K (.pointer (some ⟨b, o + 3, none⟩)) w := fieldA_i f_T_ref05_Summary_3
theorem f_T_ref05_Summary_4 : fldT P T_ref05_Summary 4 = some 4 := by kernel_rfl
theorem fA_T_ref05_Summary_4 (b o : Nat) (w : World) (K : Value → World → Prop) : wFieldA P T_ref05_Summary (.pointer (some ⟨b, o, none⟩)) 4 w K = K (.pointer (some ⟨b, o + 4, none⟩)) w := fieldA_i f_T_ref05_Summary_4
theorem f_T_ref05_Summary_5 : fldT P T_ref05_Summary 5 = some 5 := by kernel_rfl
theorem fA_T_ref05_Summary_5 (b o : Nat) (w : World) (K : Value → World → Prop) : wFieldA P T_ref05_Summary (.pointer (some ⟨b, o, none⟩)) 5 w K = K (.pointer (some ⟨b, o + 5, none⟩)) w := fieldA_i f_T_ref05_Summary_5
theorem f_T_codec_Summary_0 : fldT P T_codec_Summary 0 = some 0 := by kernel_rfl
theorem fA_T_codec_Summary_0 (b o : Nat) (w : World) (K : Value → World → Prop) : wFieldA P T_codec_Summary (.pointer (some ⟨b, o, none⟩)) 0 w K = K (.pointer (some ⟨b, o, none⟩)) w := fieldA_i f_T_codec_Summary_0
theorem f_T_codec_Summary_1 : fldT P T_codec_Summary 1 = some 1 := by kernel_rfl
theorem fA_T_codec_Summary_1 (b o : Nat) (w : World) (K : Value → World → Prop) : wFieldA P T_codec_Summary (.pointer (some ⟨b, o, none⟩)) 1 w K = K (.pointer (some ⟨b, o + 1, none⟩)) w := fieldA_i f_T_codec_Summary_1
theorem f_T_codec_Summary_2 : fldT P T_codec_Summary 2 = some 2 := by kernel_rfl
theorem fA_T_codec_Summary_2 (b o : Nat) (w : World) (K : Value → World → Prop) : wFieldA P T_codec_Summary (.pointer (some ⟨b, o, none⟩)) 2 w K = K (.pointer (some ⟨b, o + 2, none⟩)) w := fieldA_i f_T_codec_Summary_2
theorem f_T_codec_Summary_3 : fldT P T_codec_Summary 3 = some 3 := by kernel_rfl
theorem fA_T_codec_Summary_3 (b o : Nat) (w : World) (K : Value → World → Prop) : wFieldA P T_codec_Summary (.pointer (some ⟨b, o, none⟩)) 3 w K = K (.pointer (some ⟨b, o + 3, none⟩)) w := fieldA_i f_T_codec_Summary_3
theorem f_T_codec_Summary_4 : fldT P T_codec_Summary 4 = some 4 := by kernel_rfl
theorem fA_T_codec_Summary_4 (b o : Nat) (w : World) (K : Value → World → Prop) : wFieldA P T_codec_Summary (.pointer (some ⟨b, o, none⟩)) 4 w K = K (.pointer (some ⟨b, o + 4, none⟩)) w := fieldA_i f_T_codec_Summary_4
theorem f_T_codec_Summary_5 : fldT P T_codec_Summary 5 = some 5 := by kernel_rfl
theorem fA_T_codec_Summary_5 (b o : Nat) (w : World) (K : Value → World → Prop) : wFieldA P T_codec_Summary (.pointer (some ⟨b, o, none⟩)) 5 w K = K (.pointer (some ⟨b, o + 5, none⟩)) w := fieldA_i f_T_codec_Summary_5
theorem f_T_ref09_Table_0 : fldT P T_ref09_Table 0 = some 0 := by kernel_rfl
theorem fA_T_ref09_Table_0 (b o : Nat) (w : World) (K : Value → World → Prop) : wFieldA P T_ref09_Table (.pointer (some ⟨b, o, none⟩)) 0 w K = K (.pointer (some ⟨b, o, none⟩)) w := fieldA_i f_T_ref09_Table_0
theorem f_T_ref09_Table_1 : fldT P T_ref09_Table 1 = some 1 := by kernel_rfl
theorem fA_T_ref09_Table_1 (b o : Nat) (w : World) (K : Value → World → Prop) : wFieldA P T_ref09_Table (.pointer (some ⟨b, o, none⟩)) 1 w K = K (.pointer (some ⟨b, o + 1, none⟩)) w := fieldA_i f_T_ref09_Table_1
theorem f_T_law09_Act_0 : fldT P T_law09_Act 0 = some 0 := by kernel_rfl
theorem fA_T_law09_Act_0 (b o : Nat) (w : World) (K : Value → World → Prop) : wFieldA P T_law09_Act (.pointer (some ⟨b, o, none⟩)) 0 w K = K (.pointer (some ⟨b, o, none⟩)) w := fieldA_i f_T_law09_Act_0
theorem f_T_law09_Act_1 : fldT P T_law09_Act 1 = some 1 := by kernel_rfl
theorem fA_T_law09_Act_1 (b o : Nat) (w : World) (K : Value → World → Prop) : wFieldA P T_law09_Act (.pointer (some ⟨b, o, none⟩)) 1 w K = K (.pointer (some ⟨b, o + 1, none⟩)) w := fieldA_i f_T_law09_Act_1
theorem f_T_law09_Act_2 : fldT P T_law09_Act 2 = some 2 := by kernel_rfl
theorem fA_T_law09_Act_2 (b o : Nat) (w : World) (K : Value → World → Prop) : wFieldA P T_law09_Act (.pointer (some ⟨b, o, none⟩)) 2 w K = K (.pointer (some ⟨b, o + 2, none⟩)) w := fieldA_i f_T_law09_Act_2
theorem f_T_law09_Act_3 : fldT P T_law09_Act 3 = some 3 := by kernel_rfl
theorem fA_T_law09_Act_3 (b o : Nat) (w : World) (K : Value → World → Prop) : wFieldA P T_law09_Act (.pointer (some ⟨b, o, none⟩)) 3 w K = K (.pointer (some ⟨b, o + 3, none⟩)) w := fieldA_i f_T_law09_Act_3
theorem f_T_ref04_Geom_0 : fldT P T_ref04_Geom 0 = some 0 := by kernel_rfl
theorem fA_T_ref04_Geom_0 (b o : Nat) (w : World) (K : Value → World → Prop) : wFieldA P T_ref04_Geom (.pointer (some ⟨b, o, none⟩)) 0 w K = K (.pointer (some ⟨b, o, none⟩)) w := fieldA_i f_T_ref04_Geom_0
theorem f_T_ref04_Geom_1 : fldT P T_ref04_Geom 1 = some 1 := by kernel_rfl
theorem fA_T_ref04_Geom_1 (b o : Nat) (w : World) (K : Value → World → Prop) : wFieldA P T_ref04_Geom (.pointer (some ⟨b, o, none⟩)) 1 w K = K (.pointer (some ⟨b, o + 1, none⟩)) w := fieldA_i f_T_ref04_Geom_1
theorem f_T_ref04_Geom_2 : fldT P T_ref04_Geom 2 = some 2 := by kernel_rfl
theorem fA_T_ref04_Geom_2 (b o : Nat) (w : World) (K : Value → World → Prop) : wFieldA P T_ref04_Geom (.pointer (some ⟨b, o, none⟩)) 2 w K = K (.pointer (some ⟨b, o + 2, none⟩)) w := fieldA_i f_T_ref04_Geom_2
theorem f_T_ref11_Place_0 : fldT P T_ref11_Place 0 = some 0 := by kernel_rfl
theorem fA_T_ref11_Place_0 (b o : Nat) (w : World) (K : Value → World → Prop) : wFieldA P T_ref11_Place (.pointer (some ⟨b, o, none⟩)) 0 w K = K (.pointer (some ⟨b, o, none⟩)) w := fieldA_i f_T_ref11_Place_0
theorem f_T_ref11_Place_1 : fldT P T_ref11_Place 1 = some 1 := by kernel_rfl
theorem fA_T_ref11_Place_1 (b o : Nat) (w : World) (K : Value → World → Prop) : wFieldA P T_ref11_Place (.pointer (some ⟨b, o, none⟩)) 1 w K = K (.pointer (some ⟨b, o + 1, none⟩)) w := fieldA_i f_T_ref11_Place_1
theorem f_T_ref11_Place_2 : fldT P T_ref11_Place 2 = some 2 := by kernel_rfl
theorem fA_T_ref11_Place_2 (b o : Nat) (w : World) (K : Value → World → Prop) : wFieldA P T_ref11_Place (.pointer (some ⟨b, o, none⟩)) 2 w K = K (.pointer (some ⟨b, o + 2, none⟩)) w := fieldA_i f_T_ref11_Place_2
theorem f_T_ref11_Place_3 : fldT P T_ref11_Place 3 = some 3 := by kernel_rfl
theorem fA_T_ref11_Place_3 (b o : Nat) (w : World) (K : Value → World → Prop) : wFieldA P T_ref11_Place (.pointer (some ⟨b, o, none⟩)) 3 w K = K (.pointer (some ⟨b, o + 3, none⟩)) w := fieldA_i f_T_ref11_Place_3
theorem f_T_slog_Place_0 : fldT P T_slog_Place 0 = some 0 := by kernel_rfl
theorem fA_T_slog_Place_0 (b o : Nat) (w : World) (K : Value → World → Prop) : wFieldA P T_slog_Place (.pointer (some ⟨b, o, none⟩)) 0 w K = K (.pointer (some ⟨b, o, none⟩)) w := fieldA_i f_T_slog_Place_0
theorem f_T_slog_Place_1 : fldT P T_slog_Place 1 = some 1 := by kernel_rfl
theorem fA_T_slog_Place_1 (b o : Nat) (w : World) (K : Value → World → Prop) : wFieldA P T_slog_Place (.pointer (some ⟨b, o, none⟩)) 1 w K = K (.pointer (some ⟨b, o + 1, none⟩)) w := fieldA_i f_T_slog_Place_1
theorem f_T_slog_Place_2 : fldT P T_slog_Place 2 = some 2 := by kernel_rfl
theorem fA_T_slog_Place_2 (b o : Nat) (w : World) (K : Value → World → Prop) : wFieldA P T_slog_Place (.pointer (some ⟨b, o, none⟩)) 2 w K = K (.pointer (some ⟨b, o + 2, none⟩)) w := fieldA_i f_T_slog_Place_2
theorem f_T_slog_Place_3 : fldT P T_slog_Place 3 = some 3 := by kernel_rfl
theorem fA_T_slog_Place_3 (b o : Nat) (w : World) (K : Value → World → Prop) : wFieldA P T_slog_Place (.pointer (some ⟨b, o, none⟩)) 3 w K = K (.pointer (some ⟨b, o + 3, none⟩)) w := fieldA_i f_T_slog_Place_3
theorem f_T_slog_Layout_0 : fldT P T_slog_Layout 0 = some 0 := by kernel_rfl
theorem fA_T_slog_Layout_0 (b o : Nat) (w : World) (K : Value → World → Prop) : wFieldA P T_slog_Layout (.pointer (some ⟨b, o, none⟩)) 0 w K = K (.pointer (some ⟨b, o, none⟩)) w := fieldA_i f_T_slog_Layout_0
theorem f_T_slog_Layout_1 : fldT P T_slog_Layout 1 = some 1 := by kernel_rfl
theorem fA_T_slog_Layout_1 (b o : Nat) (w : World) (K : Value → World → Prop) : wFieldA P T_slog_Layout (.pointer (some ⟨b, o, none⟩)) 1 w K = K (.pointer (some ⟨b, o + 1, none⟩)) w := fieldA_i f_T_slog_Layout_1
theorem f_T_slog_Layout_2 : fldT P T_slog_Layout 2 = some 5 := by kernel_rfl
theorem fA_T_slog_Layout_2 (b o : Nat) (w : World) (K : Value → World → Prop) : wFieldA P T_slog_Layout (.pointer (some ⟨b, o, none⟩)) 2 w K = K (.pointer (some ⟨b, o + 5, none⟩)) w := fieldA_i f_T_slog_Layout_2
theorem f_T_geom_Geom_0 : fldT P T_geom_Geom 0 = some 0 := by kernel_rfl
theorem fA_T_geom_Geom_0 (b o : Nat) (w : World) (K : Value → World → Prop) : wFieldA P T_geom_Geom (.pointer (some ⟨b, o, none⟩)) 0 w K = K (.pointer (some ⟨b, o, none⟩)) w := fieldA_i f_T_geom_Geom_0
theorem f_T_geom_Geom_1 : fldT P T_geom_Geom 1 = some 1 := by kernel_rfl
theorem fA_T_geom_Geom_1 (b o : Nat) (w : World) (K : Value → World → Prop) : wFieldA P T_geom_Geom (.pointer (some ⟨b, o, none⟩)) 1 w K = K (.pointer (some ⟨b, o + 1, none⟩)) w := fieldA_i f_T_geom_Geom_1
theorem f_T_geom_Geom_2 : fldT P T_geom_Geom 2 = some 2 := by kernel_rfl
theorem fA_T_geom_Geom_2 (b o : Nat) (w : World) (K : Value → World → Prop) : wFieldA P T_geom_Geom (.pointer (some ⟨b, o, none⟩)) 2 w K = K (.pointer (some ⟨b, o + 2, none⟩)) w := fieldA_i f_T_geom_Geom_2
theorem f_T_ref05_Entry_0 : fldT P T_ref05_Entry 0 = some 0 := by kernel_rfl
theorem fA_T_ref05_Entry_0 (b o : Nat) (w : World) (K : Value → World → Prop) : wFieldA P T_ref05_Entry (.pointer (some ⟨b, o, none⟩)) 0 w K = K (.pointer (some ⟨b, o, none⟩)) w := fieldA_i f_T_ref05_Entry_0
theorem f_T_ref05_Entry_1 : fldT P T_ref05_Entry 1 = some 1 := by kernel_rfl
theorem fA_T_ref05_Entry_1 (b o : Nat) (w : World) (K : Value → World → Prop) : wFieldA P T_ref05_Entry (.pointer (some ⟨b, o, none⟩)) 1 w K = K (.pointer (some ⟨b, o + 1, none⟩)) w := fieldA_i f_T_ref05_Entry_1
theorem f_T_ref05_Entry_2 : fldT P T_ref05_Entry 2 = some 2 := by kernel_rfl
theorem fA_T_ref05_Entry_2 (b o : Nat) (w : World) (K : Value → World → Prop) : wFieldA P T_ref05_Entry (.pointer (some ⟨b, o, none⟩)) 2 w K = K (.pointer (some ⟨b, o + 2, none⟩)) w := fieldA_i f_T_ref05_Entry_2
theorem f_T_ref05_Entry_3 : fldT P T_ref05_Entry 3 = some 3 := by kernel_rfl
theorem fA_T_ref05_Entry_3 (b o : Nat) (w : World) (K : Value → World → Prop) : wFieldA P T_ref05_Entry (.pointer (some ⟨b, o, none⟩)) 3 w K = K (.pointer (some ⟨b, o + 3, none⟩)) w := fieldA_i f_T_ref05_Entry_3
theorem f_T_ref11_Item_0 : fldT P T_ref11_Item 0 = some 0 := by kernel_rfl
theorem fA_T_ref11_Item_0 (b o : Nat) (w : World) (K : Value → World → Prop) : wFieldA P T_ref11_Item (.pointer (some ⟨b, o, none⟩)) 0 w K = K (.pointer (some ⟨b, o, none⟩)) w := fieldA_i f_T_ref11_Item_0
theorem f_T_ref11_Item_1 : fldT P T_ref11_Item 1 = some 4 := by kernel_rfl
theorem fA_T_ref11_Item_1 (b o : Nat) (w : World) (K : Value → World → Prop) : wFieldA P T_ref11_Item (.pointer (some ⟨b, o, none⟩)) 1 w K = K (.pointer (some ⟨b, o + 4, none⟩)) w := fieldA_i f_T_ref11_Item_1
theorem f_T_slog_Batch_0 : fldT P T_slog_Batch 0 = some 0 := by kernel_rfl
theorem fA_T_slog_Batch_0 (b o : Nat) (w : World) (K : Value → World → Prop) : wFieldA P T_slog_Batch (.pointer (some ⟨b, o, none⟩)) 0 w K = K (.pointer (some ⟨b, o, none⟩)) w := fieldA_i f_T_slog_Batch_0
theorem f_T_slog_Batch_1 : fldT P T_slog_Batch 1 = some 1 := by kernel_rfl
theorem fA_T_slog_Batch_1 (b o : Nat) (w : World) (K : Value → World → Prop) : wFieldA P T_slog_Batch (.pointer (some ⟨b, o, none⟩)) 1 w K = K (.pointer (some ⟨b, o + 1, none⟩)) w := fieldA_i f_T_slog_Batch_1
theorem f_T_slog_Batch_2 : fldT P T_slog_Batch 2 = some 2 := by kernel_rfl
theorem fA_T_slog_Batch_2 (b o : Nat) (w : World) (K : Value → World → Prop) : wFieldA P T_slog_Batch (.pointer (some ⟨b, o, none⟩)) 2 w K = K (.pointer (some ⟨b, o + 2, none⟩)) w := fieldA_i f_T_slog_Batch_2
theorem f_T_slog_Batch_3 : fldT P T_slog_Batch 3 = some 3 := by kernel_rfl
theorem fA_T_slog_Batch_3 (b o : Nat) (w : World) (K : Value → World → Prop) : wFieldA P T_slog_Batch (.pointer (some ⟨b, o, none⟩)) 3 w K = K (.pointer (some ⟨b, o + 3, none⟩)) w := fieldA_i f_T_slog_Batch_3
theorem f_T_law11_Step_0 : fldT P T_law11_Step 0 = some 0 := by kernel_rfl
theorem fA_T_law11_Step_0 (b o : Nat) (w : World) (K : Value → World → Prop) : wFieldA P T_law11_Step (.pointer (some ⟨b, o, none⟩)) 0 w K = K (.pointer (some ⟨b, o, none⟩)) w := fieldA_i f_T_law11_Step_0
theorem f_T_law11_Step_1 : fldT P T_law11_Step 1 = some 1 := by kernel_rfl
theorem fA_T_law11_Step_1 (b o : Nat) (w : World) (K : Value → World → Prop) : wFieldA P T_law11_Step (.pointer (some ⟨b, o, none⟩)) 1 w K = K (.pointer (some ⟨b, o + 1, none⟩)) w := fieldA_i f_T_law11_Step_1
theorem f_T_law11_Step_2 : fldT P T_law11_Step 2 = some 2 := by kernel_rfl
theorem fA_T_law11_Step_2 (b o : Nat) (w : World) (K : Value → World → Prop) : wFieldA P T_law11_Step (.pointer (some ⟨b, o, none⟩)) 2 w K = K (.pointer (some ⟨b, o + 2, none⟩)) w := fieldA_i f_T_law11_Step_2
theorem f_T_law11_Step_3 : fldT P T_law11_Step 3 = some 3 := by kernel_rfl
theorem fA_T_law11_Step_3 (b o : Nat) (w : World) (K : Value → World → Prop) : wFieldA P T_law11_Step (.pointer (some ⟨b, o, none⟩)) 3 w K = K (.pointer (some ⟨b, o + 3, none⟩)) w := fieldA_i f_T_law11_Step_3
theorem f_T_law11_Step_4 : fldT P T_law11_Step 4 = some 4 := by kernel_rfl
theorem fA_T_law11_Step_4 (b o : Nat) (w : World) (K : Value → World → Prop) : wFieldA P T_law11_Step (.pointer (some ⟨b, o, none⟩)) 4 w K = K (.pointer (some ⟨b, o + 4, none⟩)) w := fieldA_i f_T_law11_Step_4
theorem f_T_codec_Entry_0 : fldT P T_codec_Entry 0 = some 0 := by kernel_rfl
theorem fA_T_codec_Entry_0 (b o : Nat) (w : World) (K : Value → World → Prop) : wFieldA P T_codec_Entry (.pointer (some ⟨b, o, none⟩)) 0 w K = K (.pointer (some ⟨b, o, none⟩)) w := fieldA_i f_T_codec_Entry_0
theorem f_T_codec_Entry_1 : fldT P T_codec_Entry 1 = some 1 := by kernel_rfl
theorem fA_T_codec_Entry_1 (b o : Nat) (w : World) (K : Value → World → Prop) : wFieldA P T_codec_Entry (.pointer (some ⟨b, o, none⟩)) 1 w K = K (.pointer (some ⟨b, o + 1, none⟩)) w := fieldA_i f_T_codec_Entry_1
theorem f_T_codec_Entry_2 : fldT P T_codec_Entry 2 = some 2 := by kernel_rfl
theorem fA_T_codec_Entry_2 (b o : Nat) (w : World) (K : Value → World → Prop) : wFieldA P T_codec_Entry (.pointer (some ⟨b, o, none⟩)) 2 w K = K (.pointer (some ⟨b, o + 2, none⟩)) w := fieldA_i f_T_codec_Entry_2
theorem f_T_codec_Entry_3 : fldT P T_codec_Entry 3 = some 3 := by kernel_rfl
theorem fA_T_codec_Entry_3 (b o : Nat) (w : World) (K : Value → World → Prop) : wFieldA P T_codec_Entry (.pointer (some ⟨b, o, none⟩)) 3 w K = K (.pointer (some ⟨b, o + 3, none⟩)) w := fieldA_i f_T_codec_Entry_3
theorem f_T_slog_Found_0 : fldT P T_slog_Found 0 = some 0 := by kernel_rfl
theorem fA_T_slog_Found_0 (b o : Nat) (w : World) (K : Value → World → Prop) : wFieldA P T_slog_Found (.pointer (some ⟨b, o, none⟩)) 0 w K = K (.pointer (some ⟨b, o, none⟩)) w := fieldA_i f_T_slog_Found_0
theorem f_T_slog_Found_1 : fldT P T_slog_Found 1 = some 4 := by kernel_rfl
theorem fA_T_slog_Found_1 (b o : Nat) (w : World) (K : Value → World → Prop) : wFieldA P T_slog_Found (.pointer (some ⟨b, o, none⟩)) 1 w K = K (.pointer (some ⟨b, o + 4, none⟩)) w := fieldA_i f_T_slog_Found_1
theorem f_T_disk_state_0 : fldT P T_disk_state 0 = some 0 := by kernel_rfl
theorem fA_T_disk_state_0 (b o : Nat) (w : World) (K : Value → World → Prop) : wFieldA P T_disk_state (.pointer (some ⟨b, o, none⟩)) 0 w K = K (.pointer (some ⟨b, o, none⟩)) w := fieldA_i f_T_disk_state_0
theorem f_T_disk_state_1 : fldT P T_disk_state 1 = some 1 := by kernel_rfl
theorem fA_T_disk_state_1 (b o : Nat) (w : World) (K : Value → World → Prop) : wFieldA P T_disk_state (.pointer (some ⟨b, o, none⟩)) 1 w K = K (.pointer (some ⟨b, o + 1, none⟩)) w := fieldA_i f_T_disk_state_1
theorem f_T_disk_Disk_0 : fldT P T_disk_Disk 0 = some 0 := by kernel_rfl
theorem fA_T_disk_Disk_0 (b o : Nat) (w : World) (K : Value → World → Prop) : wFieldA P T_disk_Disk (.pointer (some ⟨b, o, none⟩)) 0 w K = K (.pointer (some ⟨b, o, none⟩)) w := fieldA_i f_T_disk_Disk_0
theorem f_T_disk_Disk_1 : fldT P T_disk_Disk 1 = some 2 := by kernel_rfl
theorem fA_T_disk_Disk_1 (b o : Nat) (w : World) (K : Value → World → Prop) : wFieldA P T_disk_Disk (.pointer (some ⟨b, o, none⟩)) 1 w K = K (.pointer (some ⟨b, o + 2, none⟩)) w := fieldA_i f_T_disk_Disk_1
theorem f_T_disk_Disk_2 : fldT P T_disk_Disk 2 = some 3 := by kernel_rfl
theorem fA_T_disk_Disk_2 (b o : Nat) (w : World) (K : Value → World → Prop) : wFieldA P T_disk_Disk (.pointer (some ⟨b, o, none⟩)) 2 w K = K (.pointer (some ⟨b, o + 3, none⟩)) w := fieldA_i f_T_disk_Disk_2
theorem f_T_disk_Disk_3 : fldT P T_disk_Disk 3 = some 4 := by kernel_rfl
theorem fA_T_disk_Disk_3 (b o : Nat) (w : World) (K : Value → World → Prop) : wFieldA P T_disk_Disk (.pointer (some ⟨b, o, none⟩)) 3 w K = K (.pointer (some ⟨b, o + 4, none⟩)) w := fieldA_i f_T_disk_Disk_3
theorem f_T_disk_write_0 : fldT P T_disk_write 0 = some 0 := by kernel_rfl
theorem fA_T_disk_write_0 (b o : Nat) (w : World) (K : Value → World → Prop) : wFieldA P T_disk_write (.pointer (some ⟨b, o, none⟩)) 0 w K = K (.pointer (some ⟨b, o, none⟩)) w := fieldA_i f_T_disk_write_0
theorem f_T_disk_write_1 : fldT P T_disk_write 1 = some 1 := by kernel_rfl
theorem fA_T_disk_write_1 (b o : Nat) (w : World) (K : Value → World → Prop) : wFieldA P T_disk_write (.pointer (some ⟨b, o, none⟩)) 1 w K = K (.pointer (some ⟨b, o + 1, none⟩)) w := fieldA_i f_T_disk_write_1
theorem f_T_imap_Map_0 : fldT P T_imap_Map 0 = some 0 := by kernel_rfl
theorem fA_T_imap_Map_0 (b o : Nat) (w : World) (K : Value → World → Prop) : wFieldA P T_imap_Map (.pointer (some ⟨b, o, none⟩)) 0 w K = K (.pointer (some ⟨b, o, none⟩)) w := fieldA_i f_T_imap_Map_0
theorem f_T_usage_Table_0 : fldT P T_usage_Table 0 = some 0 := by kernel_rfl
theorem fA_T_usage_Table_0 (b o : Nat) (w : World) (K : Value → World → Prop) : wFieldA P T_usage_Table (.pointer (some ⟨b, o, none⟩)) 0 w K = K (.pointer (some ⟨b, o, none⟩)) w := fieldA_i f_T_usage_Table_0
theorem f_T_usage_Table_1 : fldT P T_usage_Table 1 = some 1 := by kernel_rfl
theorem fA_T_usage_Table_1 (b o : Nat) (w : World) (K : Value → World → Prop) : wFieldA P T_usage_Table (.pointer (some ⟨b, o, none⟩)) 1 w K = K (.pointer (some ⟨b, o + 1, none⟩)) w := fieldA_i f_T_usage_Table_1
theorem f_T_num_Writer_0 : fldT P T_num_Writer 0 = some 0 := by kernel_rfl
theorem fA_T_num_Writer_0 (b o : Nat) (w : World) (K : Value → World → Prop) : wFieldA P T_num_Writer (.pointer (some ⟨b, o, none⟩)) 0 w K = K (.pointer (some ⟨b, o, none⟩)) w := fieldA_i f_T_num_Writer_0
theorem f_T_num_Writer_1 : fldT P T_num_Writer 1 = some 128 := by kernel_rfl
theorem fA_T_num_Writer_1 (b o : Nat) (w : World) (K : Value → World → Prop) : wFieldA P T_num_Writer (.pointer (some ⟨b, o, none⟩)) 1 w K = K (.pointer (some ⟨b, o + 128, none⟩)) w := fieldA_i f_T_num_Writer_1
theorem f_T_num_Writer_2 : fldT P T_num_Writer 2 = some 129 := by kernel_rfl
theorem fA_T_num_Writer_2 (b o : Nat) (w : World) (K : Value → World → Prop) : wFieldA P T_num_Writer (.pointer (some ⟨b, o, none⟩)) 2 w K = K (.pointer (some ⟨b, o + 129, none⟩)) w := fieldA_i f_T_num_Writer_2
theorem f_T_ref05_Field_0 : fldT P T_ref05_Field 0 = some 0 := by kernel_rfl
theorem fA_T_ref05_Field_0 (b o : Nat) (w : World) (K : Value → World → Prop) : wFieldA P T_ref05_Field (.pointer (some ⟨b, o, none⟩)) 0 w K = K (.pointer (some ⟨b, o, none⟩)) w := fieldA_i f_T_ref05_Field_0
theorem f_T_ref05_Field_1 : fldT P T_ref05_Field 1 = some 1 := by kernel_rfl
theorem fA_T_ref05_Field_1 (b o : Nat) (w : World) (K : Value → World → Prop) : wFieldA P T_ref05_Field (.pointer (some ⟨b, o, none⟩)) 1 w K = K (.pointer (some ⟨b, o + 1, none⟩)) w := fieldA_i f_T_ref05_Field_1
theorem f_T_slog_Item_0 : fldT P T_slog_Item 0 = some 0 := by kernel_rfl
theorem fA_T_slog_Item_0 (b o : Nat) (w : World) (K : Value → World → Prop) : wFieldA P T_slog_Item (.pointer (some ⟨b, o, none⟩)) 0 w K = K (.pointer (some ⟨b, o, none⟩)) w := fieldA_i f_T_slog_Item_0
theorem f_T_slog_Item_1 : fldT P T_slog_Item 1 = some 4 := by kernel_rfl
theorem fA_T_slog_Item_1 (b o : Nat) (w : World) (K : Value → World → Prop) : wFieldA P T_slog_Item (.pointer (some ⟨b, o, none⟩)) 1 w K = K (.pointer (some ⟨b, o + 4, none⟩)) w := fieldA_i f_T_slog_Item_1
theorem f_T_slog_writer_0 : fldT P T_slog_writer 0 = some 0 := by kernel_rfl
theorem fA_T_slog_writer_0 (b o : Nat) (w : World) (K : Value → World → Prop) : wFieldA P T_slog_writer (.pointer (some ⟨b, o, none⟩)) 0 w K = K (.pointer (some ⟨b, o, none⟩)) w := fieldA_i f_T_slog_writer_0
theorem f_T_slog_writer_1 : fldT P T_slog_writer 1 = some 1 := by kernel_rfl
theorem fA_T_slog_writer_1 (b o : Nat) (w : World) (K : Value → World → Prop) : wFieldA P T_slog_writer (.pointer (some ⟨b, o, none⟩)) 1 w K = K (.pointer (some ⟨b, o + 1, none⟩)) w := fieldA_i f_T_slog_writer_1
theorem f_T_slog_group_0 : fldT P T_slog_group 0 = some 0 := by kernel_rfl
theorem fA_T_slog_group_0 (b o : Nat) (w : World) (K : Value → World → Prop) : wFieldA P T_slog_group (.pointer (some ⟨b, o, none⟩)) 0 w K = K (.pointer (some ⟨b, o, none⟩)) w := fieldA_i f_T_slog_group_0
theorem f_T_slog_group_1 : fldT P T_slog_group 1 = some 1 := by kernel_rfl
theorem fA_T_slog_group_1 (b o : Nat) (w : World) (K : Value → World → Prop) : wFieldA P T_slog_group (.pointer (some ⟨b, o, none⟩)) 1 w K = K (.pointer (some ⟨b, o + 1, none⟩)) w := fieldA_i f_T_slog_group_1
theorem f_T_slog_group_2 : fldT P T_slog_group 2 = some 129 := by kernel_rfl
theorem fA_T_slog_group_2 (b o : Nat) (w : World) (K : Value → World → Prop) : wFieldA P T_slog_group (.pointer (some ⟨b, o, none⟩)) 2 w K = K (.pointer (some ⟨b, o + 129, none⟩)) w := fieldA_i f_T_slog_group_2
theorem f_T_slog_group_3 : fldT P T_slog_group 3 = some 130 := by kernel_rfl
theorem fA_T_slog_group_3 (b o : Nat) (w : World) (K : Value → World → Prop) : wFieldA P T_slog_group (.pointer (some ⟨b, o, none⟩)) 3 w K = K (.pointer (some ⟨b, o + 130, none⟩)) w := fieldA_i f_T_slog_group_3
theorem f_T_codec_writer_0 : fldT P T_codec_writer 0 = some 0 := by kernel_rfl
theorem fA_T_codec_writer_0 (b o : Nat) (w : World) (K : Value → World → Prop) : wFieldA P T_codec_writer (.pointer (some ⟨b, o, none⟩)) 0 w K = K (.pointer (some ⟨b, o, none⟩)) w := fieldA_i f_T_codec_writer_0
theorem f_T_codec_writer_1 : fldT P T_codec_writer 1 = some 1 := by kernel_rfl
theorem fA_T_codec_writer_1 (b o : Nat) (w : World) (K : Value → World → Prop) : wFieldA P T_codec_writer (.pointer (some ⟨b, o, none⟩)) 1 w K = K (.pointer (some ⟨b, o + 1, none⟩)) w := fieldA_i f_T_codec_writer_1
theorem f_T_codec_reader_0 : fldT P T_codec_reader 0 = some 0 := by kernel_rfl
theorem fA_T_codec_reader_0 (b o : Nat) (w : World) (K : Value → World → Prop) : wFieldA P T_codec_reader (.pointer (some ⟨b, o, none⟩)) 0 w K = K (.pointer (some ⟨b, o, none⟩)) w := fieldA_i f_T_codec_reader_0
theorem f_T_codec_reader_1 : fldT P T_codec_reader 1 = some 1 := by kernel_rfl
theorem fA_T_codec_reader_1 (b o : Nat) (w : World) (K : Value → World → Prop) : wFieldA P T_codec_reader (.pointer (some ⟨b, o, none⟩)) 1 w K = K (.pointer (some ⟨b, o + 1, none⟩)) w := fieldA_i f_T_codec_reader_1
theorem f_T_codec_reader_2 : fldT P T_codec_reader 2 = some 2 := by kernel_rfl
theorem fA_T_codec_reader_2 (b o : Nat) (w : World) (K : Value → World → Prop) : wFieldA P T_codec_reader (.pointer (some ⟨b, o, none⟩)) 2 w K = K (.pointer (some ⟨b, o + 2, none⟩)) w := fieldA_i f_T_codec_reader_2
theorem f_T_num_Reader_0 : fldT P T_num_Reader 0 = some 0 := by kernel_rfl
theorem fA_T_num_Reader_0 (b o : Nat) (w : World) (K : Value → World → Prop) : wFieldA P T_num_Reader (.pointer (some ⟨b, o, none⟩)) 0 w K = K (.pointer (some ⟨b, o, none⟩)) w := fieldA_i f_T_num_Reader_0
theorem f_T_num_Reader_1 : fldT P T_num_Reader 1 = some 128 := by kernel_rfl
theorem fA_T_num_Reader_1 (b o : Nat) (w : World) (K : Value → World → Prop) : wFieldA P T_num_Reader (.pointer (some ⟨b, o, none⟩)) 1 w K = K (.pointer (some ⟨b, o + 128, none⟩)) w := fieldA_i f_T_num_Reader_1
theorem f_T_num_Reader_2 : fldT P T_num_Reader 2 = some 129 := by kernel_rfl
theorem fA_T_num_Reader_2 (b o : Nat) (w : World) (K : Value → World → Prop) : wFieldA P T_num_Reader (.pointer (some ⟨b, o, none⟩)) 2 w K = K (.pointer (some ⟨b, o + 129, none⟩)) w := fieldA_i f_T_num_Reader_2
theorem bl_T_ref03_Disk {ps : List (Nat × Value)} {cs : List Value} {w : World} {K : Value → World → Prop} (hf : Instr.fill ((#[(0, 1), (1, 1), (2, 1), (3, 1), (4, 1)] : Array (Nat × Nat))[·]?) ⟨[.slice none 0 0, .slice none 0 0, .bool false, .int .i64 0, .int .i64 0]⟩ ps = some ⟨cs⟩) : wBuild P T_ref03_Disk ps w K = K (.agg ⟨cs⟩) w :=
  build_s (places := #[(0, 1), (1, 1), (2, 1), (3, 1), (4, 1)]) (show P.underlying T_ref03_Disk = some (.struct (P.fieldsOf T_ref03_Disk)) by kernel_rfl) z_T_ref03_Disk (fun _ => by kernel_rfl) hf
theorem bl_T_A128uint8 {ps : List (Nat × Value)} {cs : List Value} {w : World} {K : Value → World → Prop} (hf : Instr.fill (fun i => some (i * 1, 1)) ⟨List.replicate 128 (.int .u8 0)⟩ ps = some ⟨cs⟩) : wBuild P T_A128uint8 ps w K = K (.agg ⟨cs⟩) w :=
  build_a v_T_A128uint8 z_T_A128uint8 (sizeOf_one o_T_uint8) hf
theorem bl_T_ref03_Write {ps : List (Nat × Value)} {cs : List Value} {w : World} {K : Value → World → Prop} (hf : Instr.fill ((#[(0, 1), (1, 128)] : Array (Nat × Nat))[·]?) ⟨[.int .i64 0] ++ List.replicate 128 (.int .u8 0)⟩ ps = some ⟨cs⟩) : wBuild P T_ref03_Write ps w K = K (.agg ⟨cs⟩) w :=
  build_s (places := #[(0, 1), (1, 128)]) (show P.underlying T_ref03_Write = some (.struct (P.fieldsOf T_ref03_Write)) by kernel_rfl) z_T_ref03_Write (fun _ => by kernel_rfl) hf
theorem bl_T_ref05_Use {ps : List (Nat × Value)} {cs : List Value} {w : World} {K : Value → World → Prop} (hf : Instr.fill ((#[(0, 1), (1, 1), (2, 1)] : Array (Nat × Nat))[·]?) ⟨[.int .i64 0, .int .i64 0, .int .u32 0]⟩ ps = some ⟨cs⟩) : wBuild P T_ref05_Use ps w K = K (.agg ⟨cs⟩) w :=
  build_s (places := #[(0, 1), (1, 1), (2, 1)]) (show P.underlying T_ref05_Use = some (.struct (P.fieldsOf T_ref05_Use)) by kernel_rfl) z_T_ref05_Use (fun _ => by kernel_rfl) hf
theorem bl_T_codec_Use {ps : List (Nat × Value)} {cs : List Value} {w : World} {K : Value → World → Prop} (hf : Instr.fill ((#[(0, 1), (1, 1), (2, 1)] : Array (Nat × Nat))[·]?) ⟨[.int .i64 0, .int .i64 0, .int .u32 0]⟩ ps = some ⟨cs⟩) : wBuild P T_codec_Use ps w K = K (.agg ⟨cs⟩) w :=
  build_s (places := #[(0, 1), (1, 1), (2, 1)]) (show P.underlying T_codec_Use = some (.struct (P.fieldsOf T_codec_Use)) by kernel_rfl) z_T_codec_Use (fun _ => by kernel_rfl) hf
theorem bl_T_ref05_Slot {ps : List (Nat × Value)} {cs : List Value} {w : World} {K : Value → World → Prop} (hf : Instr.fill ((#[(0, 1), (1, 1), (2, 1), (3, 1)] : Array (Nat × Nat))[·]?) ⟨[.int .i64 0, .int .u32 0, .int .i64 0, .int .i64 0]⟩ ps = some ⟨cs⟩) : wBuild P T_ref05_Slot ps w K = K (.agg ⟨cs⟩) w :=
  build_s (places := #[(0, 1), (1, 1), (2, 1), (3, 1)]) (show P.underlying T_ref05_Slot = some (.struct (P.fieldsOf T_ref05_Slot)) by kernel_rfl) z_T_ref05_Slot (fun _ => by kernel_rfl) hf
theorem bl_T_codec_Slot {ps : List (Nat × Value)} {cs : List Value} {w : World} {K : Value → World → Prop} (hf : Instr.fill ((#[(0, 1), (1, 1), (2, 1), (3, 1)] : Array (Nat × Nat))[·]?) ⟨[.int .i64 0, .int .u32 0, .int .i64 0, .int .i64 0]⟩ ps = some ⟨cs⟩) : wBuild P T_codec_Slot ps w K = K (.agg ⟨cs⟩) w :=
  build_s (places := #[(0, 1), (1, 1), (2, 1), (3, 1)]) (show P.underlying T_codec_Slot = some (.struct (P.fieldsOf T_codec_Slot)) by kernel_rfl) z_T_codec_Slot (fun _ => by kernel_rfl) hf
theorem bl_T_api_Sector {ps : List (Nat × Value)} {cs : List Value} {w : World} {K : Value → World → Prop} (hf : Instr.fill (fun i => some (i * 1, 1)) ⟨List.replicate 128 (.int .u8 0)⟩ ps = some ⟨cs⟩) : wBuild P T_api_Sector ps w K = K (.agg ⟨cs⟩) w :=
  build_a v_T_api_Sector z_T_api_Sector (sizeOf_one o_T_uint8) hf
theorem bl_T_ref05_Inode {ps : List (Nat × Value)} {cs : List Value} {w : World} {K : Value → World → Prop} (hf : Instr.fill ((#[(0, 1), (1, 1), (2, 1), (3, 1), (4, 1), (5, 8), (13, 1), (14, 1)] : Array (Nat × Nat))[·]?) ⟨[.int .u32 0, .int .u32 0, .int .i64 0, .int .i64 0, .int .u32 0] ++ List.replicate 10 (.int .i64 0)⟩ ps = some ⟨cs⟩) : wBuild P T_ref05_Inode ps w K = K (.agg ⟨cs⟩) w :=
  build_s (places := #[(0, 1), (1, 1), (2, 1), (3, 1), (4, 1), (5, 8), (13, 1), (14, 1)]) (show P.underlying T_ref05_Inode = some (.struct (P.fieldsOf T_ref05_Inode)) by kernel_rfl) z_T_ref05_Inode (fun _ => by kernel_rfl) hf
theorem bl_T_codec_Inode {ps : List (Nat × Value)} {cs : List Value} {w : World} {K : Value → World → Prop} (hf : Instr.fill ((#[(0, 1), (1, 1), (2, 1), (3, 1), (4, 1), (5, 8), (13, 1), (14, 1)] : Array (Nat × Nat))[·]?) ⟨[.int .u32 0, .int .u32 0, .int .i64 0, .int .i64 0, .int .u32 0] ++ List.replicate 10 (.int .i64 0)⟩ ps = some ⟨cs⟩) : wBuild P T_codec_Inode ps w K = K (.agg ⟨cs⟩) w :=
  build_s (places := #[(0, 1), (1, 1), (2, 1), (3, 1), (4, 1), (5, 8), (13, 1), (14, 1)]) (show P.underlying T_codec_Inode = some (.struct (P.fieldsOf T_codec_Inode)) by kernel_rfl) z_T_codec_Inode (fun _ => by kernel_rfl) hf
theorem bl_T_ref05_Header {ps : List (Nat × Value)} {cs : List Value} {w : World} {K : Value → World → Prop} (hf : Instr.fill ((#[(0, 1), (1, 1), (2, 1), (3, 1), (4, 1), (5, 1)] : Array (Nat × Nat))[·]?) ⟨[.int .u64 0, .int .u64 0, .int .i64 0, .int .i64 0, .int .i64 0, .int .u32 0]⟩ ps = some ⟨cs⟩) : wBuild P T_ref05_Header ps w K = K (.agg ⟨cs⟩) w :=
  build_s (places := #[(0, 1), (1, 1), (2, 1), (3, 1), (4, 1), (5, 1)]) (show P.underlying T_ref05_Header = some (.struct (P.fieldsOf T_ref05_Header)) by kernel_rfl) z_T_ref05_Header (fun _ => by kernel_rfl) hf
theorem bl_T_codec_Header {ps : List (Nat × Value)} {cs : List Value} {w : World} {K : Value → World → Prop} (hf : Instr.fill ((#[(0, 1), (1, 1), (2, 1), (3, 1), (4, 1), (5, 1)] : Array (Nat × Nat))[·]?) ⟨[.int .u64 0, .int .u64 0, .int .i64 0, .int .i64 0, .int .i64 0, .int .u32 0]⟩ ps = some ⟨cs⟩) : wBuild P T_codec_Header ps w K = K (.agg ⟨cs⟩) w :=
  build_s (places := #[(0, 1), (1, 1), (2, 1), (3, 1), (4, 1), (5, 1)]) (show P.underlying T_codec_Header = some (.struct (P.fieldsOf T_codec_Header)) by kernel_rfl) z_T_codec_Header (fun _ => by kernel_rfl) hf
theorem bl_T_A32int {ps : List (Nat × Value)} {cs : List Value} {w : World} {K : Value → World → Prop} (hf : Instr.fill (fun i => some (i * 1, 1)) ⟨List.replicate 32 (.int .i64 0)⟩ ps = some ⟨cs⟩) : wBuild P T_A32int ps w K = K (.agg ⟨cs⟩) w :=
  build_a v_T_A32int z_T_A32int (sizeOf_one o_T_int) hf
theorem bl_T_ref05_Record {ps : List (Nat × Value)} {cs : List Value} {w : World} {K : Value → World → Prop} (hf : Instr.fill ((#[(0, 1), (1, 1), (2, 1), (3, 1)] : Array (Nat × Nat))[·]?) ⟨[.int .u32 0, .int .u32 0, .int .i64 0, .int .i64 0]⟩ ps = some ⟨cs⟩) : wBuild P T_ref05_Record ps w K = K (.agg ⟨cs⟩) w :=
  build_s (places := #[(0, 1), (1, 1), (2, 1), (3, 1)]) (show P.underlying T_ref05_Record = some (.struct (P.fieldsOf T_ref05_Record)) by kernel_rfl) z_T_ref05_Record (fun _ => by kernel_rfl) hf
theorem bl_T_codec_Record {ps : List (Nat × Value)} {cs : List Value} {w : World} {K : Value → World → Prop} (hf : Instr.fill ((#[(0, 1), (1, 1), (2, 1), (3, 1)] : Array (Nat × Nat))[·]?) ⟨[.int .u32 0, .int .u32 0, .int .i64 0, .int .i64 0]⟩ ps = some ⟨cs⟩) : wBuild P T_codec_Record ps w K = K (.agg ⟨cs⟩) w :=
  build_s (places := #[(0, 1), (1, 1), (2, 1), (3, 1)]) (show P.underlying T_codec_Record = some (.struct (P.fieldsOf T_codec_Record)) by kernel_rfl) z_T_codec_Record (fun _ => by kernel_rfl) hf
theorem bl_T_ref05_Summary {ps : List (Nat × Value)} {cs : List Value} {w : World} {K : Value → World → Prop} (hf : Instr.fill ((#[(0, 1), (1, 1), (2, 1), (3, 1), (4, 1), (5, 1)] : Array (Nat × Nat))[·]?) ⟨[.int .u64 0, .int .u64 0, .bool false, .int .i64 0, .int .u32 0, .slice none 0 0]⟩ ps = some ⟨cs⟩) : wBuild P T_ref05_Summary ps w K = K (.agg ⟨cs⟩) w :=
  build_s (places := #[(0, 1), (1, 1), (2, 1), (3, 1), (4, 1), (5, 1)]) (show P.underlying T_ref05_Summary = some (.struct (P.fieldsOf T_ref05_Summary)) by kernel_rfl) z_T_ref05_Summary (fun _ => by kernel_rfl) hf
theorem bl_T_codec_Summary {ps : List (Nat × Value)} {cs : List Value} {w : World} {K : Value → World → Prop} (hf : Instr.fill ((#[(0, 1), (1, 1), (2, 1), (3, 1), (4, 1), (5, 1)] : Array (Nat × Nat))[·]?) ⟨[.int .u64 0, .int .u64 0, .bool false, .int .i64 0, .int .u32 0, .slice none 0 0]⟩ ps = some ⟨cs⟩) : wBuild P T_codec_Summary ps w K = K (.agg ⟨cs⟩) w :=
  build_s (places := #[(0, 1), (1, 1), (2, 1), (3, 1), (4, 1), (5, 1)]) (show P.underlying T_codec_Summary = some (.struct (P.fieldsOf T_codec_Summary)) by kernel_rfl) z_T_codec_Summary (fun _ => by kernel_rfl) hf
theorem bl_T_ref09_Table {ps : List (Nat × Value)} {cs : List Value} {w : World} {K : Value → World → Prop} (hf : Instr.fill ((#[(0, 1), (1, 1)] : Array (Nat × Nat))[·]?) ⟨[.int .i64 0, .slice none 0 0]⟩ ps = some ⟨cs⟩) : wBuild P T_ref09_Table ps w K = K (.agg ⟨cs⟩) w :=
  build_s (places := #[(0, 1), (1, 1)]) (show P.underlying T_ref09_Table = some (.struct (P.fieldsOf T_ref09_Table)) by kernel_rfl) z_T_ref09_Table (fun _ => by kernel_rfl) hf
theorem bl_T_ref04_Geom {ps : List (Nat × Value)} {cs : List Value} {w : World} {K : Value → World → Prop} (hf : Instr.fill ((#[(0, 1), (1, 1), (2, 1)] : Array (Nat × Nat))[·]?) ⟨[.int .i64 0, .int .i64 0, .int .i64 0]⟩ ps = some ⟨cs⟩) : wBuild P T_ref04_Geom ps w K = K (.agg ⟨cs⟩) w :=
  build_s (places := #[(0, 1), (1, 1), (2, 1)]) (show P.underlying T_ref04_Geom = some (.struct (P.fieldsOf T_ref04_Geom)) by kernel_rfl) z_T_ref04_Geom (fun _ => by kernel_rfl) hf
theorem bl_T_ref11_Place {ps : List (Nat × Value)} {cs : List Value} {w : World} {K : Value → World → Prop} (hf : Instr.fill ((#[(0, 1), (1, 1), (2, 1), (3, 1)] : Array (Nat × Nat))[·]?) ⟨[.int .i64 0, .int .i64 0, .int .i64 0, .int .u64 0]⟩ ps = some ⟨cs⟩) : wBuild P T_ref11_Place ps w K = K (.agg ⟨cs⟩) w :=
  build_s (places := #[(0, 1), (1, 1), (2, 1), (3, 1)]) (show P.underlying T_ref11_Place = some (.struct (P.fieldsOf T_ref11_Place)) by kernel_rfl) z_T_ref11_Place (fun _ => by kernel_rfl) hf
theorem bl_T_slog_Place {ps : List (Nat × Value)} {cs : List Value} {w : World} {K : Value → World → Prop} (hf : Instr.fill ((#[(0, 1), (1, 1), (2, 1), (3, 1)] : Array (Nat × Nat))[·]?) ⟨[.int .i64 0, .int .i64 0, .int .i64 0, .int .u64 0]⟩ ps = some ⟨cs⟩) : wBuild P T_slog_Place ps w K = K (.agg ⟨cs⟩) w :=
  build_s (places := #[(0, 1), (1, 1), (2, 1), (3, 1)]) (show P.underlying T_slog_Place = some (.struct (P.fieldsOf T_slog_Place)) by kernel_rfl) z_T_slog_Place (fun _ => by kernel_rfl) hf
theorem bl_T_slog_Layout {ps : List (Nat × Value)} {cs : List Value} {w : World} {K : Value → World → Prop} (hf : Instr.fill ((#[(0, 1), (1, 4), (5, 1)] : Array (Nat × Nat))[·]?) ⟨[.slice none 0 0, .int .i64 0, .int .i64 0, .int .i64 0, .int .u64 0, .int .i64 0]⟩ ps = some ⟨cs⟩) : wBuild P T_slog_Layout ps w K = K (.agg ⟨cs⟩) w :=
  build_s (places := #[(0, 1), (1, 4), (5, 1)]) (show P.underlying T_slog_Layout = some (.struct (P.fieldsOf T_slog_Layout)) by kernel_rfl) z_T_slog_Layout (fun _ => by kernel_rfl) hf
theorem bl_T_geom_Geom {ps : List (Nat × Value)} {cs : List Value} {w : World} {K : Value → World → Prop} (hf : Instr.fill ((#[(0, 1), (1, 1), (2, 1)] : Array (Nat × Nat))[·]?) ⟨[.int .i64 0, .int .i64 0, .int .i64 0]⟩ ps = some ⟨cs⟩) : wBuild P T_geom_Geom ps w K = K (.agg ⟨cs⟩) w :=
  build_s (places := #[(0, 1), (1, 1), (2, 1)]) (show P.underlying T_geom_Geom = some (.struct (P.fieldsOf T_geom_Geom)) by kernel_rfl) z_T_geom_Geom (fun _ => by kernel_rfl) hf
theorem bl_T_ref05_Entry {ps : List (Nat × Value)} {cs : List Value} {w : World} {K : Value → World → Prop} (hf : Instr.fill ((#[(0, 1), (1, 1), (2, 1), (3, 1)] : Array (Nat × Nat))[·]?) ⟨[.int .i64 0, .int .u32 0, .int .u32 0, .int .i64 0]⟩ ps = some ⟨cs⟩) : wBuild P T_ref05_Entry ps w K = K (.agg ⟨cs⟩) w :=
  build_s (places := #[(0, 1), (1, 1), (2, 1), (3, 1)]) (show P.underlying T_ref05_Entry = some (.struct (P.fieldsOf T_ref05_Entry)) by kernel_rfl) z_T_ref05_Entry (fun _ => by kernel_rfl) hf
theorem bl_T_ref11_Item {ps : List (Nat × Value)} {cs : List Value} {w : World} {K : Value → World → Prop} (hf : Instr.fill ((#[(0, 4), (4, 128)] : Array (Nat × Nat))[·]?) ⟨[.int .i64 0, .int .u32 0, .int .u32 0, .int .i64 0] ++ List.replicate 128 (.int .u8 0)⟩ ps = some ⟨cs⟩) : wBuild P T_ref11_Item ps w K = K (.agg ⟨cs⟩) w :=
  build_s (places := #[(0, 4), (4, 128)]) (show P.underlying T_ref11_Item = some (.struct (P.fieldsOf T_ref11_Item)) by kernel_rfl) z_T_ref11_Item (fun _ => by kernel_rfl) hf
theorem bl_T_slog_Batch {ps : List (Nat × Value)} {cs : List Value} {w : World} {K : Value → World → Prop} (hf : Instr.fill ((#[(0, 1), (1, 1), (2, 1), (3, 1)] : Array (Nat × Nat))[·]?) ⟨[.int .u64 0, .int .u32 0, .slice none 0 0, .slice none 0 0]⟩ ps = some ⟨cs⟩) : wBuild P T_slog_Batch ps w K = K (.agg ⟨cs⟩) w :=
  build_s (places := #[(0, 1), (1, 1), (2, 1), (3, 1)]) (show P.underlying T_slog_Batch = some (.struct (P.fieldsOf T_slog_Batch)) by kernel_rfl) z_T_slog_Batch (fun _ => by kernel_rfl) hf
theorem bl_T_codec_Entry {ps : List (Nat × Value)} {cs : List Value} {w : World} {K : Value → World → Prop} (hf : Instr.fill ((#[(0, 1), (1, 1), (2, 1), (3, 1)] : Array (Nat × Nat))[·]?) ⟨[.int .i64 0, .int .u32 0, .int .u32 0, .int .i64 0]⟩ ps = some ⟨cs⟩) : wBuild P T_codec_Entry ps w K = K (.agg ⟨cs⟩) w :=
  build_s (places := #[(0, 1), (1, 1), (2, 1), (3, 1)]) (show P.underlying T_codec_Entry = some (.struct (P.fieldsOf T_codec_Entry)) by kernel_rfl) z_T_codec_Entry (fun _ => by kernel_rfl) hf
theorem bl_T_slog_Found {ps : List (Nat × Value)} {cs : List Value} {w : World} {K : Value → World → Prop} (hf : Instr.fill ((#[(0, 4), (4, 1)] : Array (Nat × Nat))[·]?) ⟨[.int .i64 0, .int .u32 0, .int .u32 0, .int .i64 0, .int .i64 0]⟩ ps = some ⟨cs⟩) : wBuild P T_slog_Found ps w K = K (.agg ⟨cs⟩) w :=
  build_s (places := #[(0, 4), (4, 1)]) (show P.underlying T_slog_Found = some (.struct (P.fieldsOf T_slog_Found)) by kernel_rfl) z_T_slog_Found (fun _ => by kernel_rfl) hf
theorem bl_T_disk_state {ps : List (Nat × Value)} {cs : List Value} {w : World} {K : Value → World → Prop} (hf : Instr.fill ((#[(0, 1), (1, 1)] : Array (Nat × Nat))[·]?) ⟨[.bool false, .int .i64 0]⟩ ps = some ⟨cs⟩) : wBuild P T_disk_state ps w K = K (.agg ⟨cs⟩) w :=
  build_s (places := #[(0, 1), (1, 1)]) (show P.underlying T_disk_state = some (.struct (P.fieldsOf T_disk_state)) by kernel_rfl) z_T_disk_state (fun _ => by kernel_rfl) hf
theorem bl_T_disk_Disk {ps : List (Nat × Value)} {cs : List Value} {w : World} {K : Value → World → Prop} (hf : Instr.fill ((#[(0, 2), (2, 1), (3, 1), (4, 1)] : Array (Nat × Nat))[·]?) ⟨[.bool false, .int .i64 0, .slice none 0 0, .slice none 0 0, .int .i64 0]⟩ ps = some ⟨cs⟩) : wBuild P T_disk_Disk ps w K = K (.agg ⟨cs⟩) w :=
  build_s (places := #[(0, 2), (2, 1), (3, 1), (4, 1)]) (show P.underlying T_disk_Disk = some (.struct (P.fieldsOf T_disk_Disk)) by kernel_rfl) z_T_disk_Disk (fun _ => by kernel_rfl) hf
theorem bl_T_disk_write {ps : List (Nat × Value)} {cs : List Value} {w : World} {K : Value → World → Prop} (hf : Instr.fill ((#[(0, 1), (1, 128)] : Array (Nat × Nat))[·]?) ⟨[.int .i64 0] ++ List.replicate 128 (.int .u8 0)⟩ ps = some ⟨cs⟩) : wBuild P T_disk_write ps w K = K (.agg ⟨cs⟩) w :=
  build_s (places := #[(0, 1), (1, 128)]) (show P.underlying T_disk_write = some (.struct (P.fieldsOf T_disk_write)) by kernel_rfl) z_T_disk_write (fun _ => by kernel_rfl) hf
theorem bl_T_imap_Map {ps : List (Nat × Value)} {cs : List Value} {w : World} {K : Value → World → Prop} (hf : Instr.fill ((#[(0, 1)] : Array (Nat × Nat))[·]?) ⟨[.slice none 0 0]⟩ ps = some ⟨cs⟩) : wBuild P T_imap_Map ps w K = K (.agg ⟨cs⟩) w :=
  build_s (places := #[(0, 1)]) (show P.underlying T_imap_Map = some (.struct (P.fieldsOf T_imap_Map)) by kernel_rfl) z_T_imap_Map (fun _ => by kernel_rfl) hf
theorem bl_T_usage_Table {ps : List (Nat × Value)} {cs : List Value} {w : World} {K : Value → World → Prop} (hf : Instr.fill ((#[(0, 1), (1, 1)] : Array (Nat × Nat))[·]?) ⟨[.int .i64 0, .slice none 0 0]⟩ ps = some ⟨cs⟩) : wBuild P T_usage_Table ps w K = K (.agg ⟨cs⟩) w :=
  build_s (places := #[(0, 1), (1, 1)]) (show P.underlying T_usage_Table = some (.struct (P.fieldsOf T_usage_Table)) by kernel_rfl) z_T_usage_Table (fun _ => by kernel_rfl) hf
theorem bl_T_ref05_Field {ps : List (Nat × Value)} {cs : List Value} {w : World} {K : Value → World → Prop} (hf : Instr.fill ((#[(0, 1), (1, 1)] : Array (Nat × Nat))[·]?) ⟨[.int .i64 0, .int .i64 0]⟩ ps = some ⟨cs⟩) : wBuild P T_ref05_Field ps w K = K (.agg ⟨cs⟩) w :=
  build_s (places := #[(0, 1), (1, 1)]) (show P.underlying T_ref05_Field = some (.struct (P.fieldsOf T_ref05_Field)) by kernel_rfl) z_T_ref05_Field (fun _ => by kernel_rfl) hf
theorem bl_T_slog_Item {ps : List (Nat × Value)} {cs : List Value} {w : World} {K : Value → World → Prop} (hf : Instr.fill ((#[(0, 4), (4, 128)] : Array (Nat × Nat))[·]?) ⟨[.int .i64 0, .int .u32 0, .int .u32 0, .int .i64 0] ++ List.replicate 128 (.int .u8 0)⟩ ps = some ⟨cs⟩) : wBuild P T_slog_Item ps w K = K (.agg ⟨cs⟩) w :=
  build_s (places := #[(0, 4), (4, 128)]) (show P.underlying T_slog_Item = some (.struct (P.fieldsOf T_slog_Item)) by kernel_rfl) z_T_slog_Item (fun _ => by kernel_rfl) hf
theorem bl_T_slog_writer {ps : List (Nat × Value)} {cs : List Value} {w : World} {K : Value → World → Prop} (hf : Instr.fill ((#[(0, 1), (1, 1)] : Array (Nat × Nat))[·]?) ⟨[.pointer none, .int .i64 0]⟩ ps = some ⟨cs⟩) : wBuild P T_slog_writer ps w K = K (.agg ⟨cs⟩) w :=
  build_s (places := #[(0, 1), (1, 1)]) (show P.underlying T_slog_writer = some (.struct (P.fieldsOf T_slog_writer)) by kernel_rfl) z_T_slog_writer (fun _ => by kernel_rfl) hf
theorem bl_T_slog_group {ps : List (Nat × Value)} {cs : List Value} {w : World} {K : Value → World → Prop} (hf : Instr.fill ((#[(0, 1), (1, 128), (129, 1), (130, 1)] : Array (Nat × Nat))[·]?) ⟨[.int .i64 0] ++ List.replicate 128 (.int .u8 0) ++ [.slice none 0 0, .slice none 0 0]⟩ ps = some ⟨cs⟩) : wBuild P T_slog_group ps w K = K (.agg ⟨cs⟩) w :=
  build_s (places := #[(0, 1), (1, 128), (129, 1), (130, 1)]) (show P.underlying T_slog_group = some (.struct (P.fieldsOf T_slog_group)) by kernel_rfl) z_T_slog_group (fun _ => by kernel_rfl) hf
theorem bl_T_codec_writer {ps : List (Nat × Value)} {cs : List Value} {w : World} {K : Value → World → Prop} (hf : Instr.fill ((#[(0, 1), (1, 1)] : Array (Nat × Nat))[·]?) ⟨[.slice none 0 0, .bool false]⟩ ps = some ⟨cs⟩) : wBuild P T_codec_writer ps w K = K (.agg ⟨cs⟩) w :=
  build_s (places := #[(0, 1), (1, 1)]) (show P.underlying T_codec_writer = some (.struct (P.fieldsOf T_codec_writer)) by kernel_rfl) z_T_codec_writer (fun _ => by kernel_rfl) hf
theorem bl_T_codec_reader {ps : List (Nat × Value)} {cs : List Value} {w : World} {K : Value → World → Prop} (hf : Instr.fill ((#[(0, 1), (1, 1), (2, 1)] : Array (Nat × Nat))[·]?) ⟨[.slice none 0 0, .int .i64 0, .bool false]⟩ ps = some ⟨cs⟩) : wBuild P T_codec_reader ps w K = K (.agg ⟨cs⟩) w :=
  build_s (places := #[(0, 1), (1, 1), (2, 1)]) (show P.underlying T_codec_reader = some (.struct (P.fieldsOf T_codec_reader)) by kernel_rfl) z_T_codec_reader (fun _ => by kernel_rfl) hf
theorem bl_T_num_Reader {ps : List (Nat × Value)} {cs : List Value} {w : World} {K : Value → World → Prop} (hf : Instr.fill ((#[(0, 128), (128, 1), (129, 1)] : Array (Nat × Nat))[·]?) ⟨List.replicate 128 (.int .u8 0) ++ [.int .i64 0, .int .i64 0]⟩ ps = some ⟨cs⟩) : wBuild P T_num_Reader ps w K = K (.agg ⟨cs⟩) w :=
  build_s (places := #[(0, 128), (128, 1), (129, 1)]) (show P.underlying T_num_Reader = some (.struct (P.fieldsOf T_num_Reader)) by kernel_rfl) z_T_num_Reader (fun _ => by kernel_rfl) hf
theorem bl_T_ref04_Part {ps : List (Nat × Value)} {cs : List Value} {w : World} {K : Value → World → Prop} (hf : Instr.fill ((#[(0, 1), (1, 1), (2, 1), (3, 1), (4, 1), (5, 1)] : Array (Nat × Nat))[·]?) ⟨[.int .i64 0, .int .i64 0, .int .i64 0, .int .i64 0, .int .i64 0, .int .i64 0]⟩ ps = some ⟨cs⟩) : wBuild P T_ref04_Part ps w K = K (.agg ⟨cs⟩) w :=
  build_s (places := #[(0, 1), (1, 1), (2, 1), (3, 1), (4, 1), (5, 1)]) (show P.underlying T_ref04_Part = some (.struct (P.fieldsOf T_ref04_Part)) by kernel_rfl) z_T_ref04_Part (fun _ => by kernel_rfl) hf
end Go.Dn
