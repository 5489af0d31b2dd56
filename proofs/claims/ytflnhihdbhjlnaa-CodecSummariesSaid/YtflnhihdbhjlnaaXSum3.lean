import Derived.Test.YtflnhihdbhjlnaaXSum1
import Derived.Test.YtflnhihdbhjlnaaXSum2
section
/-! Facts on types, printed by mkg.py. -/
set_option maxRecDepth 100000
set_option linter.unusedVariables false
namespace Go.Dn
open Go Go.Proofs
theorem o_T___ : oneT P T___ = true := by kernel_rfl
theorem o_T_int64 : oneT P T_int64 = true := by kernel_rfl
theorem z_T_int64 : zeroT P T_int64 = some (.int .i64 0) := by kernel_rfl
theorem i_T_int64 : P.underlying T_int64 = some (.int .i64) := by kernel_rfl
theorem o_T_int : oneT P T_int = true := by kernel_rfl
theorem z_T_int : zeroT P T_int = some (.int .i64 0) := by kernel_rfl
theorem i_T_int : P.underlying T_int = some (.int .i64) := by kernel_rfl
theorem o_T_bool : oneT P T_bool = true := by kernel_rfl
theorem z_T_bool : zeroT P T_bool = some (.bool false) := by kernel_rfl
theorem b_T_bool : P.underlying T_bool = some .bool := by kernel_rfl
theorem o_T_uint8 : oneT P T_uint8 = true := by kernel_rfl
theorem z_T_uint8 : zeroT P T_uint8 = some (.int .u8 0) := by kernel_rfl
theorem i_T_uint8 : P.underlying T_uint8 = some (.int .u8) := by kernel_rfl
theorem o_T_string : oneT P T_string = true := by kernel_rfl
theorem z_T_string : zeroT P T_string = some (.string ByteArray.empty) := by kernel_rfl
theorem o_T_Llaw03_Act : oneT P T_Llaw03_Act = true := by kernel_rfl
theorem z_T_Llaw03_Act : zeroT P T_Llaw03_Act = some (.slice none 0 0) := by kernel_rfl
theorem u_T_Llaw03_Act : P.underlying T_Llaw03_Act = some (.slice T_law03_Act) := by kernel_rfl
theorem s_T_Llaw03_Act : slT P T_Llaw03_Act = some 4 := by kernel_rfl
theorem app_T_Llaw03_Act {w : World} {K : Value → World → Prop} {base : Nat} {v x : Value} {xs ys : List Value} {n m : Nat} (ho : Own w base T_law03_Act 4 v xs) (hy : SlG w 4 x ys) (hn : xs.length = n * 4) (hm : ys.length = m * 4) (hc : ∀ u ∈ ys, isC u = true)
    (hb : (n + m) * 64 ≤ 140737488355328) (hba : base ≤ w.heap.size) (hk : ∀ v' w', Own w' base T_law03_Act 4 v' (xs ++ ys) → Ex v.ownBlock.toList w w' → (v'.ownBlock = v.ownBlock ∨ v'.ownBlock = some w.heap.size) → K v' w') : wBuiltin P .append #[T_Llaw03_Act, T_Llaw03_Act] [v, x] w K := by
  have h : (P.info? T_law03_Act).map (fun i => (i.zero, i.size, i.bytes)) = some (some (.agg ⟨[.int .i64 0, .int .i64 0, .slice none 0 0, .slice none 0 0]⟩), 4, 64) := by kernel_rfl
  cases hi : P.info? T_law03_Act with
  | none => rw [hi] at h; cases h
  | some i =>
    rw [hi] at h
    simp only [Option.map_some, Option.some.injEq, Prod.mk.injEq] at h
    exact app_i u_T_Llaw03_Act hi h.1 h.2.1 h.2.2 (by kernel_rfl) (by omega) ho hy hn hm hc hb (by omega) hba hk
theorem o_T_pdisk_Disk : oneT P T_pdisk_Disk = true := by kernel_rfl
theorem z_T_pdisk_Disk : zeroT P T_pdisk_Disk = some (.pointer none) := by kernel_rfl
theorem o_T_LA128uint8 : oneT P T_LA128uint8 = true := by kernel_rfl
theorem z_T_LA128uint8 : zeroT P T_LA128uint8 = some (.slice none 0 0) := by kernel_rfl
theorem u_T_LA128uint8 : P.underlying T_LA128uint8 = some (.slice T_A128uint8) := by kernel_rfl
theorem s_T_LA128uint8 : slT P T_LA128uint8 = some 128 := by kernel_rfl
theorem app_T_LA128uint8 {w : World} {K : Value → World → Prop} {base : Nat} {v x : Value} {xs ys : List Value} {n m : Nat} (ho : Own w base T_A128uint8 128 v xs) (hy : SlG w 128 x ys) (hn : xs.length = n * 128) (hm : ys.length = m * 128) (hc : ∀ u ∈ ys, isC u = true)
    (hb : (n + m) * 128 ≤ 140737488355328) (hba : base ≤ w.heap.size) (hk : ∀ v' w', Own w' base T_A128uint8 128 v' (xs ++ ys) → Ex v.ownBlock.toList w w' → (v'.ownBlock = v.ownBlock ∨ v'.ownBlock = some w.heap.size) → K v' w') : wBuiltin P .append #[T_LA128uint8, T_LA128uint8] [v, x] w K := by
  have h : (P.info? T_A128uint8).map (fun i => (i.zero, i.size, i.bytes)) = some (some (.agg ⟨List.replicate 128 (.int .u8 0)⟩), 128, 128) := by kernel_rfl
  cases hi : P.info? T_A128uint8 with
  | none => rw [hi] at h; cases h
  | some i =>
    rw [hi] at h
    simp only [Option.map_some, Option.some.injEq, Prod.mk.injEq] at h
    exact app_i u_T_LA128uint8 hi h.1 h.2.1 h.2.2 (by kernel_rfl) (by omega) ho hy hn hm hc hb (by omega) hba hk
theorem o_T_Lref03_Write : oneT P T_Lref03_Write = true := by kernel_rfl
theorem z_T_Lref03_Write : zeroT P T_Lref03_Write = some (.slice none 0 0) := by kernel_rfl
theorem u_T_Lref03_Write : P.underlying T_Lref03_Write = some (.slice T_ref03_Write) := by kernel_rfl
theorem s_T_Lref03_Write : slT P T_Lref03_Write = some 129 := by kernel_rfl
theorem app_T_Lref03_Write {w : World} {K : Value → World → Prop} {base : Nat} {v x : Value} {xs ys : List Value} {n m : Nat} (ho : Own w base T_ref03_Write 129 v xs) (hy : SlG w 129 x ys) (hn : xs.length = n * 129) (hm : ys.length = m * 129) (hc : ∀ u ∈ ys, isC u = true)
    (hb : (n + m) * 136 ≤ 140737488355328) (hba : base ≤ w.heap.size) (hk : ∀ v' w', Own w' base T_ref03_Write 129 v' (xs ++ ys) → Ex v.ownBlock.toList w w' → (v'.ownBlock = v.ownBlock ∨ v'.ownBlock = some w.heap.size) → K v' w') : wBuiltin P .append #[T_Lref03_Write, T_Lref03_Write] [v, x] w K := by
  have h : (P.info? T_ref03_Write).map (fun i => (i.zero, i.size, i.bytes)) = some (some (.agg ⟨[.int .i64 0] ++ List.replicate 128 (.int .u8 0)⟩), 129, 136) := by kernel_rfl
  cases hi : P.info? T_ref03_Write with
  | none => rw [hi] at h; cases h
  | some i =>
    rw [hi] at h
    simp only [Option.map_some, Option.some.injEq, Prod.mk.injEq] at h
    exact app_i u_T_Lref03_Write hi h.1 h.2.1 h.2.2 (by kernel_rfl) (by omega) ho hy hn hm hc hb (by omega) hba hk
theorem e_T_ref03_Disk : P.eqGuardType P.depth T_ref03_Disk = false := by kernel_rfl
theorem g_T_ref03_Disk : aggT P T_ref03_Disk 5 = true := by kernel_rfl
theorem z_T_ref03_Disk : zeroT P T_ref03_Disk = some (.agg ⟨[.slice none 0 0, .slice none 0 0, .bool false, .int .i64 0, .int .i64 0]⟩) := by kernel_rfl
theorem o_T_Luint8 : oneT P T_Luint8 = true := by kernel_rfl
theorem z_T_Luint8 : zeroT P T_Luint8 = some (.slice none 0 0) := by kernel_rfl
theorem u_T_Luint8 : P.underlying T_Luint8 = some (.slice T_uint8) := by kernel_rfl
theorem s_T_Luint8 : slT P T_Luint8 = some 1 := by kernel_rfl
theorem app_T_Luint8 {w : World} {K : Value → World → Prop} {base : Nat} {v x : Value} {xs ys : List Value} {n m : Nat} (ho : Own w base T_uint8 1 v xs) (hy : SlG w 1 x ys) (hn : xs.length = n * 1) (hm : ys.length = m * 1) (hc : ∀ u ∈ ys, isC u = true)
    (hb : (n + m) * 1 ≤ 140737488355328) (hba : base ≤ w.heap.size) (hk : ∀ v' w', Own w' base T_uint8 1 v' (xs ++ ys) → Ex v.ownBlock.toList w w' → (v'.ownBlock = v.ownBlock ∨ v'.ownBlock = some w.heap.size) → K v' w') : wBuiltin P .append #[T_Luint8, T_Luint8] [v, x] w K := by
  have h : (P.info? T_uint8).map (fun i => (i.zero, i.size, i.bytes)) = some (some (.int .u8 0), 1, 1) := by kernel_rfl
  cases hi : P.info? T_uint8 with
  | none => rw [hi] at h; cases h
  | some i =>
    rw [hi] at h
    simp only [Option.map_some, Option.some.injEq, Prod.mk.injEq] at h
    exact app_i u_T_Luint8 hi h.1 h.2.1 h.2.2 (by kernel_rfl) (by omega) ho hy hn hm hc hb (by omega) hba hk
theorem o_T_Lbool : oneT P T_Lbool = true := by kernel_rfl
theorem z_T_Lbool : zeroT P T_Lbool = some (.slice none 0 0) := by kernel_rfl
theorem u_T_Lbool : P.underlying T_Lbool = some (.slice T_bool) := by kernel_rfl
theorem s_T_Lbool : slT P T_Lbool = some 1 := by kernel_rfl
theorem app_T_Lbool {w : World} {K : Value → World → Prop} {base : Nat} {v x : Value} {xs ys : List Value} {n m : Nat} (ho : Own w base T_bool 1 v xs) (hy : SlG w 1 x ys) (hn : xs.length = n * 1) (hm : ys.length = m * 1) (hc : ∀ u ∈ ys, isC u = true)
    (hb : (n + m) * 1 ≤ 140737488355328) (hba : base ≤ w.heap.size) (hk : ∀ v' w', Own w' base T_bool 1 v' (xs ++ ys) → Ex v.ownBlock.toList w w' → (v'.ownBlock = v.ownBlock ∨ v'.ownBlock = some w.heap.size) → K v' w') : wBuiltin P .append #[T_Lbool, T_Lbool] [v, x] w K := by
  have h : (P.info? T_bool).map (fun i => (i.zero, i.size, i.bytes)) = some (some (.bool false), 1, 1) := by kernel_rfl
  cases hi : P.info? T_bool with
  | none => rw [hi] at h; cases h
  | some i =>
    rw [hi] at h
    simp only [Option.map_some, Option.some.injEq, Prod.mk.injEq] at h
    exact app_i u_T_Lbool hi h.1 h.2.1 h.2.2 (by kernel_rfl) (by omega) ho hy hn hm hc hb (by omega) hba hk
theorem e_T_law03_Act : P.eqGuardType P.depth T_law03_Act = false := by kernel_rfl
theorem g_T_law03_Act : aggT P T_law03_Act 4 = true := by kernel_rfl
theorem z_T_law03_Act : zeroT P T_law03_Act = some (.agg ⟨[.int .i64 0, .int .i64 0, .slice none 0 0, .slice none 0 0]⟩) := by kernel_rfl
theorem e_T_A128uint8 : P.eqGuardType P.depth T_A128uint8 = false := by kernel_rfl
theorem g_T_A128uint8 : aggT P T_A128uint8 128 = true := by kernel_rfl
theorem z_T_A128uint8 : zeroT P T_A128uint8 = some (.agg ⟨List.replicate 128 (.int .u8 0)⟩) := by kernel_rfl
theorem v_T_A128uint8 : P.underlying T_A128uint8 = some (.array 128 T_uint8) := by kernel_rfl
theorem a_T_A128uint8 : arT P T_A128uint8 = some (128, 1) := by kernel_rfl
theorem e_T_ref03_Write : P.eqGuardType P.depth T_ref03_Write = false := by kernel_rfl
theorem g_T_ref03_Write : aggT P T_ref03_Write 129 = true := by kernel_rfl
theorem z_T_ref03_Write : zeroT P T_ref03_Write = some (.agg ⟨[.int .i64 0] ++ List.replicate 128 (.int .u8 0)⟩) := by kernel_rfl
theorem o_T_Lref05_Use : oneT P T_Lref05_Use = true := by kernel_rfl
theorem z_T_Lref05_Use : zeroT P T_Lref05_Use = some (.slice none 0 0) := by kernel_rfl
theorem u_T_Lref05_Use : P.underlying T_Lref05_Use = some (.slice T_ref05_Use) := by kernel_rfl
theorem s_T_Lref05_Use : slT P T_Lref05_Use = some 3 := by kernel_rfl
theorem app_T_Lref05_Use {w : World} {K : Value → World → Prop} {base : Nat} {v x : Value} {xs ys : List Value} {n m : Nat} (ho : Own w base T_ref05_Use 3 v xs) (hy : SlG w 3 x ys) (hn : xs.length = n * 3) (hm : ys.length = m * 3) (hc : ∀ u ∈ ys, isC u = true)
    (hb : (n + m) * 24 ≤ 140737488355328) (hba : base ≤ w.heap.size) (hk : ∀ v' w', Own w' base T_ref05_Use 3 v' (xs ++ ys) → Ex v.ownBlock.toList w w' → (v'.ownBlock = v.ownBlock ∨ v'.ownBlock = some w.heap.size) → K v' w') : wBuiltin P .append #[T_Lref05_Use, T_Lref05_Use] [v, x] w K := by
  have h : (P.info? T_ref05_Use).map (fun i => (i.zero, i.size, i.bytes)) = some (some (.agg ⟨[.int .i64 0, .int .i64 0, .int .u32 0]⟩), 3, 24) := by kernel_rfl
  cases hi : P.info? T_ref05_Use with
  | none => rw [hi] at h; cases h
  | some i =>
    rw [hi] at h
    simp only [Option.map_some, Option.some.injEq, Prod.mk.injEq] at h
    exact app_i u_T_Lref05_Use hi h.1 h.2.1 h.2.2 (by kernel_rfl) (by omega) ho hy hn hm hc hb (by omega) hba hk
theorem o_T_Lcodec_Use : oneT P T_Lcodec_Use = true := by kernel_rfl
theorem z_T_Lcodec_Use : zeroT P T_Lcodec_Use = some (.slice none 0 0) := by kernel_rfl
theorem u_T_Lcodec_Use : P.underlying T_Lcodec_Use = some (.slice T_codec_Use) := by kernel_rfl
theorem s_T_Lcodec_Use : slT P T_Lcodec_Use = some 3 := by kernel_rfl
theorem app_T_Lcodec_Use {w : World} {K : Value → World → Prop} {base : Nat} {v x : Value} {xs ys : List Value} {n m : Nat} (ho : Own w base T_codec_Use 3 v xs) (hy : SlG w 3 x ys) (hn : xs.length = n * 3) (hm : ys.length = m * 3) (hc : ∀ u ∈ ys, isC u = true)
    (hb : (n + m) * 24 ≤ 140737488355328) (hba : base ≤ w.heap.size) (hk : ∀ v' w', Own w' base T_codec_Use 3 v' (xs ++ ys) → Ex v.ownBlock.toList w w' → (v'.ownBlock = v.ownBlock ∨ v'.ownBlock = some w.heap.size) → K v' w') : wBuiltin P .append #[T_Lcodec_Use, T_Lcodec_Use] [v, x] w K := by
  have h : (P.info? T_codec_Use).map (fun i => (i.zero, i.size, i.bytes)) = some (some (.agg ⟨[.int .i64 0, .int .i64 0, .int .u32 0]⟩), 3, 24) := by kernel_rfl
  cases hi : P.info? T_codec_Use with
  | none => rw [hi] at h; cases h
  | some i =>
    rw [hi] at h
    simp only [Option.map_some, Option.some.injEq, Prod.mk.injEq] at h
    exact app_i u_T_Lcodec_Use hi h.1 h.2.1 h.2.2 (by kernel_rfl) (by omega) ho hy hn hm hc hb (by omega) hba hk
theorem o_T_uint32 : oneT P T_uint32 = true := by kernel_rfl
theorem z_T_uint32 : zeroT P T_uint32 = some (.int .u32 0) := by kernel_rfl
theorem i_T_uint32 : P.underlying T_uint32 = some (.int .u32) := by kernel_rfl
theorem e_T_ref05_Use : P.eqGuardType P.depth T_ref05_Use = false := by kernel_rfl
theorem g_T_ref05_Use : aggT P T_ref05_Use 3 = true := by kernel_rfl
theorem z_T_ref05_Use : zeroT P T_ref05_Use = some (.agg ⟨[.int .i64 0, .int .i64 0, .int .u32 0]⟩) := by kernel_rfl
theorem e_T_codec_Use : P.eqGuardType P.depth T_codec_Use = false := by kernel_rfl
theorem g_T_codec_Use : aggT P T_codec_Use 3 = true := by kernel_rfl
theorem z_T_codec_Use : zeroT P T_codec_Use = some (.agg ⟨[.int .i64 0, .int .i64 0, .int .u32 0]⟩) := by kernel_rfl
theorem o_T_Lfloat64 : oneT P T_Lfloat64 = true := by kernel_rfl
theorem z_T_Lfloat64 : zeroT P T_Lfloat64 = some (.slice none 0 0) := by kernel_rfl
theorem u_T_Lfloat64 : P.underlying T_Lfloat64 = some (.slice T_float64) := by kernel_rfl
theorem s_T_Lfloat64 : slT P T_Lfloat64 = some 1 := by kernel_rfl
theorem app_T_Lfloat64 {w : World} {K : Value → World → Prop} {base : Nat} {v x : Value} {xs ys : List Value} {n m : Nat} (ho : Own w base T_float64 1 v xs) (hy : SlG w 1 x ys) (hn : xs.length = n * 1) (hm : ys.length = m * 1) (hc : ∀ u ∈ ys, isC u = true)
    (hb : (n + m) * 8 ≤ 140737488355328) (hba : base ≤ w.heap.size) (hk : ∀ v' w', Own w' base T_float64 1 v' (xs ++ ys) → Ex v.ownBlock.toList w w' → (v'.ownBlock = v.ownBlock ∨ v'.ownBlock = some w.heap.size) → K v' w') : wBuiltin P .append #[T_Lfloat64, T_Lfloat64] [v, x] w K := by
  have h : (P.info? T_float64).map (fun i => (i.zero, i.size, i.bytes)) = some (some (.float .f64 0), 1, 8) := by kernel_rfl
  cases hi : P.info? T_float64 with
  | none => rw [hi] at h; cases h
  | some i =>
    rw [hi] at h
    simp only [Option.map_some, Option.some.injEq, Prod.mk.injEq] at h
    exact app_i u_T_Lfloat64 hi h.1 h.2.1 h.2.2 (by kernel_rfl) (by omega) ho hy hn hm hc hb (by omega) hba hk
theorem o_T_float64 : oneT P T_float64 = true := by kernel_rfl
theorem z_T_float64 : zeroT P T_float64 = some (.float .f64 0) := by kernel_rfl
theorem o_T_Llaw10_Act : oneT P T_Llaw10_Act = true := by kernel_rfl
theorem z_T_Llaw10_Act : zeroT P T_Llaw10_Act = some (.slice none 0 0) := by kernel_rfl
theorem u_T_Llaw10_Act : P.underlying T_Llaw10_Act = some (.slice T_law10_Act) := by kernel_rfl
theorem s_T_Llaw10_Act : slT P T_Llaw10_Act = some 7 := by kernel_rfl
theorem app_T_Llaw10_Act {w : World} {K : Value → World → Prop} {base : Nat} {v x : Value} {xs ys : List Value} {n m : Nat} (ho : Own w base T_law10_Act 7 v xs) (hy : SlG w 7 x ys) (hn : xs.length = n * 7) (hm : ys.length = m * 7) (hc : ∀ u ∈ ys, isC u = true)
    (hb : (n + m) * 56 ≤ 140737488355328) (hba : base ≤ w.heap.size) (hk : ∀ v' w', Own w' base T_law10_Act 7 v' (xs ++ ys) → Ex v.ownBlock.toList w w' → (v'.ownBlock = v.ownBlock ∨ v'.ownBlock = some w.heap.size) → K v' w') : wBuiltin P .append #[T_Llaw10_Act, T_Llaw10_Act] [v, x] w K := by
  have h : (P.info? T_law10_Act).map (fun i => (i.zero, i.size, i.bytes)) = some (some (.agg ⟨[.int .i64 0, .int .i64 0, .int .i64 0, .int .i64 0, .int .u32 0, .int .i64 0, .int .i64 0]⟩), 7, 56) := by kernel_rfl
  cases hi : P.info? T_law10_Act with
  | none => rw [hi] at h; cases h
  | some i =>
    rw [hi] at h
    simp only [Option.map_some, Option.some.injEq, Prod.mk.injEq] at h
    exact app_i u_T_Llaw10_Act hi h.1 h.2.1 h.2.2 (by kernel_rfl) (by omega) ho hy hn hm hc hb (by omega) hba hk
theorem o_T_Lint : oneT P T_Lint = true := by kernel_rfl
theorem z_T_Lint : zeroT P T_Lint = some (.slice none 0 0) := by kernel_rfl
theorem u_T_Lint : P.underlying T_Lint = some (.slice T_int) := by kernel_rfl
theorem s_T_Lint : slT P T_Lint = some 1 := by kernel_rfl
theorem app_T_Lint {w : World} {K : Value → World → Prop} {base : Nat} {v x : Value} {xs ys : List Value} {n m : Nat} (ho : Own w base T_int 1 v xs) (hy : SlG w 1 x ys) (hn : xs.length = n * 1) (hm : ys.length = m * 1) (hc : ∀ u ∈ ys, isC u = true)
    (hb : (n + m) * 8 ≤ 140737488355328) (hba : base ≤ w.heap.size) (hk : ∀ v' w', Own w' base T_int 1 v' (xs ++ ys) → Ex v.ownBlock.toList w w' → (v'.ownBlock = v.ownBlock ∨ v'.ownBlock = some w.heap.size) → K v' w') : wBuiltin P .append #[T_Lint, T_Lint] [v, x] w K := by
  have h : (P.info? T_int).map (fun i => (i.zero, i.size, i.bytes)) = some (some (.int .i64 0), 1, 8) := by kernel_rfl
  cases hi : P.info? T_int with
  | none => rw [hi] at h; cases h
  | some i =>
    rw [hi] at h
    simp only [Option.map_some, Option.some.injEq, Prod.mk.injEq] at h
    exact app_i u_T_Lint hi h.1 h.2.1 h.2.2 (by kernel_rfl) (by omega) ho hy hn hm hc hb (by omega) hba hk
theorem o_T_pimap_Map : oneT P T_pimap_Map = true := by kernel_rfl
theorem z_T_pimap_Map : zeroT P T_pimap_Map = some (.pointer none) := by kernel_rfl
theorem o_T_pusage_Table : oneT P T_pusage_Table = true := by kernel_rfl
theorem z_T_pusage_Table : zeroT P T_pusage_Table = some (.pointer none) := by kernel_rfl
theorem o_T_mapAintint : oneT P T_mapAintint = true := by kernel_rfl
theorem z_T_mapAintint : zeroT P T_mapAintint = some (.map none) := by kernel_rfl
theorem e_T_ref05_Slot : P.eqGuardType P.depth T_ref05_Slot = false := by kernel_rfl
theorem g_T_ref05_Slot : aggT P T_ref05_Slot 4 = true := by kernel_rfl
theorem z_T_ref05_Slot : zeroT P T_ref05_Slot = some (.agg ⟨[.int .i64 0, .int .u32 0, .int .i64 0, .int .i64 0]⟩) := by kernel_rfl
theorem e_T_law10_Act : P.eqGuardType P.depth T_law10_Act = false := by kernel_rfl
theorem g_T_law10_Act : aggT P T_law10_Act 7 = true := by kernel_rfl
theorem z_T_law10_Act : zeroT P T_law10_Act = some (.agg ⟨[.int .i64 0, .int .i64 0, .int .i64 0, .int .i64 0, .int .u32 0, .int .i64 0, .int .i64 0]⟩) := by kernel_rfl
theorem o_T_api_Errno : oneT P T_api_Errno = true := by kernel_rfl
theorem z_T_api_Errno : zeroT P T_api_Errno = some (.int .i64 0) := by kernel_rfl
theorem i_T_api_Errno : P.underlying T_api_Errno = some (.int .i64) := by kernel_rfl
theorem e_T_codec_Slot : P.eqGuardType P.depth T_codec_Slot = false := by kernel_rfl
theorem g_T_codec_Slot : aggT P T_codec_Slot 4 = true := by kernel_rfl
theorem z_T_codec_Slot : zeroT P T_codec_Slot = some (.agg ⟨[.int .i64 0, .int .u32 0, .int .i64 0, .int .i64 0]⟩) := by kernel_rfl
theorem o_T_Lapi_Sector : oneT P T_Lapi_Sector = true := by kernel_rfl
theorem z_T_Lapi_Sector : zeroT P T_Lapi_Sector = some (.slice none 0 0) := by kernel_rfl
theorem u_T_Lapi_Sector : P.underlying T_Lapi_Sector = some (.slice T_api_Sector) := by kernel_rfl
theorem s_T_Lapi_Sector : slT P T_Lapi_Sector = some 128 := by kernel_rfl
theorem app_T_Lapi_Sector {w : World} {K : Value → World → Prop} {base : Nat} {v x : Value} {xs ys : List Value} {n m : Nat} (ho : Own w base T_api_Sector 128 v xs) (hy : SlG w 128 x ys) (hn : xs.length = n * 128) (hm : ys.length = m * 128) (hc : ∀ u ∈ ys, isC u = true)
    (hb : (n + m) * 128 ≤ 140737488355328) (hba : base ≤ w.heap.size) (hk : ∀ v' w', Own w' base T_api_Sector 128 v' (xs ++ ys) → Ex v.ownBlock.toList w w' → (v'.ownBlock = v.ownBlock ∨ v'.ownBlock = some w.heap.size) → K v' w') : wBuiltin P .append #[T_Lapi_Sector, T_Lapi_Sector] [v, x] w K := by
  have h : (P.info? T_api_Sector).map (fun i => (i.zero, i.size, i.bytes)) = some (some (.agg ⟨List.replicate 128 (.int .u8 0)⟩), 128, 128) := by kernel_rfl
  cases hi : P.info? T_api_Sector with
  | none => rw [hi] at h; cases h
  | some i =>
    rw [hi] at h
    simp only [Option.map_some, Option.some.injEq, Prod.mk.injEq] at h
    exact app_i u_T_Lapi_Sector hi h.1 h.2.1 h.2.2 (by kernel_rfl) (by omega) ho hy hn hm hc hb (by omega) hba hk
theorem e_T_api_Sector : P.eqGuardType P.depth T_api_Sector = false := by kernel_rfl
theorem g_T_api_Sector : aggT P T_api_Sector 128 = true := by kernel_rfl
theorem z_T_api_Sector : zeroT P T_api_Sector = some (.agg ⟨List.replicate 128 (.int .u8 0)⟩) := by kernel_rfl
theorem v_T_api_Sector : P.underlying T_api_Sector = some (.array 128 T_uint8) := by kernel_rfl
theorem a_T_api_Sector : arT P T_api_Sector = some (128, 1) := by kernel_rfl
theorem e_T_A8int : P.eqGuardType P.depth T_A8int = false := by kernel_rfl
theorem g_T_A8int : aggT P T_A8int 8 = true := by kernel_rfl
theorem z_T_A8int : zeroT P T_A8int = some (.agg ⟨List.replicate 8 (.int .i64 0)⟩) := by kernel_rfl
theorem v_T_A8int : P.underlying T_A8int = some (.array 8 T_int) := by kernel_rfl
theorem a_T_A8int : arT P T_A8int = some (8, 1) := by kernel_rfl
theorem e_T_ref05_Inode : P.eqGuardType P.depth T_ref05_Inode = false := by kernel_rfl
theorem g_T_ref05_Inode : aggT P T_ref05_Inode 15 = true := by kernel_rfl
theorem z_T_ref05_Inode : zeroT P T_ref05_Inode = some (.agg ⟨[.int .u32 0, .int .u32 0, .int .i64 0, .int .i64 0, .int .u32 0] ++ List.replicate 10 (.int .i64 0)⟩) := by kernel_rfl
theorem e_T_codec_Inode : P.eqGuardType P.depth T_codec_Inode = false := by kernel_rfl
theorem g_T_codec_Inode : aggT P T_codec_Inode 15 = true := by kernel_rfl
theorem z_T_codec_Inode : zeroT P T_codec_Inode = some (.agg ⟨[.int .u32 0, .int .u32 0, .int .i64 0, .int .i64 0, .int .u32 0] ++ List.replicate 10 (.int .i64 0)⟩) := by kernel_rfl
theorem o_T_uint64 : oneT P T_uint64 = true := by kernel_rfl
theorem z_T_uint64 : zeroT P T_uint64 = some (.int .u64 0) := by kernel_rfl
theorem i_T_uint64 : P.underlying T_uint64 = some (.int .u64) := by kernel_rfl
theorem e_T_ref05_Header : P.eqGuardType P.depth T_ref05_Header = false := by kernel_rfl
theorem g_T_ref05_Header : aggT P T_ref05_Header 6 = true := by kernel_rfl
theorem z_T_ref05_Header : zeroT P T_ref05_Header = some (.agg ⟨[.int .u64 0, .int .u64 0, .int .i64 0, .int .i64 0, .int .i64 0, .int .u32 0]⟩) := by kernel_rfl
theorem e_T_codec_Header : P.eqGuardType P.depth T_codec_Header = false := by kernel_rfl
theorem g_T_codec_Header : aggT P T_codec_Header 6 = true := by kernel_rfl
theorem z_T_codec_Header : zeroT P T_codec_Header = some (.agg ⟨[.int .u64 0, .int .u64 0, .int .i64 0, .int .i64 0, .int .i64 0, .int .u32 0]⟩) := by kernel_rfl
theorem e_T_A32int : P.eqGuardType P.depth T_A32int = false := by kernel_rfl
theorem g_T_A32int : aggT P T_A32int 32 = true := by kernel_rfl
theorem z_T_A32int : zeroT P T_A32int = some (.agg ⟨List.replicate 32 (.int .i64 0)⟩) := by kernel_rfl
theorem v_T_A32int : P.underlying T_A32int = some (.array 32 T_int) := by kernel_rfl
theorem a_T_A32int : arT P T_A32int = some (32, 1) := by kernel_rfl
theorem o_T_Lref05_Slot : oneT P T_Lref05_Slot = true := by kernel_rfl
theorem z_T_Lref05_Slot : zeroT P T_Lref05_Slot = some (.slice none 0 0) := by kernel_rfl
theorem u_T_Lref05_Slot : P.underlying T_Lref05_Slot = some (.slice T_ref05_Slot) := by kernel_rfl
theorem s_T_Lref05_Slot : slT P T_Lref05_Slot = some 4 := by kernel_rfl
theorem app_T_Lref05_Slot {w : World} {K : Value → World → Prop} {base : Nat} {v x : Value} {xs ys : List Value} {n m : Nat} (ho : Own w base T_ref05_Slot 4 v xs) (hy : SlG w 4 x ys) (hn : xs.length = n * 4) (hm : ys.length = m * 4) (hc : ∀ u ∈ ys, isC u = true)
    (hb : (n + m) * 32 ≤ 140737488355328) (hba : base ≤ w.heap.size) (hk : ∀ v' w', Own w' base T_ref05_Slot 4 v' (xs ++ ys) → Ex v.ownBlock.toList w w' → (v'.ownBlock = v.ownBlock ∨ v'.ownBlock = some w.heap.size) → K v' w') : wBuiltin P .append #[T_Lref05_Slot, T_Lref05_Slot] [v, x] w K := by
  have h : (P.info? T_ref05_Slot).map (fun i => (i.zero, i.size, i.bytes)) = some (some (.agg ⟨[.int .i64 0, .int .u32 0, .int .i64 0, .int .i64 0]⟩), 4, 32) := by kernel_rfl
  cases hi : P.info? T_ref05_Slot with
  | none => rw [hi] at h; cases h
  | some i =>
    rw [hi] at h
    simp only [Option.map_some, Option.some.injEq, Prod.mk.injEq] at h
    exact app_i u_T_Lref05_Slot hi h.1 h.2.1 h.2.2 (by kernel_rfl) (by omega) ho hy hn hm hc hb (by omega) hba hk
theorem o_T_Lcodec_Slot : oneT P T_Lcodec_Slot = true := by kernel_rfl
theorem z_T_Lcodec_Slot : zeroT P T_Lcodec_Slot = some (.slice none 0 0) := by kernel_rfl
theorem u_T_Lcodec_Slot : P.underlying T_Lcodec_Slot = some (.slice T_codec_Slot) := by kernel_rfl
theorem s_T_Lcodec_Slot : slT P T_Lcodec_Slot = some 4 := by kernel_rfl
theorem app_T_Lcodec_Slot {w : World} {K : Value → World → Prop} {base : Nat} {v x : Value} {xs ys : List Value} {n m : Nat} (ho : Own w base T_codec_Slot 4 v xs) (hy : SlG w 4 x ys) (hn : xs.length = n * 4) (hm : ys.length = m * 4) (hc : ∀ u ∈ ys, isC u = true)
    (hb : (n + m) * 32 ≤ 140737488355328) (hba : base ≤ w.heap.size) (hk : ∀ v' w', Own w' base T_codec_Slot 4 v' (xs ++ ys) → Ex v.ownBlock.toList w w' → (v'.ownBlock = v.ownBlock ∨ v'.ownBlock = some w.heap.size) → K v' w') : wBuiltin P .append #[T_Lcodec_Slot, T_Lcodec_Slot] [v, x] w K := by
  have h : (P.info? T_codec_Slot).map (fun i => (i.zero, i.size, i.bytes)) = some (some (.agg ⟨[.int .i64 0, .int .u32 0, .int .i64 0, .int .i64 0]⟩), 4, 32) := by kernel_rfl
  cases hi : P.info? T_codec_Slot with
  | none => rw [hi] at h; cases h
  | some i =>
    rw [hi] at h
    simp only [Option.map_some, Option.some.injEq, Prod.mk.injEq] at h
    exact app_i u_T_Lcodec_Slot hi h.1 h.2.1 h.2.2 (by kernel_rfl) (by omega) ho hy hn hm hc hb (by omega) hba hk
theorem o_T_Lref05_Record : oneT P T_Lref05_Record = true := by kernel_rfl
theorem z_T_Lref05_Record : zeroT P T_Lref05_Record = some (.slice none 0 0) := by kernel_rfl
theorem u_T_Lref05_Record : P.underlying T_Lref05_Record = some (.slice T_ref05_Record) := by kernel_rfl
theorem s_T_Lref05_Record : slT P T_Lref05_Record = some 4 := by kernel_rfl
theorem app_T_Lref05_Record {w : World} {K : Value → World → Prop} {base : Nat} {v x : Value} {xs ys : List Value} {n m : Nat} (ho : Own w base T_ref05_Record 4 v xs) (hy : SlG w 4 x ys) (hn : xs.length = n * 4) (hm : ys.length = m * 4) (hc : ∀ u ∈ ys, isC u = true)
    (hb : (n + m) * 24 ≤ 140737488355328) (hba : base ≤ w.heap.size) (hk : ∀ v' w', Own w' base T_ref05_Record 4 v' (xs ++ ys) → Ex v.ownBlock.toList w w' → (v'.ownBlock = v.ownBlock ∨ v'.ownBlock = some w.heap.size) → K v' w') : wBuiltin P .append #[T_Lref05_Record, T_Lref05_Record] [v, x] w K := by
  have h : (P.info? T_ref05_Record).map (fun i => (i.zero, i.size, i.bytes)) = some (some (.agg ⟨[.int .u32 0, .int .u32 0, .int .i64 0, .int .i64 0]⟩), 4, 24) := by kernel_rfl
  cases hi : P.info? T_ref05_Record with
  | none => rw [hi] at h; cases h
  | some i =>
    rw [hi] at h
    simp only [Option.map_some, Option.some.injEq, Prod.mk.injEq] at h
    exact app_i u_T_Lref05_Record hi h.1 h.2.1 h.2.2 (by kernel_rfl) (by omega) ho hy hn hm hc hb (by omega) hba hk
theorem o_T_Lcodec_Record : oneT P T_Lcodec_Record = true := by kernel_rfl
theorem z_T_Lcodec_Record : zeroT P T_Lcodec_Record = some (.slice none 0 0) := by kernel_rfl
theorem u_T_Lcodec_Record : P.underlying T_Lcodec_Record = some (.slice T_codec_Record) := by kernel_rfl
theorem s_T_Lcodec_Record : slT P T_Lcodec_Record = some 4 := by kernel_rfl
theorem app_T_Lcodec_Record {w : World} {K : Value → World → Prop} {base : Nat} {v x : Value} {xs ys : List Value} {n m : Nat} (ho : Own w base T_codec_Record 4 v xs) (hy : SlG w 4 x ys) (hn : xs.length = n * 4) (hm : ys.length = m * 4) (hc : ∀ u ∈ ys, isC u = true)
    (hb : (n + m) * 24 ≤ 140737488355328) (hba : base ≤ w.heap.size) (hk : ∀ v' w', Own w' base T_codec_Record 4 v' (xs ++ ys) → Ex v.ownBlock.toList w w' → (v'.ownBlock = v.ownBlock ∨ v'.ownBlock = some w.heap.size) → K v' w') : wBuiltin P .append #[T_Lcodec_Record, T_Lcodec_Record] [v, x] w K := by
  have h : (P.info? T_codec_Record).map (fun i => (i.zero, i.size, i.bytes)) = some (some (.agg ⟨[.int .u32 0, .int .u32 0, .int .i64 0, .int .i64 0]⟩), 4, 24) := by kernel_rfl
  cases hi : P.info? T_codec_Record with
  | none => rw [hi] at h; cases h
  | some i =>
    rw [hi] at h
    simp only [Option.map_some, Option.some.injEq, Prod.mk.injEq] at h
    exact app_i u_T_Lcodec_Record hi h.1 h.2.1 h.2.2 (by kernel_rfl) (by omega) ho hy hn hm hc hb (by omega) hba hk
theorem e_T_ref05_Record : P.eqGuardType P.depth T_ref05_Record = false := by kernel_rfl
theorem g_T_ref05_Record : aggT P T_ref05_Record 4 = true := by kernel_rfl
theorem z_T_ref05_Record : zeroT P T_ref05_Record = some (.agg ⟨[.int .u32 0, .int .u32 0, .int .i64 0, .int .i64 0]⟩) := by kernel_rfl
theorem e_T_codec_Record : P.eqGuardType P.depth T_codec_Record = false := by kernel_rfl
theorem g_T_codec_Record : aggT P T_codec_Record 4 = true := by kernel_rfl
theorem z_T_codec_Record : zeroT P T_codec_Record = some (.agg ⟨[.int .u32 0, .int .u32 0, .int .i64 0, .int .i64 0]⟩) := by kernel_rfl
theorem o_T_Lref05_Entry : oneT P T_Lref05_Entry = true := by kernel_rfl
theorem z_T_Lref05_Entry : zeroT P T_Lref05_Entry = some (.slice none 0 0) := by kernel_rfl
theorem u_T_Lref05_Entry : P.underlying T_Lref05_Entry = some (.slice T_ref05_Entry) := by kernel_rfl
theorem s_T_Lref05_Entry : slT P T_Lref05_Entry = some 4 := by kernel_rfl
theorem app_T_Lref05_Entry {w : World} {K : Value → World → Prop} {base : Nat} {v x : Value} {xs ys : List Value} {n m : Nat} (ho : Own w base T_ref05_Entry 4 v xs) (hy : SlG w 4 x ys) (hn : xs.length = n * 4) (hm : ys.length = m * 4) (hc : ∀ u ∈ ys, isC u = true)
    (hb : (n + m) * 24 ≤ 140737488355328) (hba : base ≤ w.heap.size) (hk : ∀ v' w', Own w' base T_ref05_Entry 4 v' (xs ++ ys) → Ex v.ownBlock.toList w w' → (v'.ownBlock = v.ownBlock ∨ v'.ownBlock = some w.heap.size) → K v' w') : wBuiltin P .append #[T_Lref05_Entry, T_Lref05_Entry] [v, x] w K := by
  have h : (P.info? T_ref05_Entry).map (fun i => (i.zero, i.size, i.bytes)) = some (some (.agg ⟨[.int .i64 0, .int .u32 0, .int .u32 0, .int .i64 0]⟩), 4, 24) := by kernel_rfl
  cases hi : P.info? T_ref05_Entry with
  | none => rw [hi] at h; cases h
  | some i =>
    rw [hi] at h
    simp only [Option.map_some, Option.some.injEq, Prod.mk.injEq] at h
    exact app_i u_T_Lref05_Entry hi h.1 h.2.1 h.2.2 (by kernel_rfl) (by omega) ho hy hn hm hc hb (by omega) hba hk
theorem e_T_ref05_Summary : P.eqGuardType P.depth T_ref05_Summary = false := by kernel_rfl
theorem g_T_ref05_Summary : aggT P T_ref05_Summary 6 = true := by kernel_rfl
theorem z_T_ref05_Summary : zeroT P T_ref05_Summary = some (.agg ⟨[.int .u64 0, .int .u64 0, .bool false, .int .i64 0, .int .u32 0, .slice none 0 0]⟩) := by kernel_rfl
theorem o_T_Lcodec_Entry : oneT P T_Lcodec_Entry = true := by kernel_rfl
theorem z_T_Lcodec_Entry : zeroT P T_Lcodec_Entry = some (.slice none 0 0) := by kernel_rfl
theorem u_T_Lcodec_Entry : P.underlying T_Lcodec_Entry = some (.slice T_codec_Entry) := by kernel_rfl
theorem s_T_Lcodec_Entry : slT P T_Lcodec_Entry = some 4 := by kernel_rfl
theorem app_T_Lcodec_Entry {w : World} {K : Value → World → Prop} {base : Nat} {v x : Value} {xs ys : List Value} {n m : Nat} (ho : Own w base T_codec_Entry 4 v xs) (hy : SlG w 4 x ys) (hn : xs.length = n * 4) (hm : ys.length = m * 4) (hc : ∀ u ∈ ys, isC u = true)
    (hb : (n + m) * 24 ≤ 140737488355328) (hba : base ≤ w.heap.size) (hk : ∀ v' w', Own w' base T_codec_Entry 4 v' (xs ++ ys) → Ex v.ownBlock.toList w w' → (v'.ownBlock = v.ownBlock ∨ v'.ownBlock = some w.heap.size) → K v' w') : wBuiltin P .append #[T_Lcodec_Entry, T_Lcodec_Entry] [v, x] w K := by
  have h : (P.info? T_codec_Entry).map (fun i => (i.zero, i.size, i.bytes)) = some (some (.agg ⟨[.int .i64 0, .int .u32 0, .int .u32 0, .int .i64 0]⟩), 4, 24) := by kernel_rfl
  cases hi : P.info? T_codec_Entry with
  | none => rw [hi] at h; cases h
  | some i =>
    rw [hi] at h
    simp only [Option.map_some, Option.some.injEq, Prod.mk.injEq] at h
    exact app_i u_T_Lcodec_Entry hi h.1 h.2.1 h.2.2 (by kernel_rfl) (by omega) ho hy hn hm hc hb (by omega) hba hk
theorem e_T_codec_Summary : P.eqGuardType P.depth T_codec_Summary = false := by kernel_rfl
theorem g_T_codec_Summary : aggT P T_codec_Summary 6 = true := by kernel_rfl
theorem z_T_codec_Summary : zeroT P T_codec_Summary = some (.agg ⟨[.int .u64 0, .int .u64 0, .bool false, .int .i64 0, .int .u32 0, .slice none 0 0]⟩) := by kernel_rfl
theorem e_T_ref09_Table : P.eqGuardType P.depth T_ref09_Table = false := by kernel_rfl
theorem g_T_ref09_Table : aggT P T_ref09_Table 2 = true := by kernel_rfl
theorem z_T_ref09_Table : zeroT P T_ref09_Table = some (.agg ⟨[.int .i64 0, .slice none 0 0]⟩) := by kernel_rfl
theorem o_T_Llaw09_Act : oneT P T_Llaw09_Act = true := by kernel_rfl
theorem z_T_Llaw09_Act : zeroT P T_Llaw09_Act = some (.slice none 0 0) := by kernel_rfl
theorem u_T_Llaw09_Act : P.underlying T_Llaw09_Act = some (.slice T_law09_Act) := by kernel_rfl
theorem s_T_Llaw09_Act : slT P T_Llaw09_Act = some 4 := by kernel_rfl
theorem app_T_Llaw09_Act {w : World} {K : Value → World → Prop} {base : Nat} {v x : Value} {xs ys : List Value} {n m : Nat} (ho : Own w base T_law09_Act 4 v xs) (hy : SlG w 4 x ys) (hn : xs.length = n * 4) (hm : ys.length = m * 4) (hc : ∀ u ∈ ys, isC u = true)
    (hb : (n + m) * 32 ≤ 140737488355328) (hba : base ≤ w.heap.size) (hk : ∀ v' w', Own w' base T_law09_Act 4 v' (xs ++ ys) → Ex v.ownBlock.toList w w' → (v'.ownBlock = v.ownBlock ∨ v'.ownBlock = some w.heap.size) → K v' w') : wBuiltin P .append #[T_Llaw09_Act, T_Llaw09_Act] [v, x] w K := by
  have h : (P.info? T_law09_Act).map (fun i => (i.zero, i.size, i.bytes)) = some (some (.agg ⟨[.int .i64 0, .int .i64 0, .int .i64 0, .int .u32 0]⟩), 4, 32) := by kernel_rfl
  cases hi : P.info? T_law09_Act with
  | none => rw [hi] at h; cases h
  | some i =>
    rw [hi] at h
    simp only [Option.map_some, Option.some.injEq, Prod.mk.injEq] at h
    exact app_i u_T_Llaw09_Act hi h.1 h.2.1 h.2.2 (by kernel_rfl) (by omega) ho hy hn hm hc hb (by omega) hba hk
theorem e_T_law09_Act : P.eqGuardType P.depth T_law09_Act = false := by kernel_rfl
theorem g_T_law09_Act : aggT P T_law09_Act 4 = true := by kernel_rfl
theorem z_T_law09_Act : zeroT P T_law09_Act = some (.agg ⟨[.int .i64 0, .int .i64 0, .int .i64 0, .int .u32 0]⟩) := by kernel_rfl
theorem o_T_Luint64 : oneT P T_Luint64 = true := by kernel_rfl
theorem z_T_Luint64 : zeroT P T_Luint64 = some (.slice none 0 0) := by kernel_rfl
theorem u_T_Luint64 : P.underlying T_Luint64 = some (.slice T_uint64) := by kernel_rfl
theorem s_T_Luint64 : slT P T_Luint64 = some 1 := by kernel_rfl
theorem app_T_Luint64 {w : World} {K : Value → World → Prop} {base : Nat} {v x : Value} {xs ys : List Value} {n m : Nat} (ho : Own w base T_uint64 1 v xs) (hy : SlG w 1 x ys) (hn : xs.length = n * 1) (hm : ys.length = m * 1) (hc : ∀ u ∈ ys, isC u = true)
    (hb : (n + m) * 8 ≤ 140737488355328) (hba : base ≤ w.heap.size) (hk : ∀ v' w', Own w' base T_uint64 1 v' (xs ++ ys) → Ex v.ownBlock.toList w w' → (v'.ownBlock = v.ownBlock ∨ v'.ownBlock = some w.heap.size) → K v' w') : wBuiltin P .append #[T_Luint64, T_Luint64] [v, x] w K := by
  have h : (P.info? T_uint64).map (fun i => (i.zero, i.size, i.bytes)) = some (some (.int .u64 0), 1, 8) := by kernel_rfl
  cases hi : P.info? T_uint64 with
  | none => rw [hi] at h; cases h
  | some i =>
    rw [hi] at h
    simp only [Option.map_some, Option.some.injEq, Prod.mk.injEq] at h
    exact app_i u_T_Luint64 hi h.1 h.2.1 h.2.2 (by kernel_rfl) (by omega) ho hy hn hm hc hb (by omega) hba hk
theorem e_T_ref04_Geom : P.eqGuardType P.depth T_ref04_Geom = false := by kernel_rfl
theorem g_T_ref04_Geom : aggT P T_ref04_Geom 3 = true := by kernel_rfl
theorem z_T_ref04_Geom : zeroT P T_ref04_Geom = some (.agg ⟨[.int .i64 0, .int .i64 0, .int .i64 0]⟩) := by kernel_rfl
theorem e_T_ref11_Place : P.eqGuardType P.depth T_ref11_Place = false := by kernel_rfl
theorem g_T_ref11_Place : aggT P T_ref11_Place 4 = true := by kernel_rfl
theorem z_T_ref11_Place : zeroT P T_ref11_Place = some (.agg ⟨[.int .i64 0, .int .i64 0, .int .i64 0, .int .u64 0]⟩) := by kernel_rfl
theorem e_T_slog_Place : P.eqGuardType P.depth T_slog_Place = false := by kernel_rfl
theorem g_T_slog_Place : aggT P T_slog_Place 4 = true := by kernel_rfl
theorem z_T_slog_Place : zeroT P T_slog_Place = some (.agg ⟨[.int .i64 0, .int .i64 0, .int .i64 0, .int .u64 0]⟩) := by kernel_rfl
theorem e_T_slog_Layout : P.eqGuardType P.depth T_slog_Layout = false := by kernel_rfl
theorem g_T_slog_Layout : aggT P T_slog_Layout 6 = true := by kernel_rfl
theorem z_T_slog_Layout : zeroT P T_slog_Layout = some (.agg ⟨[.slice none 0 0, .int .i64 0, .int .i64 0, .int .i64 0, .int .u64 0, .int .i64 0]⟩) := by kernel_rfl
theorem e_T_geom_Geom : P.eqGuardType P.depth T_geom_Geom = false := by kernel_rfl
theorem g_T_geom_Geom : aggT P T_geom_Geom 3 = true := by kernel_rfl
theorem z_T_geom_Geom : zeroT P T_geom_Geom = some (.agg ⟨[.int .i64 0, .int .i64 0, .int .i64 0]⟩) := by kernel_rfl
theorem o_T_Lref11_Place : oneT P T_Lref11_Place = true := by kernel_rfl
theorem z_T_Lref11_Place : zeroT P T_Lref11_Place = some (.slice none 0 0) := by kernel_rfl
theorem u_T_Lref11_Place : P.underlying T_Lref11_Place = some (.slice T_ref11_Place) := by kernel_rfl
theorem s_T_Lref11_Place : slT P T_Lref11_Place = some 4 := by kernel_rfl
theorem app_T_Lref11_Place {w : World} {K : Value → World → Prop} {base : Nat} {v x : Value} {xs ys : List Value} {n m : Nat} (ho : Own w base T_ref11_Place 4 v xs) (hy : SlG w 4 x ys) (hn : xs.length = n * 4) (hm : ys.length = m * 4) (hc : ∀ u ∈ ys, isC u = true)
    (hb : (n + m) * 32 ≤ 140737488355328) (hba : base ≤ w.heap.size) (hk : ∀ v' w', Own w' base T_ref11_Place 4 v' (xs ++ ys) → Ex v.ownBlock.toList w w' → (v'.ownBlock = v.ownBlock ∨ v'.ownBlock = some w.heap.size) → K v' w') : wBuiltin P .append #[T_Lref11_Place, T_Lref11_Place] [v, x] w K := by
  have h : (P.info? T_ref11_Place).map (fun i => (i.zero, i.size, i.bytes)) = some (some (.agg ⟨[.int .i64 0, .int .i64 0, .int .i64 0, .int .u64 0]⟩), 4, 32) := by kernel_rfl
  cases hi : P.info? T_ref11_Place with
  | none => rw [hi] at h; cases h
  | some i =>
    rw [hi] at h
    simp only [Option.map_some, Option.some.injEq, Prod.mk.injEq] at h
    exact app_i u_T_Lref11_Place hi h.1 h.2.1 h.2.2 (by kernel_rfl) (by omega) ho hy hn hm hc hb (by omega) hba hk
theorem o_T_Llaw11_Step : oneT P T_Llaw11_Step = true := by kernel_rfl
theorem z_T_Llaw11_Step : zeroT P T_Llaw11_Step = some (.slice none 0 0) := by kernel_rfl
theorem u_T_Llaw11_Step : P.underlying T_Llaw11_Step = some (.slice T_law11_Step) := by kernel_rfl
theorem s_T_Llaw11_Step : slT P T_Llaw11_Step = some 5 := by kernel_rfl
theorem app_T_Llaw11_Step {w : World} {K : Value → World → Prop} {base : Nat} {v x : Value} {xs ys : List Value} {n m : Nat} (ho : Own w base T_law11_Step 5 v xs) (hy : SlG w 5 x ys) (hn : xs.length = n * 5) (hm : ys.length = m * 5) (hc : ∀ u ∈ ys, isC u = true)
    (hb : (n + m) * 64 ≤ 140737488355328) (hba : base ≤ w.heap.size) (hk : ∀ v' w', Own w' base T_law11_Step 5 v' (xs ++ ys) → Ex v.ownBlock.toList w w' → (v'.ownBlock = v.ownBlock ∨ v'.ownBlock = some w.heap.size) → K v' w') : wBuiltin P .append #[T_Llaw11_Step, T_Llaw11_Step] [v, x] w K := by
  have h : (P.info? T_law11_Step).map (fun i => (i.zero, i.size, i.bytes)) = some (some (.agg ⟨[.slice none 0 0, .int .u32 0, .bool false, .int .i64 0, .slice none 0 0]⟩), 5, 64) := by kernel_rfl
  cases hi : P.info? T_law11_Step with
  | none => rw [hi] at h; cases h
  | some i =>
    rw [hi] at h
    simp only [Option.map_some, Option.some.injEq, Prod.mk.injEq] at h
    exact app_i u_T_Llaw11_Step hi h.1 h.2.1 h.2.2 (by kernel_rfl) (by omega) ho hy hn hm hc hb (by omega) hba hk
theorem o_T_Lref11_Item : oneT P T_Lref11_Item = true := by kernel_rfl
theorem z_T_Lref11_Item : zeroT P T_Lref11_Item = some (.slice none 0 0) := by kernel_rfl
theorem u_T_Lref11_Item : P.underlying T_Lref11_Item = some (.slice T_ref11_Item) := by kernel_rfl
theorem s_T_Lref11_Item : slT P T_Lref11_Item = some 132 := by kernel_rfl
theorem app_T_Lref11_Item {w : World} {K : Value → World → Prop} {base : Nat} {v x : Value} {xs ys : List Value} {n m : Nat} (ho : Own w base T_ref11_Item 132 v xs) (hy : SlG w 132 x ys) (hn : xs.length = n * 132) (hm : ys.length = m * 132) (hc : ∀ u ∈ ys, isC u = true)
    (hb : (n + m) * 152 ≤ 140737488355328) (hba : base ≤ w.heap.size) (hk : ∀ v' w', Own w' base T_ref11_Item 132 v' (xs ++ ys) → Ex v.ownBlock.toList w w' → (v'.ownBlock = v.ownBlock ∨ v'.ownBlock = some w.heap.size) → K v' w') : wBuiltin P .append #[T_Lref11_Item, T_Lref11_Item] [v, x] w K := by
  have h : (P.info? T_ref11_Item).map (fun i => (i.zero, i.size, i.bytes)) = some (some (.agg ⟨[.int .i64 0, .int .u32 0, .int .u32 0, .int .i64 0] ++ List.replicate 128 (.int .u8 0)⟩), 132, 152) := by kernel_rfl
  cases hi : P.info? T_ref11_Item with
  | none => rw [hi] at h; cases h
  | some i =>
    rw [hi] at h
    simp only [Option.map_some, Option.some.injEq, Prod.mk.injEq] at h
    exact app_i u_T_Lref11_Item hi h.1 h.2.1 h.2.2 (by kernel_rfl) (by omega) ho hy hn hm hc hb (by omega) hba hk
theorem e_T_ref05_Entry : P.eqGuardType P.depth T_ref05_Entry = false := by kernel_rfl
theorem g_T_ref05_Entry : aggT P T_ref05_Entry 4 = true := by kernel_rfl
theorem z_T_ref05_Entry : zeroT P T_ref05_Entry = some (.agg ⟨[.int .i64 0, .int .u32 0, .int .u32 0, .int .i64 0]⟩) := by kernel_rfl
theorem e_T_ref11_Item : P.eqGuardType P.depth T_ref11_Item = false := by kernel_rfl
theorem g_T_ref11_Item : aggT P T_ref11_Item 132 = true := by kernel_rfl
theorem z_T_ref11_Item : zeroT P T_ref11_Item = some (.agg ⟨[.int .i64 0, .int .u32 0, .int .u32 0, .int .i64 0] ++ List.replicate 128 (.int .u8 0)⟩) := by kernel_rfl
theorem o_T_Lslog_Item : oneT P T_Lslog_Item = true := by kernel_rfl
theorem z_T_Lslog_Item : zeroT P T_Lslog_Item = some (.slice none 0 0) := by kernel_rfl
theorem u_T_Lslog_Item : P.underlying T_Lslog_Item = some (.slice T_slog_Item) := by kernel_rfl
theorem s_T_Lslog_Item : slT P T_Lslog_Item = some 132 := by kernel_rfl
theorem app_T_Lslog_Item {w : World} {K : Value → World → Prop} {base : Nat} {v x : Value} {xs ys : List Value} {n m : Nat} (ho : Own w base T_slog_Item 132 v xs) (hy : SlG w 132 x ys) (hn : xs.length = n * 132) (hm : ys.length = m * 132) (hc : ∀ u ∈ ys, isC u = true)
    (hb : (n + m) * 152 ≤ 140737488355328) (hba : base ≤ w.heap.size) (hk : ∀ v' w', Own w' base T_slog_Item 132 v' (xs ++ ys) → Ex v.ownBlock.toList w w' → (v'.ownBlock = v.ownBlock ∨ v'.ownBlock = some w.heap.size) → K v' w') : wBuiltin P .append #[T_Lslog_Item, T_Lslog_Item] [v, x] w K := by
  have h : (P.info? T_slog_Item).map (fun i => (i.zero, i.size, i.bytes)) = some (some (.agg ⟨[.int .i64 0, .int .u32 0, .int .u32 0, .int .i64 0] ++ List.replicate 128 (.int .u8 0)⟩), 132, 152) := by kernel_rfl
  cases hi : P.info? T_slog_Item with
  | none => rw [hi] at h; cases h
  | some i =>
    rw [hi] at h
    simp only [Option.map_some, Option.some.injEq, Prod.mk.injEq] at h
    exact app_i u_T_Lslog_Item hi h.1 h.2.1 h.2.2 (by kernel_rfl) (by omega) ho hy hn hm hc hb (by omega) hba hk
theorem o_T_Lslog_Batch : oneT P T_Lslog_Batch = true := by kernel_rfl
theorem z_T_Lslog_Batch : zeroT P T_Lslog_Batch = some (.slice none 0 0) := by kernel_rfl
theorem u_T_Lslog_Batch : P.underlying T_Lslog_Batch = some (.slice T_slog_Batch) := by kernel_rfl
theorem s_T_Lslog_Batch : slT P T_Lslog_Batch = some 4 := by kernel_rfl
theorem app_T_Lslog_Batch {w : World} {K : Value → World → Prop} {base : Nat} {v x : Value} {xs ys : List Value} {n m : Nat} (ho : Own w base T_slog_Batch 4 v xs) (hy : SlG w 4 x ys) (hn : xs.length = n * 4) (hm : ys.length = m * 4) (hc : ∀ u ∈ ys, isC u = true)
    (hb : (n + m) * 64 ≤ 140737488355328) (hba : base ≤ w.heap.size) (hk : ∀ v' w', Own w' base T_slog_Batch 4 v' (xs ++ ys) → Ex v.ownBlock.toList w w' → (v'.ownBlock = v.ownBlock ∨ v'.ownBlock = some w.heap.size) → K v' w') : wBuiltin P .append #[T_Lslog_Batch, T_Lslog_Batch] [v, x] w K := by
  have h : (P.info? T_slog_Batch).map (fun i => (i.zero, i.size, i.bytes)) = some (some (.agg ⟨[.int .u64 0, .int .u32 0, .slice none 0 0, .slice none 0 0]⟩), 4, 64) := by kernel_rfl
  cases hi : P.info? T_slog_Batch with
  | none => rw [hi] at h; cases h
  | some i =>
    rw [hi] at h
    simp only [Option.map_some, Option.some.injEq, Prod.mk.injEq] at h
    exact app_i u_T_Lslog_Batch hi h.1 h.2.1 h.2.2 (by kernel_rfl) (by omega) ho hy hn hm hc hb (by omega) hba hk
theorem o_T_Lslog_Found : oneT P T_Lslog_Found = true := by kernel_rfl
theorem z_T_Lslog_Found : zeroT P T_Lslog_Found = some (.slice none 0 0) := by kernel_rfl
theorem u_T_Lslog_Found : P.underlying T_Lslog_Found = some (.slice T_slog_Found) := by kernel_rfl
theorem s_T_Lslog_Found : slT P T_Lslog_Found = some 5 := by kernel_rfl
theorem app_T_Lslog_Found {w : World} {K : Value → World → Prop} {base : Nat} {v x : Value} {xs ys : List Value} {n m : Nat} (ho : Own w base T_slog_Found 5 v xs) (hy : SlG w 5 x ys) (hn : xs.length = n * 5) (hm : ys.length = m * 5) (hc : ∀ u ∈ ys, isC u = true)
    (hb : (n + m) * 32 ≤ 140737488355328) (hba : base ≤ w.heap.size) (hk : ∀ v' w', Own w' base T_slog_Found 5 v' (xs ++ ys) → Ex v.ownBlock.toList w w' → (v'.ownBlock = v.ownBlock ∨ v'.ownBlock = some w.heap.size) → K v' w') : wBuiltin P .append #[T_Lslog_Found, T_Lslog_Found] [v, x] w K := by
  have h : (P.info? T_slog_Found).map (fun i => (i.zero, i.size, i.bytes)) = some (some (.agg ⟨[.int .i64 0, .int .u32 0, .int .u32 0, .int .i64 0, .int .i64 0]⟩), 5, 32) := by kernel_rfl
  cases hi : P.info? T_slog_Found with
  | none => rw [hi] at h; cases h
  | some i =>
    rw [hi] at h
    simp only [Option.map_some, Option.some.injEq, Prod.mk.injEq] at h
    exact app_i u_T_Lslog_Found hi h.1 h.2.1 h.2.2 (by kernel_rfl) (by omega) ho hy hn hm hc hb (by omega) hba hk
theorem e_T_slog_Batch : P.eqGuardType P.depth T_slog_Batch = false := by kernel_rfl
theorem g_T_slog_Batch : aggT P T_slog_Batch 4 = true := by kernel_rfl
theorem z_T_slog_Batch : zeroT P T_slog_Batch = some (.agg ⟨[.int .u64 0, .int .u32 0, .slice none 0 0, .slice none 0 0]⟩) := by kernel_rfl
theorem o_T_LLref11_Item : oneT P T_LLref11_Item = true := by kernel_rfl
theorem z_T_LLref11_Item : zeroT P T_LLref11_Item = some (.slice none 0 0) := by kernel_rfl
theorem u_T_LLref11_Item : P.underlying T_LLref11_Item = some (.slice T_Lref11_Item) := by kernel_rfl
theorem s_T_LLref11_Item : slT P T_LLref11_Item = some 1 := by kernel_rfl
theorem app_T_LLref11_Item {w : World} {K : Value → World → Prop} {base : Nat} {v x : Value} {xs ys : List Value} {n m : Nat} (ho : Own w base T_Lref11_Item 1 v xs) (hy : SlG w 1 x ys) (hn : xs.length = n * 1) (hm : ys.length = m * 1) (hc : ∀ u ∈ ys, isC u = true)
    (hb : (n + m) * 24 ≤ 140737488355328) (hba : base ≤ w.heap.size) (hk : ∀ v' w', Own w' base T_Lref11_Item 1 v' (xs ++ ys) → Ex v.ownBlock.toList w w' → (v'.ownBlock = v.ownBlock ∨ v'.ownBlock = some w.heap.size) → K v' w') : wBuiltin P .append #[T_LLref11_Item, T_LLref11_Item] [v, x] w K := by
  have h : (P.info? T_Lref11_Item).map (fun i => (i.zero, i.size, i.bytes)) = some (some (.slice none 0 0), 1, 24) := by kernel_rfl
  cases hi : P.info? T_Lref11_Item with
  | none => rw [hi] at h; cases h
  | some i =>
    rw [hi] at h
    simp only [Option.map_some, Option.some.injEq, Prod.mk.injEq] at h
    exact app_i u_T_LLref11_Item hi h.1 h.2.1 h.2.2 (by kernel_rfl) (by omega) ho hy hn hm hc hb (by omega) hba hk
theorem e_T_law11_Step : P.eqGuardType P.depth T_law11_Step = false := by kernel_rfl
theorem g_T_law11_Step : aggT P T_law11_Step 5 = true := by kernel_rfl
theorem z_T_law11_Step : zeroT P T_law11_Step = some (.agg ⟨[.slice none 0 0, .int .u32 0, .bool false, .int .i64 0, .slice none 0 0]⟩) := by kernel_rfl
theorem e_T_codec_Entry : P.eqGuardType P.depth T_codec_Entry = false := by kernel_rfl
theorem g_T_codec_Entry : aggT P T_codec_Entry 4 = true := by kernel_rfl
theorem z_T_codec_Entry : zeroT P T_codec_Entry = some (.agg ⟨[.int .i64 0, .int .u32 0, .int .u32 0, .int .i64 0]⟩) := by kernel_rfl
theorem e_T_slog_Found : P.eqGuardType P.depth T_slog_Found = false := by kernel_rfl
theorem g_T_slog_Found : aggT P T_slog_Found 5 = true := by kernel_rfl
theorem z_T_slog_Found : zeroT P T_slog_Found = some (.agg ⟨[.int .i64 0, .int .u32 0, .int .u32 0, .int .i64 0, .int .i64 0]⟩) := by kernel_rfl
theorem e_T_disk_state : P.eqGuardType P.depth T_disk_state = false := by kernel_rfl
theorem g_T_disk_state : aggT P T_disk_state 2 = true := by kernel_rfl
theorem z_T_disk_state : zeroT P T_disk_state = some (.agg ⟨[.bool false, .int .i64 0]⟩) := by kernel_rfl
theorem o_T_Ldisk_write : oneT P T_Ldisk_write = true := by kernel_rfl
theorem z_T_Ldisk_write : zeroT P T_Ldisk_write = some (.slice none 0 0) := by kernel_rfl
theorem u_T_Ldisk_write : P.underlying T_Ldisk_write = some (.slice T_disk_write) := by kernel_rfl
theorem s_T_Ldisk_write : slT P T_Ldisk_write = some 129 := by kernel_rfl
theorem app_T_Ldisk_write {w : World} {K : Value → World → Prop} {base : Nat} {v x : Value} {xs ys : List Value} {n m : Nat} (ho : Own w base T_disk_write 129 v xs) (hy : SlG w 129 x ys) (hn : xs.length = n * 129) (hm : ys.length = m * 129) (hc : ∀ u ∈ ys, isC u = true)
    (hb : (n + m) * 136 ≤ 140737488355328) (hba : base ≤ w.heap.size) (hk : ∀ v' w', Own w' base T_disk_write 129 v' (xs ++ ys) → Ex v.ownBlock.toList w w' → (v'.ownBlock = v.ownBlock ∨ v'.ownBlock = some w.heap.size) → K v' w') : wBuiltin P .append #[T_Ldisk_write, T_Ldisk_write] [v, x] w K := by
  have h : (P.info? T_disk_write).map (fun i => (i.zero, i.size, i.bytes)) = some (some (.agg ⟨[.int .i64 0] ++ List.replicate 128 (.int .u8 0)⟩), 129, 136) := by kernel_rfl
  cases hi : P.info? T_disk_write with
  | none => rw [hi] at h; cases h
  | some i =>
    rw [hi] at h
    simp only [Option.map_some, Option.some.injEq, Prod.mk.injEq] at h
    exact app_i u_T_Ldisk_write hi h.1 h.2.1 h.2.2 (by kernel_rfl) (by omega) ho hy hn hm hc hb (by omega) hba hk
theorem e_T_disk_Disk : P.eqGuardType P.depth T_disk_Disk = false := by kernel_rfl
theorem g_T_disk_Disk : aggT P T_disk_Disk 5 = true := by kernel_rfl
theorem z_T_disk_Disk : zeroT P T_disk_Disk = some (.agg ⟨[.bool false, .int .i64 0, .slice none 0 0, .slice none 0 0, .int .i64 0]⟩) := by kernel_rfl
theorem e_T_disk_write : P.eqGuardType P.depth T_disk_write = false := by kernel_rfl
theorem g_T_disk_write : aggT P T_disk_write 129 = true := by kernel_rfl
theorem z_T_disk_write : zeroT P T_disk_write = some (.agg ⟨[.int .i64 0] ++ List.replicate 128 (.int .u8 0)⟩) := by kernel_rfl
theorem o_T_func_codec_Use__bool : oneT P T_func_codec_Use__bool = true := by kernel_rfl
theorem z_T_func_codec_Use__bool : zeroT P T_func_codec_Use__bool = some (.nilFunc) := by kernel_rfl
theorem e_T_imap_Map : P.eqGuardType P.depth T_imap_Map = false := by kernel_rfl
theorem g_T_imap_Map : aggT P T_imap_Map 1 = true := by kernel_rfl
theorem z_T_imap_Map : zeroT P T_imap_Map = some (.agg ⟨[.slice none 0 0]⟩) := by kernel_rfl
theorem e_T_usage_Table : P.eqGuardType P.depth T_usage_Table = false := by kernel_rfl
theorem g_T_usage_Table : aggT P T_usage_Table 2 = true := by kernel_rfl
theorem z_T_usage_Table : zeroT P T_usage_Table = some (.agg ⟨[.int .i64 0, .slice none 0 0]⟩) := by kernel_rfl
theorem o_T_func_codec_Slot__bool : oneT P T_func_codec_Slot__bool = true := by kernel_rfl
theorem z_T_func_codec_Slot__bool : zeroT P T_func_codec_Slot__bool = some (.nilFunc) := by kernel_rfl
theorem o_T_func_int___uint64__uint64_ : oneT P T_func_int___uint64__uint64_ = true := by kernel_rfl
theorem z_T_func_int___uint64__uint64_ : zeroT P T_func_int___uint64__uint64_ = some (.nilFunc) := by kernel_rfl
theorem o_T_Lref05_Field : oneT P T_Lref05_Field = true := by kernel_rfl
theorem z_T_Lref05_Field : zeroT P T_Lref05_Field = some (.slice none 0 0) := by kernel_rfl
theorem u_T_Lref05_Field : P.underlying T_Lref05_Field = some (.slice T_ref05_Field) := by kernel_rfl
theorem s_T_Lref05_Field : slT P T_Lref05_Field = some 2 := by kernel_rfl
theorem app_T_Lref05_Field {w : World} {K : Value → World → Prop} {base : Nat} {v x : Value} {xs ys : List Value} {n m : Nat} (ho : Own w base T_ref05_Field 2 v xs) (hy : SlG w 2 x ys) (hn : xs.length = n * 2) (hm : ys.length = m * 2) (hc : ∀ u ∈ ys, isC u = true)
    (hb : (n + m) * 16 ≤ 140737488355328) (hba : base ≤ w.heap.size) (hk : ∀ v' w', Own w' base T_ref05_Field 2 v' (xs ++ ys) → Ex v.ownBlock.toList w w' → (v'.ownBlock = v.ownBlock ∨ v'.ownBlock = some w.heap.size) → K v' w') : wBuiltin P .append #[T_Lref05_Field, T_Lref05_Field] [v, x] w K := by
  have h : (P.info? T_ref05_Field).map (fun i => (i.zero, i.size, i.bytes)) = some (some (.agg ⟨[.int .i64 0, .int .i64 0]⟩), 2, 16) := by kernel_rfl
  cases hi : P.info? T_ref05_Field with
  | none => rw [hi] at h; cases h
  | some i =>
    rw [hi] at h
    simp only [Option.map_some, Option.some.injEq, Prod.mk.injEq] at h
    exact app_i u_T_Lref05_Field hi h.1 h.2.1 h.2.2 (by kernel_rfl) (by omega) ho hy hn hm hc hb (by omega) hba hk
theorem o_T_Lint64 : oneT P T_Lint64 = true := by kernel_rfl
theorem z_T_Lint64 : zeroT P T_Lint64 = some (.slice none 0 0) := by kernel_rfl
theorem u_T_Lint64 : P.underlying T_Lint64 = some (.slice T_int64) := by kernel_rfl
theorem s_T_Lint64 : slT P T_Lint64 = some 1 := by kernel_rfl
theorem app_T_Lint64 {w : World} {K : Value → World → Prop} {base : Nat} {v x : Value} {xs ys : List Value} {n m : Nat} (ho : Own w base T_int64 1 v xs) (hy : SlG w 1 x ys) (hn : xs.length = n * 1) (hm : ys.length = m * 1) (hc : ∀ u ∈ ys, isC u = true)
    (hb : (n + m) * 8 ≤ 140737488355328) (hba : base ≤ w.heap.size) (hk : ∀ v' w', Own w' base T_int64 1 v' (xs ++ ys) → Ex v.ownBlock.toList w w' → (v'.ownBlock = v.ownBlock ∨ v'.ownBlock = some w.heap.size) → K v' w') : wBuiltin P .append #[T_Lint64, T_Lint64] [v, x] w K := by
  have h : (P.info? T_int64).map (fun i => (i.zero, i.size, i.bytes)) = some (some (.int .i64 0), 1, 8) := by kernel_rfl
  cases hi : P.info? T_int64 with
  | none => rw [hi] at h; cases h
  | some i =>
    rw [hi] at h
    simp only [Option.map_some, Option.some.injEq, Prod.mk.injEq] at h
    exact app_i u_T_Lint64 hi h.1 h.2.1 h.2.2 (by kernel_rfl) (by omega) ho hy hn hm hc hb (by omega) hba hk
theorem e_T_num_Writer : P.eqGuardType P.depth T_num_Writer = false := by kernel_rfl
theorem g_T_num_Writer : aggT P T_num_Writer 130 = true := by kernel_rfl
theorem z_T_num_Writer : zeroT P T_num_Writer = some (.agg ⟨List.replicate 128 (.int .u8 0) ++ [.int .i64 0, .int .i64 0]⟩) := by kernel_rfl
theorem e_T_ref05_Field : P.eqGuardType P.depth T_ref05_Field = false := by kernel_rfl
theorem g_T_ref05_Field : aggT P T_ref05_Field 2 = true := by kernel_rfl
theorem z_T_ref05_Field : zeroT P T_ref05_Field = some (.agg ⟨[.int .i64 0, .int .i64 0]⟩) := by kernel_rfl
theorem e_T_slog_Item : P.eqGuardType P.depth T_slog_Item = false := by kernel_rfl
theorem g_T_slog_Item : aggT P T_slog_Item 132 = true := by kernel_rfl
theorem z_T_slog_Item : zeroT P T_slog_Item = some (.agg ⟨[.int .i64 0, .int .u32 0, .int .u32 0, .int .i64 0] ++ List.replicate 128 (.int .u8 0)⟩) := by kernel_rfl
theorem o_T_Lref04_Part : oneT P T_Lref04_Part = true := by kernel_rfl
theorem z_T_Lref04_Part : zeroT P T_Lref04_Part = some (.slice none 0 0) := by kernel_rfl
theorem u_T_Lref04_Part : P.underlying T_Lref04_Part = some (.slice T_ref04_Part) := by kernel_rfl
theorem s_T_Lref04_Part : slT P T_Lref04_Part = some 6 := by kernel_rfl
theorem app_T_Lref04_Part {w : World} {K : Value → World → Prop} {base : Nat} {v x : Value} {xs ys : List Value} {n m : Nat} (ho : Own w base T_ref04_Part 6 v xs) (hy : SlG w 6 x ys) (hn : xs.length = n * 6) (hm : ys.length = m * 6) (hc : ∀ u ∈ ys, isC u = true)
    (hb : (n + m) * 48 ≤ 140737488355328) (hba : base ≤ w.heap.size) (hk : ∀ v' w', Own w' base T_ref04_Part 6 v' (xs ++ ys) → Ex v.ownBlock.toList w w' → (v'.ownBlock = v.ownBlock ∨ v'.ownBlock = some w.heap.size) → K v' w') : wBuiltin P .append #[T_Lref04_Part, T_Lref04_Part] [v, x] w K := by
  have h : (P.info? T_ref04_Part).map (fun i => (i.zero, i.size, i.bytes)) = some (some (.agg ⟨[.int .i64 0, .int .i64 0, .int .i64 0, .int .i64 0, .int .i64 0, .int .i64 0]⟩), 6, 48) := by kernel_rfl
  cases hi : P.info? T_ref04_Part with
  | none => rw [hi] at h; cases h
  | some i =>
    rw [hi] at h
    simp only [Option.map_some, Option.some.injEq, Prod.mk.injEq] at h
    exact app_i u_T_Lref04_Part hi h.1 h.2.1 h.2.2 (by kernel_rfl) (by omega) ho hy hn hm hc hb (by omega) hba hk
theorem o_T_Lslog_group : oneT P T_Lslog_group = true := by kernel_rfl
theorem z_T_Lslog_group : zeroT P T_Lslog_group = some (.slice none 0 0) := by kernel_rfl
theorem u_T_Lslog_group : P.underlying T_Lslog_group = some (.slice T_slog_group) := by kernel_rfl
theorem s_T_Lslog_group : slT P T_Lslog_group = some 131 := by kernel_rfl
theorem app_T_Lslog_group {w : World} {K : Value → World → Prop} {base : Nat} {v x : Value} {xs ys : List Value} {n m : Nat} (ho : Own w base T_slog_group 131 v xs) (hy : SlG w 131 x ys) (hn : xs.length = n * 131) (hm : ys.length = m * 131) (hc : ∀ u ∈ ys, isC u = true)
    (hb : (n + m) * 184 ≤ 140737488355328) (hba : base ≤ w.heap.size) (hk : ∀ v' w', Own w' base T_slog_group 131 v' (xs ++ ys) → Ex v.ownBlock.toList w w' → (v'.ownBlock = v.ownBlock ∨ v'.ownBlock = some w.heap.size) → K v' w') : wBuiltin P .append #[T_Lslog_group, T_Lslog_group] [v, x] w K := by
  have h : (P.info? T_slog_group).map (fun i => (i.zero, i.size, i.bytes)) = some (some (.agg ⟨[.int .i64 0] ++ List.replicate 128 (.int .u8 0) ++ [.slice none 0 0, .slice none 0 0]⟩), 131, 184) := by kernel_rfl
  cases hi : P.info? T_slog_group with
  | none => rw [hi] at h; cases h
  | some i =>
    rw [hi] at h
    simp only [Option.map_some, Option.some.injEq, Prod.mk.injEq] at h
    exact app_i u_T_Lslog_group hi h.1 h.2.1 h.2.2 (by kernel_rfl) (by omega) ho hy hn hm hc hb (by omega) hba hk
theorem e_T_slog_writer : P.eqGuardType P.depth T_slog_writer = false := by kernel_rfl
theorem g_T_slog_writer : aggT P T_slog_writer 2 = true := by kernel_rfl
theorem z_T_slog_writer : zeroT P T_slog_writer = some (.agg ⟨[.pointer none, .int .i64 0]⟩) := by kernel_rfl
theorem e_T_slog_group : P.eqGuardType P.depth T_slog_group = false := by kernel_rfl
theorem g_T_slog_group : aggT P T_slog_group 131 = true := by kernel_rfl
theorem z_T_slog_group : zeroT P T_slog_group = some (.agg ⟨[.int .i64 0] ++ List.replicate 128 (.int .u8 0) ++ [.slice none 0 0, .slice none 0 0]⟩) := by kernel_rfl
theorem o_T_pcodec_writer : oneT P T_pcodec_writer = true := by kernel_rfl
theorem z_T_pcodec_writer : zeroT P T_pcodec_writer = some (.pointer none) := by kernel_rfl
theorem e_T_codec_writer : P.eqGuardType P.depth T_codec_writer = false := by kernel_rfl
theorem g_T_codec_writer : aggT P T_codec_writer 2 = true := by kernel_rfl
theorem z_T_codec_writer : zeroT P T_codec_writer = some (.agg ⟨[.slice none 0 0, .bool false]⟩) := by kernel_rfl
theorem o_T_pcodec_reader : oneT P T_pcodec_reader = true := by kernel_rfl
theorem z_T_pcodec_reader : zeroT P T_pcodec_reader = some (.pointer none) := by kernel_rfl
theorem e_T_codec_reader : P.eqGuardType P.depth T_codec_reader = false := by kernel_rfl
theorem g_T_codec_reader : aggT P T_codec_reader 3 = true := by kernel_rfl
theorem z_T_codec_reader : zeroT P T_codec_reader = some (.agg ⟨[.slice none 0 0, .int .i64 0, .bool false]⟩) := by kernel_rfl
theorem e_T_num_Reader : P.eqGuardType P.depth T_num_Reader = false := by kernel_rfl
theorem g_T_num_Reader : aggT P T_num_Reader 130 = true := by kernel_rfl
theorem z_T_num_Reader : zeroT P T_num_Reader = some (.agg ⟨List.replicate 128 (.int .u8 0) ++ [.int .i64 0, .int .i64 0]⟩) := by kernel_rfl
theorem o_T_func_codec_Record__bool : oneT P T_func_codec_Record__bool = true := by kernel_rfl
theorem z_T_func_codec_Record__bool : zeroT P T_func_codec_Record__bool = some (.nilFunc) := by kernel_rfl
theorem o_T_func_codec_Entry__bool : oneT P T_func_codec_Entry__bool = true := by kernel_rfl
theorem z_T_func_codec_Entry__bool : zeroT P T_func_codec_Entry__bool = some (.nilFunc) := by kernel_rfl
theorem e_T_ref04_Part : P.eqGuardType P.depth T_ref04_Part = false := by kernel_rfl
theorem g_T_ref04_Part : aggT P T_ref04_Part 6 = true := by kernel_rfl
theorem z_T_ref04_Part : zeroT P T_ref04_Part = some (.agg ⟨[.int .i64 0, .int .i64 0, .int .i64 0, .int .i64 0, .int .i64 0, .int .i64 0]⟩) := by kernel_rfl
theorem o_T_uint : oneT P T_uint = true := by kernel_rfl
theorem z_T_uint : zeroT P T_uint = some (.int .u64 0) := by kernel_rfl
theorem i_T_uint : P.underlying T_uint = some (.int .u64) := by kernel_rfl
theorem f_T_ref03_Disk_0 : fldT P T_ref03_Disk 0 = some 0 := by kernel_rfl
theorem fA_T_ref03_Disk_0 (b o : Nat) (w : World) (K : Value → World → Prop) : wFieldA P T_ref03_Disk (.pointer (some ⟨b, o, none⟩)) 0 w K = K (.pointer (some ⟨b, o, none⟩)) w := fieldA_i f_T_ref03_Disk_0
theorem f_T_ref03_Disk_1 : fldT P T_ref03_Disk 1 = some 1 := by kernel_rfl
theorem fA_T_ref03_Disk_1 (b o : Nat) (w : World) (K : Value → World → Prop) : wFieldA P T_ref03_Disk (.pointer (some ⟨b, o, none⟩)) 1 w K = K (.pointer (some ⟨b, o + 1, none⟩)) w := fieldA_i f_T_ref03_Disk_1
theorem f_T_ref03_Disk_2 : fldT P T_ref03_Disk 2 = some 2 := by kernel_rfl
theorem fA_T_ref03_Disk_2 (b o : Nat) (w : World) (K : Value → World → Prop) : wFieldA P T_ref03_Disk (.pointer (some ⟨b, o, none⟩)) 2 w K = K (.pointer (some ⟨b, o + 2, none⟩)) w := fieldA_i f_T_ref03_Disk_2
theorem f_T_ref03_Disk_3 : fldT P T_ref03_Disk 3 = some 3 := by kernel_rfl
theorem fA_T_ref03_Disk_3 (b o : Nat) (w : World) (K : Value → World → Prop) : wFieldA P T_ref03_Disk (.pointer (some ⟨b, o, none⟩)) 3 w K = K (.pointer (some ⟨b, o + 3, none⟩)) w := fieldA_i f_T_ref03_Disk_3
theorem f_T_ref03_Disk_4 : fldT P T_ref03_Disk 4 = some 4 := by kernel_rfl
theorem fA_T_ref03_Disk_4 (b o : Nat) (w : World) (K : Value → World → Prop) : wFieldA P T_ref03_Disk (.pointer (some ⟨b, o, none⟩)) 4 w K = K (.pointer (some ⟨b, o + 4, none⟩)) w := fieldA_i f_T_ref03_Disk_4
theorem f_T_law03_Act_0 : fldT P T_law03_Act 0 = some 0 := by kernel_rfl
theorem fA_T_law03_Act_0 (b o : Nat) (w : World) (K : Value → World → Prop) : wFieldA P T_law03_Act (.pointer (some ⟨b, o, none⟩)) 0 w K = K (.pointer (some ⟨b, o, none⟩)) w := fieldA_i f_T_law03_Act_0
theorem f_T_law03_Act_1 : fldT P T_law03_Act 1 = some 1 := by kernel_rfl
theorem fA_T_law03_Act_1 (b o : Nat) (w : World) (K : Value → World → Prop) : wFieldA P T_law03_Act (.pointer (some ⟨b, o, none⟩)) 1 w K = K (.pointer (some ⟨b, o + 1, none⟩)) w := fieldA_i f_T_law03_Act_1
theorem f_T_law03_Act_2 : fldT P T_law03_Act 2 = some 2 := by kernel_rfl
theorem fA_T_law03_Act_2 (b o : Nat) (w : World) (K : Value → World → Prop) : wFieldA P T_law03_Act (.pointer (some ⟨b, o, none⟩)) 2 w K = K (.pointer (some ⟨b, o + 2, none⟩)) w := fieldA_i f_T_law03_Act_2
theorem f_T_law03_Act_3 : fldT P T_law03_Act 3 = some 3 := by kernel_rfl
theorem fA_T_law03_Act_3 (b o : Nat) (w : World) (K : Value → World → Prop) : wFieldA P T_law03_Act (.pointer (some ⟨b, o, none⟩)) 3 w K = K (.pointer (some ⟨b, o + 3, none⟩)) w := fieldA_i f_T_law03_Act_3
theorem f_T_ref03_Write_0 : fldT P T_ref03_Write 0 = some 0 := by kernel_rfl
theorem fA_T_ref03_Write_0 (b o : Nat) (w : World) (K : Value → World → Prop) : wFieldA P T_ref03_Write (.pointer (some ⟨b, o, none⟩)) 0 w K = K (.pointer (some ⟨b, o, none⟩)) w := fieldA_i f_T_ref03_Write_0
theorem f_T_ref03_Write_1 : fldT P T_ref03_Write 1 = some 1 := by kernel_rfl
theorem fA_T_ref03_Write_1 (b o : Nat) (w : World) (K : Value → World → Prop) : wFieldA P T_ref03_Write (.pointer (some ⟨b, o, none⟩)) 1 w K = K (.pointer (some ⟨b, o + 1, none⟩)) w := fieldA_i f_T_ref03_Write_1
theorem f_T_ref05_Use_0 : fldT P T_ref05_Use 0 = some 0 := by kernel_rfl
theorem fA_T_ref05_Use_0 (b o : Nat) (w : World) (K : Value → World → Prop) : wFieldA P T_ref05_Use (.pointer (some ⟨b, o, none⟩)) 0 w K = K (.pointer (some ⟨b, o, none⟩)) w := fieldA_i f_T_ref05_Use_0
theorem f_T_ref05_Use_1 : fldT P T_ref05_Use 1 = some 1 := by kernel_rfl
theorem fA_T_ref05_Use_1 (b o : Nat) (w : World) (K : Value → World → Prop) : wFieldA P T_ref05_Use (.pointer (some ⟨b, o, none⟩)) 1 w K = K (.pointer (some ⟨b, o + 1, none⟩)) w := fieldA_i f_T_ref05_Use_1
theorem f_T_ref05_Use_2 : fldT P T_ref05_Use 2 = some 2 := by kernel_rfl
theorem fA_T_ref05_Use_2 (b o : Nat) (w : World) (K : Value → World → Prop) : wFieldA P T_ref05_Use (.pointer (some ⟨b, o, none⟩)) 2 w K = K (.pointer (some ⟨b, o + 2, none⟩)) w := fieldA_i f_T_ref05_Use_2
theorem f_T_codec_Use_0 : fldT P T_codec_Use 0 = some 0 := by kernel_rfl
theorem fA_T_codec_Use_0 (b o : Nat) (w : World) (K : Value → World → Prop) : wFieldA P T_codec_Use (.pointer (some ⟨b, o, none⟩)) 0 w K = K (.pointer (some ⟨b, o, none⟩)) w := fieldA_i f_T_codec_Use_0
theorem f_T_codec_Use_1 : fldT P T_codec_Use 1 = some 1 := by kernel_rfl
theorem fA_T_codec_Use_1 (b o : Nat) (w : World) (K : Value → World → Prop) : wFieldA P T_codec_Use (.pointer (some ⟨b, o, none⟩)) 1 w K = K (.pointer (some ⟨b, o + 1, none⟩)) w := fieldA_i f_T_codec_Use_1
theorem f_T_codec_Use_2 : fldT P T_codec_Use 2 = some 2 := by kernel_rfl
theorem fA_T_codec_Use_2 (b o : Nat) (w : World) (K : Value → World → Prop) : wFieldA P T_codec_Use (.pointer (some ⟨b, o, none⟩)) 2 w K = K (.pointer (some ⟨b, o + 2, none⟩)) w := fieldA_i f_T_codec_Use_2
theorem f_T_ref05_Slot_0 : fldT P T_ref05_Slot 0 = some 0 := by kernel_rfl
theorem fA_T_ref05_Slot_0 (b o : Nat) (w : World) (K : Value → World → Prop) : wFieldA P T_ref05_Slot (.pointer (some ⟨b, o, none⟩)) 0 w K = K (.pointer (some ⟨b, o, none⟩)) w := fieldA_i f_T_ref05_Slot_0
theorem f_T_ref05_Slot_1 : fldT P T_ref05_Slot 1 = some 1 := by kernel_rfl
theorem fA_T_ref05_Slot_1 (b o : Nat) (w : World) (K : Value → World → Prop) : wFieldA P T_ref05_Slot (.pointer (some ⟨b, o, none⟩)) 1 w K = K (.pointer (some ⟨b, o + 1, none⟩)) w := fieldA_i f_T_ref05_Slot_1
theorem f_T_ref05_Slot_2 : fldT P T_ref05_Slot 2 = some 2 := by kernel_rfl
theorem fA_T_ref05_Slot_2 (b o : Nat) (w : World) (K : Value → World → Prop) : wFieldA P T_ref05_Slot (.pointer (some ⟨b, o, none⟩)) 2 w K = K (.pointer (some ⟨b, o + 2, none⟩)) w := fieldA_i f_T_ref05_Slot_2
theorem f_T_ref05_Slot_3 : fldT P T_ref05_Slot 3 = some 3 := by kernel_rfl
theorem fA_T_ref05_Slot_3 (b o : Nat) (w : World) (K : Value → World → Prop) : wFieldA P T_ref05_Slot (.pointer (some ⟨b, o, none⟩)) 3 w K = K (.pointer (some ⟨b, o + 3, none⟩)) w := fieldA_i f_T_ref05_Slot_3
theorem f_T_law10_Act_0 : fldT P T_law10_Act 0 = some 0 := by kernel_rfl
theorem fA_T_law10_Act_0 (b o : Nat) (w : World) (K : Value → World → Prop) : wFieldA P T_law10_Act (.pointer (some ⟨b, o, none⟩)) 0 w K = K (.pointer (some ⟨b, o, none⟩)) w := fieldA_i f_T_law10_Act_0
theorem f_T_law10_Act_1 : fldT P T_law10_Act 1 = some 1 := by kernel_rfl
theorem fA_T_law10_Act_1 (b o : Nat) (w : World) (K : Value → World → Prop) : wFieldA P T_law10_Act (.pointer (some ⟨b, o, none⟩)) 1 w K = K (.pointer (some ⟨b, o + 1, none⟩)) w := fieldA_i f_T_law10_Act_1
theorem f_T_law10_Act_2 : fldT P T_law10_Act 2 = some 2 := by kernel_rfl
theorem fA_T_law10_Act_2 (b o : Nat) (w : World) (K : Value → World → Prop) : wFieldA P T_law10_Act (.pointer (some ⟨b, o, none⟩)) 2 w K = K (.pointer (some ⟨b, o + 2, none⟩)) w := fieldA_i f_T_law10_Act_2
theorem f_T_codec_Slot_0 : fldT P T_codec_Slot 0 = some 0 := by kernel_rfl
theorem fA_T_codec_Slot_0 (b o : Nat) (w : World) (K : Value → World → Prop) : wFieldA P T_codec_Slot (.pointer (some ⟨b, o, none⟩)) 0 w K = K (.pointer (some ⟨b, o, none⟩)) w := fieldA_i f_T_codec_Slot_0
theorem f_T_codec_Slot_1 : fldT P T_codec_Slot 1 = some 1 := by kernel_rfl
theorem fA_T_codec_Slot_1 (b o : Nat) (w : World) (K : Value → World → Prop) : wFieldA P T_codec_Slot (.pointer (some ⟨b, o, none⟩)) 1 w K = K (.pointer (some ⟨b, o + 1, none⟩)) w := fieldA_i f_T_codec_Slot_1
theorem f_T_codec_Slot_2 : fldT P T_codec_Slot 2 = some 2 := by kernel_rfl
theorem fA_T_codec_Slot_2 (b o : Nat) (w : World) (K : Value → World → Prop) : wFieldA P T_codec_Slot (.pointer (some ⟨b, o, none⟩)) 2 w K = K (.pointer (some ⟨b, o + 2, none⟩)) w := fieldA_i f_T_codec_Slot_2
theorem f_T_codec_Slot_3 : fldT P T_codec_Slot 3 = some 3 := by kernel_rfl
theorem fA_T_codec_Slot_3 (b o : Nat) (w : World) (K : Value → World → Prop) : wFieldA P T_codec_Slot (.pointer (some ⟨b, o, none⟩)) 3 w K = K (.pointer (some ⟨b, o + 3, none⟩)) w := fieldA_i f_T_codec_Slot_3
theorem f_T_ref05_Inode_0 : fldT P T_ref05_Inode 0 = some 0 := by kernel_rfl
theorem fA_T_ref05_Inode_0 (b o : Nat) (w : World) (K : Value → World → Prop) : wFieldA P T_ref05_Inode (.pointer (some ⟨b, o, none⟩)) 0 w K = K (.pointer (some ⟨b, o, none⟩)) w := fieldA_i f_T_ref05_Inode_0
theorem f_T_ref05_Inode_1 : fldT P T_ref05_Inode 1 = some 1 := by kernel_rfl
theorem fA_T_ref05_Inode_1 (b o : Nat) (w : World) (K : Value → World → Prop) : wFieldA P T_ref05_Inode (.pointer (some ⟨b, o, none⟩)) 1 w K = K (.pointer (some ⟨b, o + 1, none⟩)) w := fieldA_i f_T_ref05_Inode_1
theorem f_T_ref05_Inode_2 : fldT P T_ref05_Inode 2 = some 2 := by kernel_rfl
theorem fA_T_ref05_Inode_2 (b o : Nat) (w : World) (K : Value → World → Prop) : wFieldA P T_ref05_Inode (.pointer (some ⟨b, o, none⟩)) 2 w K = K (.pointer (some ⟨b, o + 2, none⟩)) w := fieldA_i f_T_ref05_Inode_2
theorem f_T_ref05_Inode_3 : fldT P T_ref05_Inode 3 = some 3 := by kernel_rfl
theorem fA_T_ref05_Inode_3 (b o : Nat) (w : World) (K : Value → World → Prop) : wFieldA P T_ref05_Inode (.pointer (some ⟨b, o, none⟩)) 3 w K = K (.pointer (some ⟨b, o + 3, none⟩)) w := fieldA_i f_T_ref05_Inode_3
theorem f_T_ref05_Inode_4 : fldT P T_ref05_Inode 4 = some 4 := by kernel_rfl
theorem fA_T_ref05_Inode_4 (b o : Nat) (w : World) (K : Value → World → Prop) : wFieldA P T_ref05_Inode (.pointer (some ⟨b, o, none⟩)) 4 w K = K (.pointer (some ⟨b, o + 4, none⟩)) w := fieldA_i f_T_ref05_Inode_4
theorem f_T_ref05_Inode_5 : fldT P T_ref05_Inode 5 = some 5 := by kernel_rfl
theorem fA_T_ref05_Inode_5 (b o : Nat) (w : World) (K : Value → World → Prop) : wFieldA P T_ref05_Inode (.pointer (some ⟨b, o, none⟩)) 5 w K = K (.pointer (some ⟨b, o + 5, none⟩)) w := fieldA_i f_T_ref05_Inode_5
theorem f_T_ref05_Inode_6 : fldT P T_ref05_Inode 6 = some 13 := by kernel_rfl
theorem fA_T_ref05_Inode_6 (b o : Nat) (w : World) (K : Value → World → Prop) : wFieldA P T_ref05_Inode (.pointer (some ⟨b, o, none⟩)) 6 w K = K (.pointer (some ⟨b, o + 13, none⟩)) w := fieldA_i f_T_ref05_Inode_6
theorem f_T_ref05_Inode_7 : fldT P T_ref05_Inode 7 = some 14 := by kernel_rfl
theorem fA_T_ref05_Inode_7 (b o : Nat) (w : World) (K : Value → World → Prop) : wFieldA P T_ref05_Inode (.pointer (some ⟨b, o, none⟩)) 7 w K = K (.pointer (some ⟨b, o + 14, none⟩)) w := fieldA_i f_T_ref05_Inode_7
theorem f_T_codec_Inode_0 : fldT P T_codec_Inode 0 = some 0 := by kernel_rfl
theorem fA_T_codec_Inode_0 (b o : Nat) (w : World) (K : Value → World → Prop) : wFieldA P T_codec_Inode (.pointer (some ⟨b, o, none⟩)) 0 w K = K (.pointer (some ⟨b, o, none⟩)) w := fieldA_i f_T_codec_Inode_0
theorem f_T_codec_Inode_1 : fldT P T_codec_Inode 1 = some 1 := by kernel_rfl
theorem fA_T_codec_Inode_1 (b o : Nat) (w : World) (K : Value → World → Prop) : wFieldA P T_codec_Inode (.pointer (some ⟨b, o, none⟩)) 1 w K = K (.pointer (some ⟨b, o + 1, none⟩)) w := fieldA_i f_T_codec_Inode_1
theorem f_T_codec_Inode_2 : fldT P T_codec_Inode 2 = some 2 := by kernel_rfl
theorem fA_T_codec_Inode_2 (b o : Nat) (w : World) (K : Value → World → Prop) : wFieldA P T_codec_Inode (.pointer (some ⟨b, o, none⟩)) 2 w K = K (.pointer (some ⟨b, o + 2, none⟩)) w := fieldA_i f_T_codec_Inode_2
theorem f_T_codec_Inode_3 : fldT P T_codec_Inode 3 = some 3 := by kernel_rfl
theorem fA_T_codec_Inode_3 (b o : Nat) (w : World) (K : Value → World → Prop) : wFieldA P T_codec_Inode (.pointer (some ⟨b, o, none⟩)) 3 w K = K (.pointer (some ⟨b, o + 3, none⟩)) w := fieldA_i f_T_codec_Inode_3
theorem f_T_codec_Inode_4 : fldT P T_codec_Inode 4 = some 4 := by kernel_rfl
theorem fA_T_codec_Inode_4 (b o : Nat) (w : World) (K : Value → World → Prop) : wFieldA P T_codec_Inode (.pointer (some ⟨b, o, none⟩)) 4 w K = K (.pointer (some ⟨b, o + 4, none⟩)) w := fieldA_i f_T_codec_Inode_4
theorem f_T_codec_Inode_5 : fldT P T_codec_Inode 5 = some 5 := by kernel_rfl
theorem fA_T_codec_Inode_5 (b o : Nat) (w : World) (K : Value → World → Prop) : wFieldA P T_codec_Inode (.pointer (some ⟨b, o, none⟩)) 5 w K = K (.pointer (some ⟨b, o + 5, none⟩)) w := fieldA_i f_T_codec_Inode_5
theorem f_T_codec_Inode_6 : fldT P T_codec_Inode 6 = some 13 := by kernel_rfl
theorem fA_T_codec_Inode_6 (b o : Nat) (w : World) (K : Value → World → Prop) : wFieldA P T_codec_Inode (.pointer (some ⟨b, o, none⟩)) 6 w K = K (.pointer (some ⟨b, o + 13, none⟩)) w := fieldA_i f_T_codec_Inode_6
theorem f_T_codec_Inode_7 : fldT P T_codec_Inode 7 = some 14 := by kernel_rfl
theorem fA_T_codec_Inode_7 (b o : Nat) (w : World) (K : Value → World → Prop) : wFieldA P T_codec_Inode (.pointer (some ⟨b, o, none⟩)) 7 w K = K (.pointer (some ⟨b, o + 14, none⟩)) w := fieldA_i f_T_codec_Inode_7
theorem f_T_ref05_Header_0 : fldT P T_ref05_Header 0 = some 0 := by kernel_rfl
theorem fA_T_ref05_Header_0 (b o : Nat) (w : World) (K : Value → World → Prop) : wFieldA P T_ref05_Header (.pointer (some ⟨b, o, none⟩)) 0 w K = K (.pointer (some ⟨b, o, none⟩)) w := fieldA_i f_T_ref05_Header_0
theorem f_T_ref05_Header_1 : fldT P T_ref05_Header 1 = some 1 := by kernel_rfl
theorem fA_T_ref05_Header_1 (b o : Nat) (w : World) (K : Value → World → Prop) : wFieldA P T_ref05_Header (.pointer (some ⟨b, o, none⟩)) 1 w K = K (.pointer (some ⟨b, o + 1, none⟩)) w := fieldA_i f_T_ref05_Header_1
theorem f_T_ref05_Header_2 : fldT P T_ref05_Header 2 = some 2 := by kernel_rfl
theorem fA_T_ref05_Header_2 (b o : Nat) (w : World) (K : Value → World → Prop) : wFieldA P T_ref05_Header (.pointer (some ⟨b, o, none⟩)) 2 w K = K (.pointer (some ⟨b, o + 2, none⟩)) w := fieldA_i f_T_ref05_Header_2
theorem f_T_ref05_Header_3 : fldT P T_ref05_Header 3 = some 3 := by kernel_rfl
theorem fA_T_ref05_Header_3 (b o : Nat) (w : World) (K : Value → World → Prop) : wFieldA P T_ref05_Header (.pointer (some ⟨b, o, none⟩)) 3 w K = K (.pointer (some ⟨b, o + 3, none⟩)) w := fieldA_i f_T_ref05_Header_3
theorem f_T_ref05_Header_4 : fldT P T_ref05_Header 4 = some 4 := by kernel_rfl
theorem fA_T_ref05_Header_4 (b o : Nat) (w : World) (K : Value → World → Prop) : wFieldA P T_ref05_Header (.pointer (some ⟨b, o, none⟩)) 4 w K = K (.pointer (some ⟨b, o + 4, none⟩)) w := fieldA_i f_T_ref05_Header_4
theorem f_T_ref05_Header_5 : fldT P T_ref05_Header 5 = some 5 := by kernel_rfl
theorem fA_T_ref05_Header_5 (b o : Nat) (w : World) (K : Value → World → Prop) : wFieldA P T_ref05_Header (.pointer (some ⟨b, o, none⟩)) 5 w K = K (.pointer (some ⟨b, o + 5, none⟩)) w := fieldA_i f_T_ref05_Header_5
theorem f_T_codec_Header_0 : fldT P T_codec_Header 0 = some 0 := by kernel_rfl
theorem fA_T_codec_Header_0 (b o : Nat) (w : World) (K : Value → World → Prop) : wFieldA P T_codec_Header (.pointer (some ⟨b, o, none⟩)) 0 w K = K (.pointer (some ⟨b, o, none⟩)) w := fieldA_i f_T_codec_Header_0
theorem f_T_codec_Header_1 : fldT P T_codec_Header 1 = some 1 := by kernel_rfl
theorem fA_T_codec_Header_1 (b o : Nat) (w : World) (K : Value → World → Prop) : wFieldA P T_codec_Header (.pointer (some ⟨b, o, none⟩)) 1 w K = K (.pointer (some ⟨b, o + 1, none⟩)) w := fieldA_i f_T_codec_Header_1
theorem f_T_codec_Header_2 : fldT P T_codec_Header 2 = some 2 := by kernel_rfl
theorem fA_T_codec_Header_2 (b o : Nat) (w : World) (K : Value → World → Prop) : wFieldA P T_codec_Header (.pointer (some ⟨b, o, none⟩)) 2 w K = K (.pointer (some ⟨b, o + 2, none⟩)) w := fieldA_i f_T_codec_Header_2
theorem f_T_codec_Header_3 : fldT P T_codec_Header 3 = some 3 := by kernel_rfl
theorem fA_T_codec_Header_3 (b o : Nat) (w : World) (K : Value → World → Prop) : wFieldA P T_codec_Header (.pointer (some ⟨b, o, none⟩)) 3 w K = K (.pointer (some ⟨b, o + 3, none⟩)) w := fieldA_i f_T_codec_Header_3
theorem f_T_codec_Header_4 : fldT P T_codec_Header 4 = some 4 := by kernel_rfl
theorem fA_T_codec_Header_4 (b o : Nat) (w : World) (K : Value → World → Prop) : wFieldA P T_codec_Header (.pointer (some ⟨b, o, none⟩)) 4 w K = K (.pointer (some ⟨b, o + 4, none⟩)) w := fieldA_i f_T_codec_Header_4
theorem f_T_codec_Header_5 : fldT P T_codec_Header 5 = some 5 := by kernel_rfl
theorem fA_T_codec_Header_5 (b o : Nat) (w : World) (K : Value → World → Prop) : wFieldA P T_codec_Header (.pointer (some ⟨b, o, none⟩)) 5 w K = K (.pointer (some ⟨b, o + 5, none⟩)) w := fieldA_i f_T_codec_Header_5
theorem f_T_ref05_Record_0 : fldT P T_ref05_Record 0 = some 0 := by kernel_rfl
theorem fA_T_ref05_Record_0 (b o : Nat) (w : World) (K : Value → World → Prop) : wFieldA P T_ref05_Record (.pointer (some ⟨b, o, none⟩)) 0 w K = K (.pointer (some ⟨b, o, none⟩)) w := fieldA_i f_T_ref05_Record_0
theorem f_T_ref05_Record_1 : fldT P T_ref05_Record 1 = some 1 := by kernel_rfl
theorem fA_T_ref05_Record_1 (b o : Nat) (w : World) (K : Value → World → Prop) : wFieldA P T_ref05_Record (.pointer (some ⟨b, o, none⟩)) 1 w K = K (.pointer (some ⟨b, o + 1, none⟩)) w := fieldA_i f_T_ref05_Record_1
theorem f_T_ref05_Record_2 : fldT P T_ref05_Record 2 = some 2 := by kernel_rfl
theorem fA_T_ref05_Record_2 (b o : Nat) (w : World) (K : Value → World → Prop) : wFieldA P T_ref05_Record (.pointer (some ⟨b, o, none⟩)) 2 w K = K (.pointer (some ⟨b, o + 2, none⟩)) w := fieldA_i f_T_ref05_Record_2
theorem f_T_ref05_Record_3 : fldT P T_ref05_Record 3 = some 3 := by kernel_rfl
theorem fA_T_ref05_Record_3 (b o : Nat) (w : World) (K : Value → World → Prop) : wFieldA P T_ref05_Record (.pointer (some ⟨b, o, none⟩)) 3 w K = K (.pointer (some ⟨b, o + 3, none⟩)) w := fieldA_i f_T_ref05_Record_3
theorem f_T_codec_Record_0 : fldT P T_codec_Record 0 = some 0 := by kernel_rfl
theorem fA_T_codec_Record_0 (b o : Nat) (w : World) (K : Value → World → Prop) : wFieldA P T_codec_Record (.pointer (some ⟨b, o, none⟩)) 0 w K = K (.pointer (some ⟨b, o, none⟩)) w := fieldA_i f_T_codec_Record_0
theorem f_T_codec_Record_1 : fldT P T_codec_Record 1 = some 1 := by kernel_rfl
theorem fA_T_codec_Record_1 (b o : Nat) (w : World) (K : Value → World → Prop) : wFieldA P T_codec_Record (.pointer (some ⟨b, o, none⟩)) 1 w K = K (.pointer (some ⟨b, o + 1, none⟩)) w := fieldA_i f_T_codec_Record_1
theorem f_T_codec_Record_2 : fldT P T_codec_Record 2 = some 2 := by kernel_rfl
theorem fA_T_codec_Record_2 (b o : Nat) (w : World) (K : Value → World → Prop) : wFieldA P T_codec_Record (.pointer (some ⟨b, o, none⟩)) 2 w K = K (.pointer (some ⟨b, o + 2, none⟩)) w := fieldA_i f_T_codec_Record_2
theorem f_T_codec_Record_3 : fldT P T_codec_Record 3 = some 3 := by kernel_rfl
theorem fA_T_codec_Record_3 (b o : Nat) (w : World) (K : Value → World → Prop) : wFieldA P T_codec_Record (.pointer (some ⟨b, o, none⟩)) 3 w K = K (.pointer (some ⟨b, o + 3, none⟩)) w := fieldA_i f_T_codec_Record_3
theorem f_T_ref05_Summary_0 : fldT P T_ref05_Summary 0 = some 0 := by kernel_rfl
theorem fA_T_ref05_Summary_0 (b o : Nat) (w : World) (K : Value → World → Prop) : wFieldA P T_ref05_Summary (.pointer (some ⟨b, o, none⟩)) 0 w K = K (.pointer (some ⟨b, o, none⟩)) w := fieldA_i f_T_ref05_Summary_0
theorem f_T_ref05_Summary_1 : fldT P T_ref05_Summary 1 = some 1 := by kernel_rfl
theorem fA_T_ref05_Summary_1 (b o : Nat) (w : World) (K : Value → World → Prop) : wFieldA P T_ref05_Summary (.pointer (some ⟨b, o, none⟩)) 1 w K = K (.pointer (some ⟨b, o + 1, none⟩)) w := fieldA_i f_T_ref05_Summary_1
theorem f_T_ref05_Summary_2 : fldT P T_ref05_Summary 2 = some 2 := by kernel_rfl
theorem fA_T_ref05_Summary_2 (b o : Nat) (w : World) (K : Value → World → Prop) : wFieldA P T_ref05_Summary (.pointer (some ⟨b, o, none⟩)) 2 w K = K (.pointer (some ⟨b, o + 2, none⟩)) w := fieldA_i f_T_ref05_Summary_2
theorem f_T_ref05_Summary_3 : fldT P T_ref05_Summary 3 = some 3 := by kernel_rfl
theorem fA_T_ref05_Summary_3 (b o : Nat) (w : World) (K : Value → World → Prop) : wFieldA P T_ref05_Summary (.pointer (some ⟨b, o, none⟩)) 3 w K = K (.pointer (some ⟨b, o + 3, none⟩)) w := fieldA_i f_T_ref05_Summary_3
theorem f_T_ref05_Summary_4 : fldT P T_ref05_Summary 4 = some 4 := by kernel_rfl
theorem fA_T_ref05_Summary_4 (b o : Nat) (w : World) (K : Value → World → Prop) : wFieldA P T_ref05_Summary (.pointer (some ⟨b, o, none⟩)) 4 w K = K (.pointer (some ⟨b, o + 4, none⟩)) w := fieldA_i f_T_ref05_Summary_4
theorem f_T_ref05_Summary_5 : fldT P T_ref05_Summary 5 = some 5 := by kernel_rfl
theorem fA_T_ref05_Summary_5 (b o : Nat) (w : World) (K : Value → World → Prop) : wFieldA P T_ref05_Summary (.pointer (some ⟨b, o, none⟩)) 5 w K = K (.pointer (some ⟨b, o + 5, none⟩)) w := fieldA_i f_T_ref05_Summary_5
theorem f_T_codec_Summary_0 : fldT P T_codec_Summary 0 = some 0 := by kernel_rfl
theorem fA_T_codec_Summary_0 (b o : Nat) (w : World) (K : Value → World → Prop) : wFieldA P T_codec_Summary (.pointer (some ⟨b, o, none⟩)) 0 w K = K (.pointer (some ⟨b, o, none⟩)) w := fieldA_i f_T_codec_Summary_0
theorem f_T_codec_Summary_1 : fldT P T_codec_Summary 1 = some 1 := by kernel_rfl
theorem fA_T_codec_Summary_1 (b o : Nat) (w : World) (K : Value → World → Prop) : wFieldA P T_codec_Summary (.pointer (some ⟨b, o, none⟩)) 1 w K = K (.pointer (some ⟨b, o + 1, none⟩)) w := fieldA_i f_T_codec_Summary_1
theorem f_T_codec_Summary_2 : fldT P T_codec_Summary 2 = some 2 := by kernel_rfl
theorem fA_T_codec_Summary_2 (b o : Nat) (w : World) (K : Value → World → Prop) : wFieldA P T_codec_Summary (.pointer (some ⟨b, o, none⟩)) 2 w K = K (.pointer (some ⟨b, o + 2, none⟩)) w := fieldA_i f_T_codec_Summary_2
theorem f_T_codec_Summary_3 : fldT P T_codec_Summary 3 = some 3 := by kernel_rfl
theorem fA_T_codec_Summary_3 (b o : Nat) (w : World) (K : Value → World → Prop) : wFieldA P T_codec_Summary (.pointer (some ⟨b, o, none⟩)) 3 w K = K (.pointer (some ⟨b, o + 3, none⟩)) w := fieldA_i f_T_codec_Summary_3
theorem f_T_codec_Summary_4 : fldT P T_codec_Summary 4 = some 4 := by kernel_rfl
theorem fA_T_codec_Summary_4 (b o : Nat) (w : World) (K : Value → World → Prop) : wFieldA P T_codec_Summary (.pointer (some ⟨b, o, none⟩)) 4 w K = K (.pointer (some ⟨b, o + 4, none⟩)) w := fieldA_i f_T_codec_Summary_4
theorem f_T_codec_Summary_5 : fldT P T_codec_Summary 5 = some 5 := by kernel_rfl
theorem fA_T_codec_Summary_5 (b o : Nat) (w : World) (K : Value → World → Prop) : wFieldA P T_codec_Summary (.pointer (some ⟨b, o, none⟩)) 5 w K = K (.pointer (some ⟨b, o + 5, none⟩)) w := fieldA_i f_T_codec_Summary_5
theorem f_T_ref09_Table_0 : fldT P T_ref09_Table 0 = some 0 := by kernel_rfl
theorem fA_T_ref09_Table_0 (b o : Nat) (w : World) (K : Value → World → Prop) : wFieldA P T_ref09_Table (.pointer (some ⟨b, o, none⟩)) 0 w K = K (.pointer (some ⟨b, o, none⟩)) w := fieldA_i f_T_ref09_Table_0
theorem f_T_ref09_Table_1 : fldT P T_ref09_Table 1 = some 1 := by kernel_rfl
theorem fA_T_ref09_Table_1 (b o : Nat) (w : World) (K : Value → World → Prop) : wFieldA P T_ref09_Table (.pointer (some ⟨b, o, none⟩)) 1 w K = K (.pointer (some ⟨b, o + 1, none⟩)) w := fieldA_i f_T_ref09_Table_1
theorem f_T_law09_Act_0 : fldT P T_law09_Act 0 = some 0 := by kernel_rfl
theorem fA_T_law09_Act_0 (b o : Nat) (w : World) (K : Value → World → Prop) : wFieldA P T_law09_Act (.pointer (some ⟨b, o, none⟩)) 0 w K = K (.pointer (some ⟨b, o, none⟩)) w := fieldA_i f_T_law09_Act_0
theorem f_T_law09_Act_1 : fldT P T_law09_Act 1 = some 1 := by kernel_rfl
theorem fA_T_law09_Act_1 (b o : Nat) (w : World) (K : Value → World → Prop) : wFieldA P T_law09_Act (.pointer (some ⟨b, o, none⟩)) 1 w K = K (.pointer (some ⟨b, o + 1, none⟩)) w := fieldA_i f_T_law09_Act_1
theorem f_T_law09_Act_2 : fldT P T_law09_Act 2 = some 2 := by kernel_rfl
theorem fA_T_law09_Act_2 (b o : Nat) (w : World) (K : Value → World → Prop) : wFieldA P T_law09_Act (.pointer (some ⟨b, o, none⟩)) 2 w K = K (.pointer (some ⟨b, o + 2, none⟩)) w := fieldA_i f_T_law09_Act_2
theorem f_T_law09_Act_3 : fldT P T_law09_Act 3 = some 3 := by kernel_rfl
theorem fA_T_law09_Act_3 (b o : Nat) (w : World) (K : Value → World → Prop) : wFieldA P T_law09_Act (.pointer (some ⟨b, o, none⟩)) 3 w K = K (.pointer (some ⟨b, o + 3, none⟩)) w := fieldA_i f_T_law09_Act_3
theorem f_T_ref04_Geom_0 : fldT P T_ref04_Geom 0 = some 0 := by kernel_rfl
theorem fA_T_ref04_Geom_0 (b o : Nat) (w : World) (K : Value → World → Prop) : wFieldA P T_ref04_Geom (.pointer (some ⟨b, o, none⟩)) 0 w K = K (.pointer (some ⟨b, o, none⟩)) w := fieldA_i f_T_ref04_Geom_0
theorem f_T_ref04_Geom_1 : fldT P T_ref04_Geom 1 = some 1 := by kernel_rfl
theorem fA_T_ref04_Geom_1 (b o : Nat) (w : World) (K : Value → World → Prop) : wFieldA P T_ref04_Geom (.pointer (some ⟨b, o, none⟩)) 1 w K = K (.pointer (some ⟨b, o + 1, none⟩)) w := fieldA_i f_T_ref04_Geom_1
theorem f_T_ref04_Geom_2 : fldT P T_ref04_Geom 2 = some 2 := by kernel_rfl
theorem fA_T_ref04_Geom_2 (b o : Nat) (w : World) (K : Value → World → Prop) : wFieldA P T_ref04_Geom (.pointer (some ⟨b, o, none⟩)) 2 w K = K (.pointer (some ⟨b, o + 2, none⟩)) w := fieldA_i f_T_ref04_Geom_2
theorem f_T_ref11_Place_0 : fldT P T_ref11_Place 0 = some 0 := by kernel_rfl
theorem fA_T_ref11_Place_0 (b o : Nat) (w : World) (K : Value → World → Prop) : wFieldA P T_ref11_Place (.pointer (some ⟨b, o, none⟩)) 0 w K = K (.pointer (some ⟨b, o, none⟩)) w := fieldA_i f_T_ref11_Place_0
theorem f_T_ref11_Place_1 : fldT P T_ref11_Place 1 = some 1 := by kernel_rfl
theorem fA_T_ref11_Place_1 (b o : Nat) (w : World) (K : Value → World → Prop) : wFieldA P T_ref11_Place (.pointer (some ⟨b, o, none⟩)) 1 w K = K (.pointer (some ⟨b, o + 1, none⟩)) w := fieldA_i f_T_ref11_Place_1
theorem f_T_ref11_Place_2 : fldT P T_ref11_Place 2 = some 2 := by kernel_rfl
theorem fA_T_ref11_Place_2 (b o : Nat) (w : World) (K : Value → World → Prop) : wFieldA P T_ref11_Place (.pointer (some ⟨b, o, none⟩)) 2 w K = K (.pointer (some ⟨b, o + 2, none⟩)) w := fieldA_i f_T_ref11_Place_2
theorem f_T_ref11_Place_3 : fldT P T_ref11_Place 3 = some 3 := by kernel_rfl
theorem fA_T_ref11_Place_3 (b o : Nat) (w : World) (K : Value → World → Prop) : wFieldA P T_ref11_Place (.pointer (some ⟨b, o, none⟩)) 3 w K = K (.pointer (some ⟨b, o + 3, none⟩)) w := fieldA_i f_T_ref11_Place_3
theorem f_T_slog_Place_0 : fldT P T_slog_Place 0 = some 0 := by kernel_rfl
theorem fA_T_slog_Place_0 (b o : Nat) (w : World) (K : Value → World → Prop) : wFieldA P T_slog_Place (.pointer (some ⟨b, o, none⟩)) 0 w K = K (.pointer (some ⟨b, o, none⟩)) w := fieldA_i f_T_slog_Place_0
theorem f_T_slog_Place_1 : fldT P T_slog_Place 1 = some 1 := by kernel_rfl
theorem fA_T_slog_Place_1 (b o : Nat) (w : World) (K : Value → World → Prop) : wFieldA P T_slog_Place (.pointer (some ⟨b, o, none⟩)) 1 w K = K (.pointer (some ⟨b, o + 1, none⟩)) w := fieldA_i f_T_slog_Place_1
theorem f_T_slog_Place_2 : fldT P T_slog_Place 2 = some 2 := by kernel_rfl
theorem fA_T_slog_Place_2 (b o : Nat) (w : World) (K : Value → World → Prop) : wFieldA P T_slog_Place (.pointer (some ⟨b, o, none⟩)) 2 w K = K (.pointer (some ⟨b, o + 2, none⟩)) w := fieldA_i f_T_slog_Place_2
theorem f_T_slog_Place_3 : fldT P T_slog_Place 3 = some 3 := by kernel_rfl
theorem fA_T_slog_Place_3 (b o : Nat) (w : World) (K : Value → World → Prop) : wFieldA P T_slog_Place (.pointer (some ⟨b, o, none⟩)) 3 w K = K (.pointer (some ⟨b, o + 3, none⟩)) w := fieldA_i f_T_slog_Place_3
theorem f_T_slog_Layout_0 : fldT P T_slog_Layout 0 = some 0 := by kernel_rfl
theorem fA_T_slog_Layout_0 (b o : Nat) (w : World) (K : Value → World → Prop) : wFieldA P T_slog_Layout (.pointer (some ⟨b, o, none⟩)) 0 w K = K (.pointer (some ⟨b, o, none⟩)) w := fieldA_i f_T_slog_Layout_0
theorem f_T_slog_Layout_1 : fldT P T_slog_Layout 1 = some 1 := by kernel_rfl
theorem fA_T_slog_Layout_1 (b o : Nat) (w : World) (K : Value → World → Prop) : wFieldA P T_slog_Layout (.pointer (some ⟨b, o, none⟩)) 1 w K = K (.pointer (some ⟨b, o + 1, none⟩)) w := fieldA_i f_T_slog_Layout_1
theorem f_T_slog_Layout_2 : fldT P T_slog_Layout 2 = some 5 := by kernel_rfl
theorem fA_T_slog_Layout_2 (b o : Nat) (w : World) (K : Value → World → Prop) : wFieldA P T_slog_Layout (.pointer (some ⟨b, o, none⟩)) 2 w K = K (.pointer (some ⟨b, o + 5, none⟩)) w := fieldA_i f_T_slog_Layout_2
theorem f_T_geom_Geom_0 : fldT P T_geom_Geom 0 = some 0 := by kernel_rfl
theorem fA_T_geom_Geom_0 (b o : Nat) (w : World) (K : Value → World → Prop) : wFieldA P T_geom_Geom (.pointer (some ⟨b, o, none⟩)) 0 w K = K (.pointer (some ⟨b, o, none⟩)) w := fieldA_i f_T_geom_Geom_0
theorem f_T_geom_Geom_1 : fldT P T_geom_Geom 1 = some 1 := by kernel_rfl
theorem fA_T_geom_Geom_1 (b o : Nat) (w : World) (K : Value → World → Prop) : wFieldA P T_geom_Geom (.pointer (some ⟨b, o, none⟩)) 1 w K = K (.pointer (some ⟨b, o + 1, none⟩)) w := fieldA_i f_T_geom_Geom_1
theorem f_T_geom_Geom_2 : fldT P T_geom_Geom 2 = some 2 := by kernel_rfl
theorem fA_T_geom_Geom_2 (b o : Nat) (w : World) (K : Value → World → Prop) : wFieldA P T_geom_Geom (.pointer (some ⟨b, o, none⟩)) 2 w K = K (.pointer (some ⟨b, o + 2, none⟩)) w := fieldA_i f_T_geom_Geom_2
theorem f_T_ref05_Entry_0 : fldT P T_ref05_Entry 0 = some 0 := by kernel_rfl
theorem fA_T_ref05_Entry_0 (b o : Nat) (w : World) (K : Value → World → Prop) : wFieldA P T_ref05_Entry (.pointer (some ⟨b, o, none⟩)) 0 w K = K (.pointer (some ⟨b, o, none⟩)) w := fieldA_i f_T_ref05_Entry_0
theorem f_T_ref05_Entry_1 : fldT P T_ref05_Entry 1 = some 1 := by kernel_rfl
theorem fA_T_ref05_Entry_1 (b o : Nat) (w : World) (K : Value → World → Prop) : wFieldA P T_ref05_Entry (.pointer (some ⟨b, o, none⟩)) 1 w K = K (.pointer (some ⟨b, o + 1, none⟩)) w := fieldA_i f_T_ref05_Entry_1
theorem f_T_ref05_Entry_2 : fldT P T_ref05_Entry 2 = some 2 := by kernel_rfl
theorem fA_T_ref05_Entry_2 (b o : Nat) (w : World) (K : Value → World → Prop) : wFieldA P T_ref05_Entry (.pointer (some ⟨b, o, none⟩)) 2 w K = K (.pointer (some ⟨b, o + 2, none⟩)) w := fieldA_i f_T_ref05_Entry_2
theorem f_T_ref05_Entry_3 : fldT P T_ref05_Entry 3 = some 3 := by kernel_rfl
theorem fA_T_ref05_Entry_3 (b o : Nat) (w : World) (K : Value → World → Prop) : wFieldA P T_ref05_Entry (.pointer (some ⟨b, o, none⟩)) 3 w K = K (.pointer (some ⟨b, o + 3, none⟩)) w := fieldA_i f_T_ref05_Entry_3
theorem f_T_ref11_Item_0 : fldT P T_ref11_Item 0 = some 0 := by kernel_rfl
theorem fA_T_ref11_Item_0 (b o : Nat) (w : World) (K : Value → World → Prop) : wFieldA P T_ref11_Item (.pointer (some ⟨b, o, none⟩)) 0 w K = K (.pointer (some ⟨b, o, none⟩)) w := fieldA_i f_T_ref11_Item_0
theorem f_T_ref11_Item_1 : fldT P T_ref11_Item 1 = some 4 := by kernel_rfl
theorem fA_T_ref11_Item_1 (b o : Nat) (w : World) (K : Value → World → Prop) : wFieldA P T_ref11_Item (.pointer (some ⟨b, o, none⟩)) 1 w K = K (.pointer (some ⟨b, o + 4, none⟩)) w := fieldA_i f_T_ref11_Item_1
theorem f_T_slog_Batch_0 : fldT P T_slog_Batch 0 = some 0 := by kernel_rfl
theorem fA_T_slog_Batch_0 (b o : Nat) (w : World) (K : Value → World → Prop) : wFieldA P T_slog_Batch (.pointer (some ⟨b, o, none⟩)) 0 w K = K (.pointer (some ⟨b, o, none⟩)) w := fieldA_i f_T_slog_Batch_0
theorem f_T_slog_Batch_1 : fldT P T_slog_Batch 1 = some 1 := by kernel_rfl
theorem fA_T_slog_Batch_1 (b o : Nat) (w : World) (K : Value → World → Prop) : wFieldA P T_slog_Batch (.pointer (some ⟨b, o, none⟩)) 1 w K = K (.pointer (some ⟨b, o + 1, none⟩)) w := fieldA_i f_T_slog_Batch_1
theorem f_T_slog_Batch_2 : fldT P T_slog_Batch 2 = some 2 := by kernel_rfl
theorem fA_T_slog_Batch_2 (b o : Nat) (w : World) (K : Value → World → Prop) : wFieldA P T_slog_Batch (.pointer (some ⟨b, o, none⟩)) 2 w K = K (.pointer (some ⟨b, o + 2, none⟩)) w := fieldA_i f_T_slog_Batch_2
theorem f_T_slog_Batch_3 : fldT P T_slog_Batch 3 = some 3 := by kernel_rfl
theorem fA_T_slog_Batch_3 (b o : Nat) (w : World) (K : Value → World → Prop) : wFieldA P T_slog_Batch (.pointer (some ⟨b, o, none⟩)) 3 w K = K (.pointer (some ⟨b, o + 3, none⟩)) w := fieldA_i f_T_slog_Batch_3
theorem f_T_law11_Step_0 : fldT P T_law11_Step 0 = some 0 := by kernel_rfl
theorem fA_T_law11_Step_0 (b o : Nat) (w : World) (K : Value → World → Prop) : wFieldA P T_law11_Step (.pointer (some ⟨b, o, none⟩)) 0 w K = K (.pointer (some ⟨b, o, none⟩)) w := fieldA_i f_T_law11_Step_0
theorem f_T_law11_Step_1 : fldT P T_law11_Step 1 = some 1 := by kernel_rfl
theorem fA_T_law11_Step_1 (b o : Nat) (w : World) (K : Value → World → Prop) : wFieldA P T_law11_Step (.pointer (some ⟨b, o, none⟩)) 1 w K = K (.pointer (some ⟨b, o + 1, none⟩)) w := fieldA_i f_T_law11_Step_1
theorem f_T_law11_Step_2 : fldT P T_law11_Step 2 = some 2 := by kernel_rfl
theorem fA_T_law11_Step_2 (b o : Nat) (w : World) (K : Value → World → Prop) : wFieldA P T_law11_Step (.pointer (some ⟨b, o, none⟩)) 2 w K = K (.pointer (some ⟨b, o + 2, none⟩)) w := fieldA_i f_T_law11_Step_2
theorem f_T_law11_Step_3 : fldT P T_law11_Step 3 = some 3 := by kernel_rfl
theorem fA_T_law11_Step_3 (b o : Nat) (w : World) (K : Value → World → Prop) : wFieldA P T_law11_Step (.pointer (some ⟨b, o, none⟩)) 3 w K = K (.pointer (some ⟨b, o + 3, none⟩)) w := fieldA_i f_T_law11_Step_3
theorem f_T_law11_Step_4 : fldT P T_law11_Step 4 = some 4 := by kernel_rfl
theorem fA_T_law11_Step_4 (b o : Nat) (w : World) (K : Value → World → Prop) : wFieldA P T_law11_Step (.pointer (some ⟨b, o, none⟩)) 4 w K = K (.pointer (some ⟨b, o + 4, none⟩)) w := fieldA_i f_T_law11_Step_4
theorem f_T_codec_Entry_0 : fldT P T_codec_Entry 0 = some 0 := by kernel_rfl
theorem fA_T_codec_Entry_0 (b o : Nat) (w : World) (K : Value → World → Prop) : wFieldA P T_codec_Entry (.pointer (some ⟨b, o, none⟩)) 0 w K = K (.pointer (some ⟨b, o, none⟩)) w := fieldA_i f_T_codec_Entry_0
theorem f_T_codec_Entry_1 : fldT P T_codec_Entry 1 = some 1 := by kernel_rfl
theorem fA_T_codec_Entry_1 (b o : Nat) (w : World) (K : Value → World → Prop) : wFieldA P T_codec_Entry (.pointer (some ⟨b, o, none⟩)) 1 w K = K (.pointer (some ⟨b, o + 1, none⟩)) w := fieldA_i f_T_codec_Entry_1
theorem f_T_codec_Entry_2 : fldT P T_codec_Entry 2 = some 2 := by kernel_rfl
theorem fA_T_codec_Entry_2 (b o : Nat) (w : World) (K : Value → World → Prop) : wFieldA P T_codec_Entry (.pointer (some ⟨b, o, none⟩)) 2 w K = K (.pointer (some ⟨b, o + 2, none⟩)) w := fieldA_i f_T_codec_Entry_2
theorem f_T_codec_Entry_3 : fldT P T_codec_Entry 3 = some 3 := by kernel_rfl
theorem fA_T_codec_Entry_3 (b o : Nat) (w : World) (K : Value → World → Prop) : wFieldA P T_codec_Entry (.pointer (some ⟨b, o, none⟩)) 3 w K = K (.pointer (some ⟨b, o + 3, none⟩)) w := fieldA_i f_T_codec_Entry_3
theorem f_T_slog_Found_0 : fldT P T_slog_Found 0 = some 0 := by kernel_rfl
theorem fA_T_slog_Found_0 (b o : Nat) (w : World) (K : Value → World → Prop) : wFieldA P T_slog_Found (.pointer (some ⟨b, o, none⟩)) 0 w K = K (.pointer (some ⟨b, o, none⟩)) w := fieldA_i f_T_slog_Found_0
theorem f_T_slog_Found_1 : fldT P T_slog_Found 1 = some 4 := by kernel_rfl
theorem fA_T_slog_Found_1 (b o : Nat) (w : World) (K : Value → World → Prop) : wFieldA P T_slog_Found (.pointer (some ⟨b, o, none⟩)) 1 w K = K (.pointer (some ⟨b, o + 4, none⟩)) w := fieldA_i f_T_slog_Found_1
theorem f_T_disk_state_0 : fldT P T_disk_state 0 = some 0 := by kernel_rfl
theorem fA_T_disk_state_0 (b o : Nat) (w : World) (K : Value → World → Prop) : wFieldA P T_disk_state (.pointer (some ⟨b, o, none⟩)) 0 w K = K (.pointer (some ⟨b, o, none⟩)) w := fieldA_i f_T_disk_state_0
theorem f_T_disk_state_1 : fldT P T_disk_state 1 = some 1 := by kernel_rfl
theorem fA_T_disk_state_1 (b o : Nat) (w : World) (K : Value → World → Prop) : wFieldA P T_disk_state (.pointer (some ⟨b, o, none⟩)) 1 w K = K (.pointer (some ⟨b, o + 1, none⟩)) w := fieldA_i f_T_disk_state_1
theorem f_T_disk_Disk_0 : fldT P T_disk_Disk 0 = some 0 := by kernel_rfl
theorem fA_T_disk_Disk_0 (b o : Nat) (w : World) (K : Value → World → Prop) : wFieldA P T_disk_Disk (.pointer (some ⟨b, o, none⟩)) 0 w K = K (.pointer (some ⟨b, o, none⟩)) w := fieldA_i f_T_disk_Disk_0
theorem f_T_disk_Disk_1 : fldT P T_disk_Disk 1 = some 2 := by kernel_rfl
theorem fA_T_disk_Disk_1 (b o : Nat) (w : World) (K : Value → World → Prop) : wFieldA P T_disk_Disk (.pointer (some ⟨b, o, none⟩)) 1 w K = K (.pointer (some ⟨b, o + 2, none⟩)) w := fieldA_i f_T_disk_Disk_1
theorem f_T_disk_Disk_2 : fldT P T_disk_Disk 2 = some 3 := by kernel_rfl
theorem fA_T_disk_Disk_2 (b o : Nat) (w : World) (K : Value → World → Prop) : wFieldA P T_disk_Disk (.pointer (some ⟨b, o, none⟩)) 2 w K = K (.pointer (some ⟨b, o + 3, none⟩)) w := fieldA_i f_T_disk_Disk_2
theorem f_T_disk_Disk_3 : fldT P T_disk_Disk 3 = some 4 := by kernel_rfl
theorem fA_T_disk_Disk_3 (b o : Nat) (w : World) (K : Value → World → Prop) : wFieldA P T_disk_Disk (.pointer (some ⟨b, o, none⟩)) 3 w K = K (.pointer (some ⟨b, o + 4, none⟩)) w := fieldA_i f_T_disk_Disk_3
theorem f_T_disk_write_0 : fldT P T_disk_write 0 = some 0 := by kernel_rfl
theorem fA_T_disk_write_0 (b o : Nat) (w : World) (K : Value → World → Prop) : wFieldA P T_disk_write (.pointer (some ⟨b, o, none⟩)) 0 w K = K (.pointer (some ⟨b, o, none⟩)) w := fieldA_i f_T_disk_write_0
theorem f_T_disk_write_1 : fldT P T_disk_write 1 = some 1 := by kernel_rfl
theorem fA_T_disk_write_1 (b o : Nat) (w : World) (K : Value → World → Prop) : wFieldA P T_disk_write (.pointer (some ⟨b, o, none⟩)) 1 w K = K (.pointer (some ⟨b, o + 1, none⟩)) w := fieldA_i f_T_disk_write_1
theorem f_T_imap_Map_0 : fldT P T_imap_Map 0 = some 0 := by kernel_rfl
theorem fA_T_imap_Map_0 (b o : Nat) (w : World) (K : Value → World → Prop) : wFieldA P T_imap_Map (.pointer (some ⟨b, o, none⟩)) 0 w K = K (.pointer (some ⟨b, o, none⟩)) w := fieldA_i f_T_imap_Map_0
theorem f_T_usage_Table_0 : fldT P T_usage_Table 0 = some 0 := by kernel_rfl
theorem fA_T_usage_Table_0 (b o : Nat) (w : World) (K : Value → World → Prop) : wFieldA P T_usage_Table (.pointer (some ⟨b, o, none⟩)) 0 w K = K (.pointer (some ⟨b, o, none⟩)) w := fieldA_i f_T_usage_Table_0
theorem f_T_usage_Table_1 : fldT P T_usage_Table 1 = some 1 := by kernel_rfl
theorem fA_T_usage_Table_1 (b o : Nat) (w : World) (K : Value → World → Prop) : wFieldA P T_usage_Table (.pointer (some ⟨b, o, none⟩)) 1 w K = K (.pointer (some ⟨b, o + 1, none⟩)) w := fieldA_i f_T_usage_Table_1
theorem f_T_num_Writer_0 : fldT P T_num_Writer 0 = some 0 := by kernel_rfl
theorem fA_T_num_Writer_0 (b o : Nat) (w : World) (K : Value → World → Prop) : wFieldA P T_num_Writer (.pointer (some ⟨b, o, none⟩)) 0 w K = K (.pointer (some ⟨b, o, none⟩)) w := fieldA_i f_T_num_Writer_0
theorem f_T_num_Writer_1 : fldT P T_num_Writer 1 = some 128 := by kernel_rfl
theorem fA_T_num_Writer_1 (b o : Nat) (w : World) (K : Value → World → Prop) : wFieldA P T_num_Writer (.pointer (some ⟨b, o, none⟩)) 1 w K = K (.pointer (some ⟨b, o + 128, none⟩)) w := fieldA_i f_T_num_Writer_1
theorem f_T_num_Writer_2 : fldT P T_num_Writer 2 = some 129 := by kernel_rfl
theorem fA_T_num_Writer_2 (b o : Nat) (w : World) (K : Value → World → Prop) : wFieldA P T_num_Writer (.pointer (some ⟨b, o, none⟩)) 2 w K = K (.pointer (some ⟨b, o + 129, none⟩)) w := fieldA_i f_T_num_Writer_2
theorem f_T_ref05_Field_0 : fldT P T_ref05_Field 0 = some 0 := by kernel_rfl
theorem fA_T_ref05_Field_0 (b o : Nat) (w : World) (K : Value → World → Prop) : wFieldA P T_ref05_Field (.pointer (some ⟨b, o, none⟩)) 0 w K = K (.pointer (some ⟨b, o, none⟩)) w := fieldA_i f_T_ref05_Field_0
theorem f_T_ref05_Field_1 : fldT P T_ref05_Field 1 = some 1 := by kernel_rfl
theorem fA_T_ref05_Field_1 (b o : Nat) (w : World) (K : Value → World → Prop) : wFieldA P T_ref05_Field (.pointer (some ⟨b, o, none⟩)) 1 w K = K (.pointer (some ⟨b, o + 1, none⟩)) w := fieldA_i f_T_ref05_Field_1
theorem f_T_slog_Item_0 : fldT P T_slog_Item 0 = some 0 := by kernel_rfl
theorem fA_T_slog_Item_0 (b o : Nat) (w : World) (K : Value → World → Prop) : wFieldA P T_slog_Item (.pointer (some ⟨b, o, none⟩)) 0 w K = K (.pointer (some ⟨b, o, none⟩)) w := fieldA_i f_T_slog_Item_0
theorem f_T_slog_Item_1 : fldT P T_slog_Item 1 = some 4 := by kernel_rfl
theorem fA_T_slog_Item_1 (b o : Nat) (w : World) (K : Value → World → Prop) : wFieldA P T_slog_Item (.pointer (some ⟨b, o, none⟩)) 1 w K = K (.pointer (some ⟨b, o + 4, none⟩)) w := fieldA_i f_T_slog_Item_1
theorem f_T_slog_writer_0 : fldT P T_slog_writer 0 = some 0 := by kernel_rfl
theorem fA_T_slog_writer_0 (b o : Nat) (w : World) (K : Value → World → Prop) : wFieldA P T_slog_writer (.pointer (some ⟨b, o, none⟩)) 0 w K = K (.pointer (some ⟨b, o, none⟩)) w := fieldA_i f_T_slog_writer_0
theorem f_T_slog_writer_1 : fldT P T_slog_writer 1 = some 1 := by kernel_rfl
theorem fA_T_slog_writer_1 (b o : Nat) (w : World) (K : Value → World → Prop) : wFieldA P T_slog_writer (.pointer (some ⟨b, o, none⟩)) 1 w K = K (.pointer (some ⟨b, o + 1, none⟩)) w := fieldA_i f_T_slog_writer_1
theorem f_T_slog_group_0 : fldT P T_slog_group 0 = some 0 := by kernel_rfl
theorem fA_T_slog_group_0 (b o : Nat) (w : World) (K : Value → World → Prop) : wFieldA P T_slog_group (.pointer (some ⟨b, o, none⟩)) 0 w K = K (.pointer (some ⟨b, o, none⟩)) w := fieldA_i f_T_slog_group_0
theorem f_T_slog_group_1 : fldT P T_slog_group 1 = some 1 := by kernel_rfl
theorem fA_T_slog_group_1 (b o : Nat) (w : World) (K : Value → World → Prop) : wFieldA P T_slog_group (.pointer (some ⟨b, o, none⟩)) 1 w K = K (.pointer (some ⟨b, o + 1, none⟩)) w := fieldA_i f_T_slog_group_1
theorem f_T_slog_group_2 : fldT P T_slog_group 2 = some 129 := by kernel_rfl
theorem fA_T_slog_group_2 (b o : Nat) (w : World) (K : Value → World → Prop) : wFieldA P T_slog_group (.pointer (some ⟨b, o, none⟩)) 2 w K = K (.pointer (some ⟨b, o + 129, none⟩)) w := fieldA_i f_T_slog_group_2
theorem f_T_slog_group_3 : fldT P T_slog_group 3 = some 130 := by kernel_rfl
theorem fA_T_slog_group_3 (b o : Nat) (w : World) (K : Value → World → Prop) : wFieldA P T_slog_group (.pointer (some ⟨b, o, none⟩)) 3 w K = K (.pointer (some ⟨b, o + 130, none⟩)) w := fieldA_i f_T_slog_group_3
theorem f_T_codec_writer_0 : fldT P T_codec_writer 0 = some 0 := by kernel_rfl
theorem fA_T_codec_writer_0 (b o : Nat) (w : World) (K : Value → World → Prop) : wFieldA P T_codec_writer (.pointer (some ⟨b, o, none⟩)) 0 w K = K (.pointer (some ⟨b, o, none⟩)) w := fieldA_i f_T_codec_writer_0
theorem f_T_codec_writer_1 : fldT P T_codec_writer 1 = some 1 := by kernel_rfl
theorem fA_T_codec_writer_1 (b o : Nat) (w : World) (K : Value → World → Prop) : wFieldA P T_codec_writer (.pointer (some ⟨b, o, none⟩)) 1 w K = K (.pointer (some ⟨b, o + 1, none⟩)) w := fieldA_i f_T_codec_writer_1
theorem f_T_codec_reader_0 : fldT P T_codec_reader 0 = some 0 := by kernel_rfl
theorem fA_T_codec_reader_0 (b o : Nat) (w : World) (K : Value → World → Prop) : wFieldA P T_codec_reader (.pointer (some ⟨b, o, none⟩)) 0 w K = K (.pointer (some ⟨b, o, none⟩)) w := fieldA_i f_T_codec_reader_0
theorem f_T_codec_reader_1 : fldT P T_codec_reader 1 = some 1 := by kernel_rfl
theorem fA_T_codec_reader_1 (b o : Nat) (w : World) (K : Value → World → Prop) : wFieldA P T_codec_reader (.pointer (some ⟨b, o, none⟩)) 1 w K = K (.pointer (some ⟨b, o + 1, none⟩)) w := fieldA_i f_T_codec_reader_1
theorem f_T_codec_reader_2 : fldT P T_codec_reader 2 = some 2 := by kernel_rfl
theorem fA_T_codec_reader_2 (b o : Nat) (w : World) (K : Value → World → Prop) : wFieldA P T_codec_reader (.pointer (some ⟨b, o, none⟩)) 2 w K = K (.pointer (some ⟨b, o + 2, none⟩)) w := fieldA_i f_T_codec_reader_2
theorem f_T_num_Reader_0 : fldT P T_num_Reader 0 = some 0 := by kernel_rfl
theorem fA_T_num_Reader_0 (b o : Nat) (w : World) (K : Value → World → Prop) : wFieldA P T_num_Reader (.pointer (some ⟨b, o, none⟩)) 0 w K = K (.pointer (some ⟨b, o, none⟩)) w := fieldA_i f_T_num_Reader_0
theorem f_T_num_Reader_1 : fldT P T_num_Reader 1 = some 128 := by kernel_rfl
theorem fA_T_num_Reader_1 (b o : Nat) (w : World) (K : Value → World → Prop) : wFieldA P T_num_Reader (.pointer (some ⟨b, o, none⟩)) 1 w K = K (.pointer (some ⟨b, o + 128, none⟩)) w := fieldA_i f_T_num_Reader_1
theorem f_T_num_Reader_2 : fldT P T_num_Reader 2 = some 129 := by kernel_rfl
theorem fA_T_num_Reader_2 (b o : Nat) (w : World) (K : Value → World → Prop) : wFieldA P T_num_Reader (.pointer (some ⟨b, o, none⟩)) 2 w K = K (.pointer (some ⟨b, o + 129, none⟩)) w := fieldA_i f_T_num_Reader_2
theorem bl_T_ref03_Disk {ps : List (Nat × Value)} {cs : List Value} {w : World} {K : Value → World → Prop} (hf : Instr.fill ((#[(0, 1), (1, 1), (2, 1), (3, 1), (4, 1)] : Array (Nat × Nat))[·]?) ⟨[.slice none 0 0, .slice none 0 0, .bool false, .int .i64 0, .int .i64 0]⟩ ps = some ⟨cs⟩) : wBuild P T_ref03_Disk ps w K = K (.agg ⟨cs⟩) w :=
  build_s (places := #[(0, 1), (1, 1), (2, 1), (3, 1), (4, 1)]) (show P.underlying T_ref03_Disk = some (.struct (P.fieldsOf T_ref03_Disk)) by kernel_rfl) z_T_ref03_Disk (fun _ => by kernel_rfl) hf
theorem bl_T_A128uint8 {ps : List (Nat × Value)} {cs : List Value} {w : World} {K : Value → World → Prop} (hf : Instr.fill (fun i => some (i * 1, 1)) ⟨List.replicate 128 (.int .u8 0)⟩ ps = some ⟨cs⟩) : wBuild P T_A128uint8 ps w K = K (.agg ⟨cs⟩) w :=
  build_a v_T_A128uint8 z_T_A128uint8 (sizeOf_one o_T_uint8) hf
theorem bl_T_ref03_Write {ps : List (Nat × Value)} {cs : List Value} {w : World} {K : Value → World → Prop} (hf : Instr.fill ((#[(0, 1), (1, 128)] : Array (Nat × Nat))[·]?) ⟨[.int .i64 0] ++ List.replicate 128 (.int .u8 0)⟩ ps = some ⟨cs⟩) : wBuild P T_ref03_Write ps w K = K (.agg ⟨cs⟩) w :=
  build_s (places := #[(0, 1), (1, 128)]) (show P.underlying T_ref03_Write = some (.struct (P.fieldsOf T_ref03_Write)) by kernel_rfl) z_T_ref03_Write (fun _ => by kernel_rfl) hf
theorem bl_T_ref05_Use {ps : List (Nat × Value)} {cs : List Value} {w : World} {K : Value → World → Prop} (hf : Instr.fill ((#[(0, 1), (1, 1), (2, 1)] : Array (Nat × Nat))[·]?) ⟨[.int .i64 0, .int .i64 0, .int .u32 0]⟩ ps = some ⟨cs⟩) : wBuild P T_ref05_Use ps w K = K (.agg ⟨cs⟩) w :=
  build_s (places := #[(0, 1), (1, 1), (2, 1)]) (show P.underlying T_ref05_Use = some (.struct (P.fieldsOf T_ref05_Use)) by kernel_rfl) z_T_ref05_Use (fun _ => by kernel_rfl) hf
theorem bl_T_codec_Use {ps : List (Nat × Value)} {cs : List Value} {w : World} {K : Value → World → Prop} (hf : Instr.fill ((#[(0, 1), (1, 1), (2, 1)] : Array (Nat × Nat))[·]?) ⟨[.int .i64 0, .int .i64 0, .int .u32 0]⟩ ps = some ⟨cs⟩) : wBuild P T_codec_Use ps w K = K (.agg ⟨cs⟩) w :=
  build_s (places := #[(0, 1), (1, 1), (2, 1)]) (show P.underlying T_codec_Use = some (.struct (P.fieldsOf T_codec_Use)) by kernel_rfl) z_T_codec_Use (fun _ => by kernel_rfl) hf
theorem bl_T_ref05_Slot {ps : List (Nat × Value)} {cs : List Value} {w : World} {K : Value → World → Prop} (hf : Instr.fill ((#[(0, 1), (1, 1), (2, 1), (3, 1)] : Array (Nat × Nat))[·]?) ⟨[.int .i64 0, .int .u32 0, .int .i64 0, .int .i64 0]⟩ ps = some ⟨cs⟩) : wBuild P T_ref05_Slot ps w K = K (.agg ⟨cs⟩) w :=
  build_s (places := #[(0, 1), (1, 1), (2, 1), (3, 1)]) (show P.underlying T_ref05_Slot = some (.struct (P.fieldsOf T_ref05_Slot)) by kernel_rfl) z_T_ref05_Slot (fun _ => by kernel_rfl) hf
theorem bl_T_codec_Slot {ps : List (Nat × Value)} {cs : List Value} {w : World} {K : Value → World → Prop} (hf : Instr.fill ((#[(0, 1), (1, 1), (2, 1), (3, 1)] : Array (Nat × Nat))[·]?) ⟨[.int .i64 0, .int .u32 0, .int .i64 0, .int .i64 0]⟩ ps = some ⟨cs⟩) : wBuild P T_codec_Slot ps w K = K (.agg ⟨cs⟩) w :=
  build_s (places := #[(0, 1), (1, 1), (2, 1), (3, 1)]) (show P.underlying T_codec_Slot = some (.struct (P.fieldsOf T_codec_Slot)) by kernel_rfl) z_T_codec_Slot (fun _ => by kernel_rfl) hf
theorem bl_T_api_Sector {ps : List (Nat × Value)} {cs : List Value} {w : World} {K : Value → World → Prop} (hf : Instr.fill (fun i => some (i * 1, 1)) ⟨List.replicate 128 (.int .u8 0)⟩ ps = some ⟨cs⟩) : wBuild P T_api_Sector ps w K = K (.agg ⟨cs⟩) w :=
  build_a v_T_api_Sector z_T_api_Sector (sizeOf_one o_T_uint8) hf
theorem bl_T_ref05_Inode {ps : List (Nat × Value)} {cs : List Value} {w : World} {K : Value → World → Prop} (hf : Instr.fill ((#[(0, 1), (1, 1), (2, 1), (3, 1), (4, 1), (5, 8), (13, 1), (14, 1)] : Array (Nat × Nat))[·]?) ⟨[.int .u32 0, .int .u32 0, .int .i64 0, .int .i64 0, .int .u32 0] ++ List.replicate 10 (.int .i64 0)⟩ ps = some ⟨cs⟩) : wBuild P T_ref05_Inode ps w K = K (.agg ⟨cs⟩) w :=
  build_s (places := #[(0, 1), (1, 1), (2, 1), (3, 1), (4, 1), (5, 8), (13, 1), (14, 1)]) (show P.underlying T_ref05_Inode = some (.struct (P.fieldsOf T_ref05_Inode)) by kernel_rfl) z_T_ref05_Inode (fun _ => by kernel_rfl) hf
theorem bl_T_codec_Inode {ps : List (Nat × Value)} {cs : List Value} {w : World} {K : Value → World → Prop} (hf : Instr.fill ((#[(0, 1), (1, 1), (2, 1), (3, 1), (4, 1), (5, 8), (13, 1), (14, 1)] : Array (Nat × Nat))[·]?) ⟨[.int .u32 0, .int .u32 0, .int .i64 0, .int .i64 0, .int .u32 0] ++ List.replicate 10 (.int .i64 0)⟩ ps = some ⟨cs⟩) : wBuild P T_codec_Inode ps w K = K (.agg ⟨cs⟩) w :=
  build_s (places := #[(0, 1), (1, 1), (2, 1), (3, 1), (4, 1), (5, 8), (13, 1), (14, 1)]) (show P.underlying T_codec_Inode = some (.struct (P.fieldsOf T_codec_Inode)) by kernel_rfl) z_T_codec_Inode (fun _ => by kernel_rfl) hf
theorem bl_T_ref05_Header {ps : List (Nat × Value)} {cs : List Value} {w : World} {K : Value → World → Prop} (hf : Instr.fill ((#[(0, 1), (1, 1), (2, 1), (3, 1), (4, 1), (5, 1)] : Array (Nat × Nat))[·]?) ⟨[.int .u64 0, .int .u64 0, .int .i64 0, .int .i64 0, .int .i64 0, .int .u32 0]⟩ ps = some ⟨cs⟩) : wBuild P T_ref05_Header ps w K = K (.agg ⟨cs⟩) w :=
  build_s (places := #[(0, 1), (1, 1), (2, 1), (3, 1), (4, 1), (5, 1)]) (show P.underlying T_ref05_Header = some (.struct (P.fieldsOf T_ref05_Header)) by kernel_rfl) z_T_ref05_Header (fun _ => by kernel_rfl) hf
theorem bl_T_codec_Header {ps : List (Nat × Value)} {cs : List Value} {w : World} {K : Value → World → Prop} (hf : Instr.fill ((#[(0, 1), (1, 1), (2, 1), (3, 1), (4, 1), (5, 1)] : Array (Nat × Nat))[·]?) ⟨[.int .u64 0, .int .u64 0, .int .i64 0, .int .i64 0, .int .i64 0, .int .u32 0]⟩ ps = some ⟨cs⟩) : wBuild P T_codec_Header ps w K = K (.agg ⟨cs⟩) w :=
  build_s (places := #[(0, 1), (1, 1), (2, 1), (3, 1), (4, 1), (5, 1)]) (show P.underlying T_codec_Header = some (.struct (P.fieldsOf T_codec_Header)) by kernel_rfl) z_T_codec_Header (fun _ => by kernel_rfl) hf
theorem bl_T_A32int {ps : List (Nat × Value)} {cs : List Value} {w : World} {K : Value → World → Prop} (hf : Instr.fill (fun i => some (i * 1, 1)) ⟨List.replicate 32 (.int .i64 0)⟩ ps = some ⟨cs⟩) : wBuild P T_A32int ps w K = K (.agg ⟨cs⟩) w :=
  build_a v_T_A32int z_T_A32int (sizeOf_one o_T_int) hf
theorem bl_T_ref05_Record {ps : List (Nat × Value)} {cs : List Value} {w : World} {K : Value → World → Prop} (hf : Instr.fill ((#[(0, 1), (1, 1), (2, 1), (3, 1)] : Array (Nat × Nat))[·]?) ⟨[.int .u32 0, .int .u32 0, .int .i64 0, .int .i64 0]⟩ ps = some ⟨cs⟩) : wBuild P T_ref05_Record ps w K = K (.agg ⟨cs⟩) w :=
  build_s (places := #[(0, 1), (1, 1), (2, 1), (3, 1)]) (show P.underlying T_ref05_Record = some (.struct (P.fieldsOf T_ref05_Record)) by kernel_rfl) z_T_ref05_Record (fun _ => by kernel_rfl) hf
theorem bl_T_codec_Record {ps : List (Nat × Value)} {cs : List Value} {w : World} {K : Value → World → Prop} (hf : Instr.fill ((#[(0, 1), (1, 1), (2, 1), (3, 1)] : Array (Nat × Nat))[·]?) ⟨[.int .u32 0, .int .u32 0, .int .i64 0, .int .i64 0]⟩ ps = some ⟨cs⟩) : wBuild P T_codec_Record ps w K = K (.agg ⟨cs⟩) w :=
  build_s (places := #[(0, 1), (1, 1), (2, 1), (3, 1)]) (show P.underlying T_codec_Record = some (.struct (P.fieldsOf T_codec_Record)) by kernel_rfl) z_T_codec_Record (fun _ => by kernel_rfl) hf
theorem bl_T_ref05_Summary {ps : List (Nat × Value)} {cs : List Value} {w : World} {K : Value → World → Prop} (hf : Instr.fill ((#[(0, 1), (1, 1), (2, 1), (3, 1), (4, 1), (5, 1)] : Array (Nat × Nat))[·]?) ⟨[.int .u64 0, .int .u64 0, .bool false, .int .i64 0, .int .u32 0, .slice none 0 0]⟩ ps = some ⟨cs⟩) : wBuild P T_ref05_Summary ps w K = K (.agg ⟨cs⟩) w :=
  build_s (places := #[(0, 1), (1, 1), (2, 1), (3, 1), (4, 1), (5, 1)]) (show P.underlying T_ref05_Summary = some (.struct (P.fieldsOf T_ref05_Summary)) by kernel_rfl) z_T_ref05_Summary (fun _ => by kernel_rfl) hf
theorem bl_T_codec_Summary {ps : List (Nat × Value)} {cs : List Value} {w : World} {K : Value → World → Prop} (hf : Instr.fill ((#[(0, 1), (1, 1), (2, 1), (3, 1), (4, 1), (5, 1)] : Array (Nat × Nat))[·]?) ⟨[.int .u64 0, .int .u64 0, .bool false, .int .i64 0, .int .u32 0, .slice none 0 0]⟩ ps = some ⟨cs⟩) : wBuild P T_codec_Summary ps w K = K (.agg ⟨cs⟩) w :=
  build_s (places := #[(0, 1), (1, 1), (2, 1), (3, 1), (4, 1), (5, 1)]) (show P.underlying T_codec_Summary = some (.struct (P.fieldsOf T_codec_Summary)) by kernel_rfl) z_T_codec_Summary (fun _ => by kernel_rfl) hf
theorem bl_T_ref09_Table {ps : List (Nat × Value)} {cs : List Value} {w : World} {K : Value → World → Prop} (hf : Instr.fill ((#[(0, 1), (1, 1)] : Array (Nat × Nat))[·]?) ⟨[.int .i64 0, .slice none 0 0]⟩ ps = some ⟨cs⟩) : wBuild P T_ref09_Table ps w K = K (.agg ⟨cs⟩) w :=
  build_s (places := #[(0, 1), (1, 1)]) (show P.underlying T_ref09_Table = some (.struct (P.fieldsOf T_ref09_Table)) by kernel_rfl) z_T_ref09_Table (fun _ => by kernel_rfl) hf
theorem bl_T_ref04_Geom {ps : List (Nat × Value)} {cs : List Value} {w : World} {K : Value → World → Prop} (hf : Instr.fill ((#[(0, 1), (1, 1), (2, 1)] : Array (Nat × Nat))[·]?) ⟨[.int .i64 0, .int .i64 0, .int .i64 0]⟩ ps = some ⟨cs⟩) : wBuild P T_ref04_Geom ps w K = K (.agg ⟨cs⟩) w :=
  build_s (places := #[(0, 1), (1, 1), (2, 1)]) (show P.underlying T_ref04_Geom = some (.struct (P.fieldsOf T_ref04_Geom)) by kernel_rfl) z_T_ref04_Geom (fun _ => by kernel_rfl) hf
theorem bl_T_ref11_Place {ps : List (Nat × Value)} {cs : List Value} {w : World} {K : Value → World → Prop} (hf : Instr.fill ((#[(0, 1), (1, 1), (2, 1), (3, 1)] : Array (Nat × Nat))[·]?) ⟨[.int .i64 0, .int .i64 0, .int .i64 0, .int .u64 0]⟩ ps = some ⟨cs⟩) : wBuild P T_ref11_Place ps w K = K (.agg ⟨cs⟩) w :=
  build_s (places := #[(0, 1), (1, 1), (2, 1), (3, 1)]) (show P.underlying T_ref11_Place = some (.struct (P.fieldsOf T_ref11_Place)) by kernel_rfl) z_T_ref11_Place (fun _ => by kernel_rfl) hf
theorem bl_T_slog_Place {ps : List (Nat × Value)} {cs : List Value} {w : World} {K : Value → World → Prop} (hf : Instr.fill ((#[(0, 1), (1, 1), (2, 1), (3, 1)] : Array (Nat × Nat))[·]?) ⟨[.int .i64 0, .int .i64 0, .int .i64 0, .int .u64 0]⟩ ps = some ⟨cs⟩) : wBuild P T_slog_Place ps w K = K (.agg ⟨cs⟩) w :=
  build_s (places := #[(0, 1), (1, 1), (2, 1), (3, 1)]) (show P.underlying T_slog_Place = some (.struct (P.fieldsOf T_slog_Place)) by kernel_rfl) z_T_slog_Place (fun _ => by kernel_rfl) hf
theorem bl_T_slog_Layout {ps : List (Nat × Value)} {cs : List Value} {w : World} {K : Value → World → Prop} (hf : Instr.fill ((#[(0, 1), (1, 4), (5, 1)] : Array (Nat × Nat))[·]?) ⟨[.slice none 0 0, .int .i64 0, .int .i64 0, .int .i64 0, .int .u64 0, .int .i64 0]⟩ ps = some ⟨cs⟩) : wBuild P T_slog_Layout ps w K = K (.agg ⟨cs⟩) w :=
  build_s (places := #[(0, 1), (1, 4), (5, 1)]) (show P.underlying T_slog_Layout = some (.struct (P.fieldsOf T_slog_Layout)) by kernel_rfl) z_T_slog_Layout (fun _ => by kernel_rfl) hf
theorem bl_T_geom_Geom {ps : List (Nat × Value)} {cs : List Value} {w : World} {K : Value → World → Prop} (hf : Instr.fill ((#[(0, 1), (1, 1), (2, 1)] : Array (Nat × Nat))[·]?) ⟨[.int .i64 0, .int .i64 0, .int .i64 0]⟩ ps = some ⟨cs⟩) : wBuild P T_geom_Geom ps w K = K (.agg ⟨cs⟩) w :=
  build_s (places := #[(0, 1), (1, 1), (2, 1)]) (show P.underlying T_geom_Geom = some (.struct (P.fieldsOf T_geom_Geom)) by kernel_rfl) z_T_geom_Geom (fun _ => by kernel_rfl) hf
theorem bl_T_ref05_Entry {ps : List (Nat × Value)} {cs : List Value} {w : World} {K : Value → World → Prop} (hf : Instr.fill ((#[(0, 1), (1, 1), (2, 1), (3, 1)] : Array (Nat × Nat))[·]?) ⟨[.int .i64 0, .int .u32 0, .int .u32 0, .int .i64 0]⟩ ps = some ⟨cs⟩) : wBuild P T_ref05_Entry ps w K = K (.agg ⟨cs⟩) w :=
  build_s (places := #[(0, 1), (1, 1), (2, 1), (3, 1)]) (show P.underlying T_ref05_Entry = some (.struct (P.fieldsOf T_ref05_Entry)) by kernel_rfl) z_T_ref05_Entry (fun _ => by kernel_rfl) hf
theorem bl_T_ref11_Item {ps : List (Nat × Value)} {cs : List Value} {w : World} {K : Value → World → Prop} (hf : Instr.fill ((#[(0, 4), (4, 128)] : Array (Nat × Nat))[·]?) ⟨[.int .i64 0, .int .u32 0, .int .u32 0, .int .i64 0] ++ List.replicate 128 (.int .u8 0)⟩ ps = some ⟨cs⟩) : wBuild P T_ref11_Item ps w K = K (.agg ⟨cs⟩) w :=
  build_s (places := #[(0, 4), (4, 128)]) (show P.underlying T_ref11_Item = some (.struct (P.fieldsOf T_ref11_Item)) by kernel_rfl) z_T_ref11_Item (fun _ => by kernel_rfl) hf
theorem bl_T_slog_Batch {ps : List (Nat × Value)} {cs : List Value} {w : World} {K : Value → World → Prop} (hf : Instr.fill ((#[(0, 1), (1, 1), (2, 1), (3, 1)] : Array (Nat × Nat))[·]?) ⟨[.int .u64 0, .int .u32 0, .slice none 0 0, .slice none 0 0]⟩ ps = some ⟨cs⟩) : wBuild P T_slog_Batch ps w K = K (.agg ⟨cs⟩) w :=
  build_s (places := #[(0, 1), (1, 1), (2, 1), (3, 1)]) (show P.underlying T_slog_Batch = some (.struct (P.fieldsOf T_slog_Batch)) by kernel_rfl) z_T_slog_Batch (fun _ => by kernel_rfl) hf
theorem bl_T_codec_Entry {ps : List (Nat × Value)} {cs : List Value} {w : World} {K : Value → World → Prop} (hf : Instr.fill ((#[(0, 1), (1, 1), (2, 1), (3, 1)] : Array (Nat × Nat))[·]?) ⟨[.int .i64 0, .int .u32 0, .int .u32 0, .int .i64 0]⟩ ps = some ⟨cs⟩) : wBuild P T_codec_Entry ps w K = K (.agg ⟨cs⟩) w :=
  build_s (places := #[(0, 1), (1, 1), (2, 1), (3, 1)]) (show P.underlying T_codec_Entry = some (.struct (P.fieldsOf T_codec_Entry)) by kernel_rfl) z_T_codec_Entry (fun _ => by kernel_rfl) hf
theorem bl_T_slog_Found {ps : List (Nat × Value)} {cs : List Value} {w : World} {K : Value → World → Prop} (hf : Instr.fill ((#[(0, 4), (4, 1)] : Array (Nat × Nat))[·]?) ⟨[.int .i64 0, .int .u32 0, .int .u32 0, .int .i64 0, .int .i64 0]⟩ ps = some ⟨cs⟩) : wBuild P T_slog_Found ps w K = K (.agg ⟨cs⟩) w :=
  build_s (places := #[(0, 4), (4, 1)]) (show P.underlying T_slog_Found = some (.struct (P.fieldsOf T_slog_Found)) by kernel_rfl) z_T_slog_Found (fun _ => by kernel_rfl) hf
theorem bl_T_disk_state {ps : List (Nat × Value)} {cs : List Value} {w : World} {K : Value → World → Prop} (hf : Instr.fill ((#[(0, 1), (1, 1)] : Array (Nat × Nat))[·]?) ⟨[.bool false, .int .i64 0]⟩ ps = some ⟨cs⟩) : wBuild P T_disk_state ps w K = K (.agg ⟨cs⟩) w :=
  build_s (places := #[(0, 1), (1, 1)]) (show P.underlying T_disk_state = some (.struct (P.fieldsOf T_disk_state)) by kernel_rfl) z_T_disk_state (fun _ => by kernel_rfl) hf
theorem bl_T_disk_Disk {ps : List (Nat × Value)} {cs : List Value} {w : World} {K : Value → World → Prop} (hf : Instr.fill ((#[(0, 2), (2, 1), (3, 1), (4, 1)] : Array (Nat × Nat))[·]?) ⟨[.bool false, .int .i64 0, .slice none 0 0, .slice none 0 0, .int .i64 0]⟩ ps = some ⟨cs⟩) : wBuild P T_disk_Disk ps w K = K (.agg ⟨cs⟩) w :=
  build_s (places := #[(0, 2), (2, 1), (3, 1), (4, 1)]) (show P.underlying T_disk_Disk = some (.struct (P.fieldsOf T_disk_Disk)) by kernel_rfl) z_T_disk_Disk (fun _ => by kernel_rfl) hf
theorem bl_T_disk_write {ps : List (Nat × Value)} {cs : List Value} {w : World} {K : Value → World → Prop} (hf : Instr.fill ((#[(0, 1), (1, 128)] : Array (Nat × Nat))[·]?) ⟨[.int .i64 0] ++ List.replicate 128 (.int .u8 0)⟩ ps = some ⟨cs⟩) : wBuild P T_disk_write ps w K = K (.agg ⟨cs⟩) w :=
  build_s (places := #[(0, 1), (1, 128)]) (show P.underlying T_disk_write = some (.struct (P.fieldsOf T_disk_write)) by kernel_rfl) z_T_disk_write (fun _ => by kernel_rfl) hf
theorem bl_T_imap_Map {ps : List (Nat × Value)} {cs : List Value} {w : World} {K : Value → World → Prop} (hf : Instr.fill ((#[(0, 1)] : Array (Nat × Nat))[·]?) ⟨[.slice none 0 0]⟩ ps = some ⟨cs⟩) : wBuild P T_imap_Map ps w K = K (.agg ⟨cs⟩) w :=
  build_s (places := #[(0, 1)]) (show P.underlying T_imap_Map = some (.struct (P.fieldsOf T_imap_Map)) by kernel_rfl) z_T_imap_Map (fun _ => by kernel_rfl) hf
theorem bl_T_usage_Table {ps : List (Nat × Value)} {cs : List Value} {w : World} {K : Value → World → Prop} (hf : Instr.fill ((#[(0, 1), (1, 1)] : Array (Nat × Nat))[·]?) ⟨[.int .i64 0, .slice none 0 0]⟩ ps = some ⟨cs⟩) : wBuild P T_usage_Table ps w K = K (.agg ⟨cs⟩) w :=
  build_s (places := #[(0, 1), (1, 1)]) (show P.underlying T_usage_Table = some (.struct (P.fieldsOf T_usage_Table)) by kernel_rfl) z_T_usage_Table (fun _ => by kernel_rfl) hf
theorem bl_T_ref05_Field {ps : List (Nat × Value)} {cs : List Value} {w : World} {K : Value → World → Prop} (hf : Instr.fill ((#[(0, 1), (1, 1)] : Array (Nat × Nat))[·]?) ⟨[.int .i64 0, .int .i64 0]⟩ ps = some ⟨cs⟩) : wBuild P T_ref05_Field ps w K = K (.agg ⟨cs⟩) w :=
  build_s (places := #[(0, 1), (1, 1)]) (show P.underlying T_ref05_Field = some (.struct (P.fieldsOf T_ref05_Field)) by kernel_rfl) z_T_ref05_Field (fun _ => by kernel_rfl) hf
theorem bl_T_slog_Item {ps : List (Nat × Value)} {cs : List Value} {w : World} {K : Value → World → Prop} (hf : Instr.fill ((#[(0, 4), (4, 128)] : Array (Nat × Nat))[·]?) ⟨[.int .i64 0, .int .u32 0, .int .u32 0, .int .i64 0] ++ List.replicate 128 (.int .u8 0)⟩ ps = some ⟨cs⟩) : wBuild P T_slog_Item ps w K = K (.agg ⟨cs⟩) w :=
  build_s (places := #[(0, 4), (4, 128)]) (show P.underlying T_slog_Item = some (.struct (P.fieldsOf T_slog_Item)) by kernel_rfl) z_T_slog_Item (fun _ => by kernel_rfl) hf
theorem bl_T_slog_writer {ps : List (Nat × Value)} {cs : List Value} {w : World} {K : Value → World → Prop} (hf : Instr.fill ((#[(0, 1), (1, 1)] : Array (Nat × Nat))[·]?) ⟨[.pointer none, .int .i64 0]⟩ ps = some ⟨cs⟩) : wBuild P T_slog_writer ps w K = K (.agg ⟨cs⟩) w :=
  build_s (places := #[(0, 1), (1, 1)]) (show P.underlying T_slog_writer = some (.struct (P.fieldsOf T_slog_writer)) by kernel_rfl) z_T_slog_writer (fun _ => by kernel_rfl) hf
theorem bl_T_slog_group {ps : List (Nat × Value)} {cs : List Value} {w : World} {K : Value → World → Prop} (hf : Instr.fill ((#[(0, 1), (1, 128), (129, 1), (130, 1)] : Array (Nat × Nat))[·]?) ⟨[.int .i64 0] ++ List.replicate 128 (.int .u8 0) ++ [.slice none 0 0, .slice none 0 0]⟩ ps = some ⟨cs⟩) : wBuild P T_slog_group ps w K = K (.agg ⟨cs⟩) w :=
  build_s (places := #[(0, 1), (1, 128), (129, 1), (130, 1)]) (show P.underlying T_slog_group = some (.struct (P.fieldsOf T_slog_group)) by kernel_rfl) z_T_slog_group (fun _ => by kernel_rfl) hf
theorem bl_T_codec_writer {ps : List (Nat × Value)} {cs : List Value} {w : World} {K : Value → World → Prop} (hf : Instr.fill ((#[(0, 1), (1, 1)] : Array (Nat × Nat))[·]?) ⟨[.slice none 0 0, .bool false]⟩ ps = some ⟨cs⟩) : wBuild P T_codec_writer ps w K = K (.agg ⟨cs⟩) w :=
  build_s (places := #[(0, 1), (1, 1)]) (show P.underlying T_codec_writer = some (.struct (P.fieldsOf T_codec_writer)) by kernel_rfl) z_T_codec_writer (fun _ => by kernel_rfl) hf
theorem bl_T_codec_reader {ps : List (Nat × Value)} {cs : List Value} {w : World} {K : Value → World → Prop} (hf : Instr.fill ((#[(0, 1), (1, 1), (2, 1)] : Array (Nat × Nat))[·]?) ⟨[.slice none 0 0, .int .i64 0, .bool false]⟩ ps = some ⟨cs⟩) : wBuild P T_codec_reader ps w K = K (.agg ⟨cs⟩) w :=
  build_s (places := #[(0, 1), (1, 1), (2, 1)]) (show P.underlying T_codec_reader = some (.struct (P.fieldsOf T_codec_reader)) by kernel_rfl) z_T_codec_reader (fun _ => by kernel_rfl) hf
theorem bl_T_num_Reader {ps : List (Nat × Value)} {cs : List Value} {w : World} {K : Value → World → Prop} (hf : Instr.fill ((#[(0, 128), (128, 1), (129, 1)] : Array (Nat × Nat))[·]?) ⟨List.replicate 128 (.int .u8 0) ++ [.int .i64 0, .int .i64 0]⟩ ps = some ⟨cs⟩) : wBuild P T_num_Reader ps w K = K (.agg ⟨cs⟩) w :=
  build_s (places := #[(0, 128), (128, 1), (129, 1)]) (show P.underlying T_num_Reader = some (.struct (P.fieldsOf T_num_Reader)) by kernel_rfl) z_T_num_Reader (fun _ => by kernel_rfl) hf
theorem bl_T_ref04_Part {ps : List (Nat × Value)} {cs : List Value} {w : World} {K : Value → World → Prop} (hf : Instr.fill ((#[(0, 1), (1, 1), (2, 1), (3, 1), (4, 1), (5, 1)] : Array (Nat × Nat))[·]?) ⟨[.int .i64 0, .int .i64 0, .int .i64 0, .int .i64 0, .int .i64 0, .int .i64 0]⟩ ps = some ⟨cs⟩) : wBuild P T_ref04_Part ps w K = K (.agg ⟨cs⟩) w :=
  build_s (places := #[(0, 1), (1, 1), (2, 1), (3, 1), (4, 1), (5, 1)]) (show P.underlying T_ref04_Part = some (.struct (P.fieldsOf T_ref04_Part)) by kernel_rfl) z_T_ref04_Part (fun _ => by kernel_rfl) hf
end Go.Dn
end
section
/-! Bytes and numbers, plain. -/
set_option linter.unusedVariables false
set_option linter.unusedSimpArgs false
namespace Go.Dn
/-- A number's lowest bytes. -/
def low (n : Nat) : Nat → List Nat
  | 0 => []
  | w + 1 => n % 256 :: low (n / 256) w
/-- The number of bytes. -/
def numOf : List Nat → Nat
  | [] => 0
  | b :: l => b + 256 * numOf l
theorem low_length (n w : Nat) : (low n w).length = w := by
  induction w generalizing n with
  | zero => rfl
  | succ w ih => simp [low, ih]
theorem low_lt (n w : Nat) : ∀ b ∈ low n w, b < 256 := by
  induction w generalizing n with
  | zero => intro b hb; simp [low] at hb
  | succ w ih =>
    intro b hb
    rcases List.mem_cons.1 hb with rfl | hb
    · omega
    · exact ih _ b hb
theorem numOf_lt (l : List Nat) (h : ∀ b ∈ l, b < 256) : numOf l < 256 ^ l.length := by
  induction l with
  | nil => simp [numOf]
  | cons b l ih =>
    have h1 := h b (List.mem_cons_self ..)
    have h2 := ih fun x hx => h x (List.mem_cons_of_mem _ hx)
    simp only [numOf, List.length_cons, Nat.pow_succ]
    omega
theorem numOf_low (n w : Nat) : numOf (low n w) = n % 256 ^ w := by
  induction w generalizing n with
  | zero => simp [low, numOf, Nat.mod_one]
  | succ w ih =>
    simp only [low, numOf, ih]
    rw [Nat.pow_succ, Nat.mul_comm (256 ^ w) 256, Nat.mod_mul]
theorem low_numOf (l : List Nat) (h : ∀ b ∈ l, b < 256) : low (numOf l) l.length = l := by
  induction l with
  | nil => rfl
  | cons b l ih =>
    have h1 := h b (List.mem_cons_self ..)
    simp only [List.length_cons, low, numOf]
    rw [show (b + 256 * numOf l) % 256 = b by omega, show (b + 256 * numOf l) / 256 = numOf l by omega, ih fun x hx => h x (List.mem_cons_of_mem _ hx)]
theorem low_get (n w i : Nat) (h : i < w) : (low n w)[i]? = some (n / 256 ^ i % 256) := by
  induction w generalizing n i with
  | zero => omega
  | succ w ih =>
    cases i with
    | zero => simp [low]
    | succ i =>
      simp only [low, List.getElem?_cons_succ]
      rw [ih _ _ (by omega), Nat.pow_succ, Nat.div_div_eq_div_mul, Nat.mul_comm]
theorem low_append (n a b : Nat) : low n (a + b) = low n a ++ low (n / 256 ^ a) b := by
  induction a generalizing n with
  | zero => simp [low]
  | succ a ih =>
    rw [show a + 1 + b = (a + b) + 1 by omega]
    simp only [low, ih, List.cons_append]
    rw [Nat.div_div_eq_div_mul, Nat.pow_succ, Nat.mul_comm 256]
theorem low_snoc (n a : Nat) : low n (a + 1) = low n a ++ [n / 256 ^ a % 256] := by
  rw [low_append]; rfl
theorem numOf_snoc (l : List Nat) (b : Nat) : numOf (l ++ [b]) = numOf l + 256 ^ l.length * b := by
  induction l with
  | nil => simp [numOf]
  | cons x l ih =>
    simp only [List.cons_append, numOf, ih, List.length_cons, Nat.pow_succ]
    rw [Nat.mul_add, Nat.add_assoc]
    congr 2
    rw [← Nat.mul_assoc, Nat.mul_comm 256]
end Go.Dn
end
section
/-! Contracts of package num. -/
set_option linter.unusedVariables false
set_option linter.unusedSimpArgs false
namespace Go.Dn
open Go
def bvs (l : List Nat) : List Value := l.map fun n : Nat => .int .u8 (n : Int)
theorem bvs_length (l : List Nat) : (bvs l).length = l.length := by simp [bvs]
theorem bvs_isC (l : List Nat) : ∀ v ∈ bvs l, isC v = true := by
  intro v hv
  obtain ⟨n, _, rfl⟩ := List.mem_map.1 hv
  rfl
theorem bvs_get {l : List Nat} {i : Nat} {b : Nat} (h : l[i]? = some b) : (bvs l)[i]? = some (.int .u8 b) := by simp [bvs, h]
theorem bvs_append (l m : List Nat) : bvs (l ++ m) = bvs l ++ bvs m := by simp [bvs]
theorem bvs_inj {l m : List Nat} (h : bvs l = bvs m) : l = m := by
  have : ∀ a b : Nat, Value.int .u8 (a : Int) = Value.int .u8 (b : Int) → a = b := by
    intro a b h
    injection h with _ h
    exact Int.ofNat.inj h
  induction l generalizing m with
  | nil => cases m <;> simp [bvs] at h; rfl
  | cons x l ih =>
    cases m with
    | nil => simp [bvs] at h
    | cons y m =>
      simp only [bvs, List.map_cons, List.cons.injEq] at h
      rw [this _ _ h.1, ih h.2]
theorem pow_256 (n : Nat) : 2 ^ (8 * n) = 256 ^ n := by rw [Nat.pow_mul]
theorem splice_snoc {cs vs : List Value} {o i : Nat} {v : Value} (hl : vs.length = i) (hlt : o + i < cs.length) : (splice cs o vs).set (o + i) v = splice cs o (vs ++ [v]) := by
  subst hl
  unfold splice
  rw [List.set_append_right _ _ (by simp; omega)]
  have h1 : o + vs.length - (cs.take o ++ vs).length = 0 := by simp; omega
  rw [h1, List.drop_eq_getElem_cons hlt]
  simp [Nat.add_assoc]
section nums
variable {w : World} {K : Value → World → Prop}
theorem num_fits {A : Option Addr} {n c : Nat} {a wd : Int} {w : World} {k : Value → World → Prop} (hn : n ≤ 9223372036854775807) (ha : a ≤ 9223372036854775807)
    (h : k (.bool (decide (1 ≤ wd ∧ wd ≤ 8 ∧ 0 ≤ a ∧ a + wd ≤ n))) w) : wCall P n_num_fits [.slice A n c, .int .i64 a, .int .i64 wd] w k := by
  refine call_num_fits _ _ _ ?_
  unfold F_num_fits
  simp only [bin_geq, bin_leq, and_p, len_s u_T_Luint8]
  refine and_i (r := decide (a + wd ≤ n)) (fun hb k' hk => ?_) ?_
  · simp only [Bool.and_eq_true, decide_eq_true_eq] at hb
    rw [bin_sub (by omega)]
    simp only [bin_geq]
    rw [show decide (wd ≤ (n : Int) - a) = decide (a + wd ≤ n) from by congr 1; simp only [eq_iff_iff]; omega]
    exact hk
  · have e : (decide (1 ≤ wd) && decide (wd ≤ 8) && decide (0 ≤ a) && decide (a ≤ (n : Int)) && decide (a + wd ≤ n)) = decide (1 ≤ wd ∧ wd ≤ 8 ∧ 0 ≤ a ∧ a + wd ≤ n) := by
      rw [Bool.eq_iff_iff]; simp; omega
    rw [e]
    exact h
theorem shr_u64 {x s : Nat} {yk : IntKind} : wBin P .shr T_uint64 (.int .u64 x) (.int yk (s : Int)) w K = K (.int .u64 ((x / 2 ^ (min s 64) : Nat) : Int)) w := by
  rw [bin_shr (by omega)]
  congr 2
  rw [Int.fdiv_eq_ediv_of_nonneg _ (by exact Int.le_of_lt (Int.pow_pos (by decide)))]
  simp [IntKind.bits]
theorem conv_64_8 {x : Nat} : wConv P T_uint64 T_uint8 (.int .u64 (x : Int)) w K = K (.int .u8 ((x % 256 : Nat) : Int)) w := by
  rw [conv_i i_T_uint64 i_T_uint8, IntKind.wrap_u8]
  congr 2
theorem conv_8_64 {x : Nat} (h : x < 256) : wConv P T_uint8 T_uint64 (.int .u8 (x : Int)) w K = K (.int .u64 (x : Int)) w := by
  rw [conv_i i_T_uint8 i_T_uint64, IntWalk.u64_in _ (by omega)]
def putOk (n : Nat) (a wd : Int) (x : Nat) : Prop := 1 ≤ wd ∧ wd ≤ 8 ∧ 0 ≤ a ∧ a + wd ≤ n ∧ x < 256 ^ wd.toNat
theorem num_Put {g o n c x : Nat} {t : TypeId} {cs : List Value} {a wd : Int} {w : World} {k : Value → World → Prop} (H : Blk w g t cs) (hl : o + n ≤ cs.length) (hn : n ≤ 9223372036854775807) (ha : a ≤ 9223372036854775807) (hx : x < 18446744073709551616)
    (hbad : ¬ putOk n a wd x → k (.int .i64 1) w) (hk : putOk n a wd x → ∀ w', Ex [g] w w' → Blk w' g t (splice cs (o + a.toNat) (bvs (low x wd.toNat))) → k (.int .i64 0) w') :
    wCall P n_num_Put [.slice (some ⟨g, o, none⟩) n c, .int .i64 a, .int .i64 wd, .int .u64 x] w k := by
  refine call_num_Put _ _ _ _ ?_
  unfold F_num_Put
  refine num_fits hn ha ?_
  simp only [un_not, bin_lss]
  by_cases hf : 1 ≤ wd ∧ wd ≤ 8 ∧ 0 ≤ a ∧ a + wd ≤ n
  · obtain ⟨m, rfl⟩ : ∃ m : Nat, wd = m := ⟨wd.toNat, by omega⟩
    obtain ⟨p, rfl⟩ : ∃ p : Nat, a = p := ⟨a.toNat, by omega⟩
    simp only [Int.toNat_natCast] at *
    rw [decide_eq_true hf]
    have hm : ((8 : Int) * (m : Int)) = ((8 * m : Nat) : Int) := by omega
    have h8 : min (8 * m) 64 = 8 * m := by omega
    simp only [Bool.not_true, bin_mul (P := P) (t := T_int) (w := w) (show -9223372036854775808 ≤ (8 : Int) * m ∧ (8 : Int) * m ≤ 9223372036854775807 by omega), hm, shr_u64, bin_neq, and_p, or_p, h8, pow_256, Bool.false_or]
    refine wIf_i _ (fun hb => hbad fun hok => ?_) (fun hb => ?_)
    · simp only [Bool.and_eq_true, decide_eq_true_eq] at hb
      have h0 : x / 256 ^ m = 0 := Nat.div_eq_of_lt hok.2.2.2.2
      rw [h0] at hb
      exact hb.2 rfl
    · have hlt : x < 256 ^ m := by
        rcases Nat.lt_or_ge m 8 with h | h
        · have : ¬ ((x / 256 ^ m : Nat) : Int) ≠ 0 := by
            intro hne
            have : (decide ((m : Int) < 8) && decide (((x / 256 ^ m : Nat) : Int) ≠ 0)) = true := by
              rw [decide_eq_true (by omega : (m : Int) < 8), decide_eq_true hne]; rfl
            rw [this] at hb; cases hb
          rcases Nat.lt_or_ge x (256 ^ m) with h' | h'
          · exact h'
          · have := Nat.div_pos h' (Nat.pow_pos (by decide))
            omega
        · obtain rfl : m = 8 := by omega
          exact hx
      have hok : putOk n (p : Int) (m : Int) x := ⟨hf.1, hf.2.1, hf.2.2.1, hf.2.2.2, by simpa using hlt⟩
      refine loop_up m (fun i v w' => v = .int .i64 (i : Int) ∧ Ex [g] w w' ∧ Blk w' g t (splice cs (o + p) (bvs (low x i)))) ⟨rfl, Ex.refl _ _, by simpa [low, bvs, splice] using H⟩ ?_
      rintro i J v w' k' hi ⟨rfl, hE, hB⟩ hk'
      simp only [bin_lss]
      refine wIf_d (fun hlt' => ?_) (fun hge => ?_)
      · have hm' : ((8 : Int) * (i : Int)) = ((8 * i : Nat) : Int) := by omega
        have h8' : min (8 * i) 64 = 8 * i := by omega
        rw [bin_add (by omega), bin_mul (by omega), hm', shr_u64, h8', pow_256, conv_64_8, indexS_i s_T_Luint8 (by omega) (by omega)]
        refine st_one o_T_uint8 rfl hB (by rw [splice_length (by rw [bvs_length, low_length]; omega)]; omega) fun w2 hE2 hB2 => ?_
        rw [bin_add (by omega)]
        refine hk' _ _ (by omega) ⟨rfl, hE.trans hE2, ?_⟩
        have e1 : o + ((p : Int) + (i : Int)).toNat * 1 = o + p + i := by omega
        rw [e1] at hB2
        have e2 : (splice cs (o + p) (bvs (low x i))).set (o + p + i) (.int .u8 ((x / 256 ^ i % 256 : Nat) : Int)) = splice cs (o + p) (bvs (low x (i + 1))) := by
          rw [low_snoc, bvs_append]
          exact splice_snoc (by rw [bvs_length, low_length]) (by omega)
        rw [e2] at hB2
        exact hB2
      · obtain rfl : i = m := by omega
        exact hk hok w' hE hB
  · rw [decide_eq_false hf]
    refine wGrp_or (r := true) (fun h => by cases h) fun J v _ => ?_
    simp only [Bool.not_false, wPick_b, if_true, wIf_t]
    exact hbad fun hok => hf ⟨hok.1, hok.2.1, hok.2.2.1, hok.2.2.2.1⟩
end nums
end Go.Dn
end
section
/-! Contracts of package num: Get, Writer, Reader. -/
set_option linter.unusedVariables false
set_option linter.unusedSimpArgs false
namespace Go.Dn
open Go
section
variable {w : World} {K : Value → World → Prop}
theorem or_shift {n b i : Nat} (hn : n < 256 ^ i) : n ||| b * 256 ^ i = n + b * 256 ^ i := by
  have h := Nat.two_pow_add_eq_or_of_lt (i := 8 * i) (b := n) (by rw [pow_256]; exact hn) b
  rw [pow_256] at h
  rw [Nat.or_comm, Nat.mul_comm b, ← h, Nat.add_comm]
theorem numOf_take_snoc {bs : List Nat} {p i b : Nat} (h : bs[p + i]? = some b) : numOf ((bs.drop p).take (i + 1)) = numOf ((bs.drop p).take i) + 256 ^ i * b := by
  have hlt := (List.getElem?_eq_some_iff.1 h).1
  have hb := (List.getElem?_eq_some_iff.1 h).2
  have e : min i (bs.drop p).length = i := by rw [List.length_drop]; omega
  rw [List.take_succ_eq_append_getElem (by rw [List.length_drop]; omega), numOf_snoc, List.length_take, e]
  simp [hb]
def getOk (n : Nat) (a wd : Int) : Prop := 1 ≤ wd ∧ wd ≤ 8 ∧ 0 ≤ a ∧ a + wd ≤ n
theorem pow256_le {i : Nat} (h : i ≤ 8) : 256 ^ i ≤ 18446744073709551616 := Nat.le_trans (Nat.pow_le_pow_right (by decide) h) (by decide)
theorem num_Get {A : Option Addr} {n c : Nat} {bs : List Nat} {a wd : Int} {k : Value → World → Prop} (H : SlG w 1 (.slice A n c) (bvs bs)) (hbs : ∀ b ∈ bs, b < 256) (hnl : bs.length = n) (hn : n ≤ 9223372036854775807) (ha : a ≤ 9223372036854775807)
    (hbad : ¬ getOk n a wd → k (.tuple #[.int .u64 0, .int .i64 1]) w) (hk : getOk n a wd → k (.tuple #[.int .u64 (numOf ((bs.drop a.toNat).take wd.toNat) : Nat), .int .i64 0]) w) :
    wCall P n_num_Get [.slice A n c, .int .i64 a, .int .i64 wd] w k := by
  refine call_num_Get _ _ _ ?_
  unfold F_num_Get
  refine num_fits hn ha ?_
  simp only [un_not]
  by_cases hf : 1 ≤ wd ∧ wd ≤ 8 ∧ 0 ≤ a ∧ a + wd ≤ n
  · have hok : getOk n a wd := hf
    obtain ⟨m, rfl⟩ : ∃ m : Nat, wd = m := ⟨wd.toNat, by omega⟩
    obtain ⟨p, rfl⟩ : ∃ p : Nat, a = p := ⟨a.toNat, by omega⟩
    simp only [Int.toNat_natCast] at *
    rw [decide_eq_true hf, Bool.not_true, wIf_f]
    refine loop_up2 m (fun i v u w' => v = .int .u64 (numOf ((bs.drop p).take i) : Nat) ∧ u = .int .i64 (i : Int) ∧ w' = w) ⟨by simp [numOf], rfl, rfl⟩ ?_
    rintro i J v u w' k' hi ⟨rfl, rfl, rfl⟩ hk'
    simp only [bin_lss]
    refine wIf_d (fun hlt => ?_) (fun hge => ?_)
    · have hpi : p + i < bs.length := by omega
      have hb : bs[p + i]? = some bs[p + i] := List.getElem?_eq_getElem hpi
      have hbl := hbs _ (List.getElem_mem hpi)
      have hm' : ((8 : Int) * (i : Int)) = ((8 * i : Nat) : Int) := by omega
      rw [bin_add (by omega)]
      refine H.ix1 (x := .int .u8 (bs[p + i] : Nat)) s_T_Luint8 (by omega) (by rw [show ((p : Int) + (i : Int)).toNat = p + i by omega]; exact bvs_get hb) fun ad had => ?_
      have hlow : numOf ((bs.drop p).take i) < 256 ^ i := by
        have h1 := numOf_lt ((bs.drop p).take i) (fun b hb => hbs b (List.mem_of_mem_drop (List.mem_of_mem_take hb)))
        rwa [List.length_take, List.length_drop, Nat.min_eq_left (by omega)] at h1
      have h8 : bs[p + i] * 256 ^ i < 256 ^ (i + 1) := by
        rw [Nat.pow_succ, Nat.mul_comm]; exact Nat.mul_lt_mul_of_pos_left hbl (Nat.pow_pos (by decide))
      have h9 : 256 ^ (i + 1) ≤ 18446744073709551616 := pow256_le (by omega)
      have h10 : 256 ^ i ≤ 18446744073709551616 := pow256_le (by omega)
      rw [ld_one o_T_uint8 had, conv_8_64 hbl, bin_mul (by omega), hm', bin_shl (by omega)]
      have e1 : (IntKind.u64.wrap (((bs[p + i] : Nat) : Int) * 2 ^ (min ((8 * i : Nat) : Int).toNat IntKind.u64.bits))) = ((bs[p + i] * 256 ^ i : Nat) : Int) := by
        have : min ((8 * i : Nat) : Int).toNat IntKind.u64.bits = 8 * i := by simp [IntKind.bits]; omega
        rw [this]
        have e2 : ((bs[p + i] : Nat) : Int) * 2 ^ (8 * i) = ((bs[p + i] * 256 ^ i : Nat) : Int) := by
          rw [← pow_256]; norm_cast
        rw [e2]
        exact wrapN rfl (by simp only [IntKind.bits]; omega)
      rw [e1, bin_orN (by simp only [IntKind.bits]; omega) (by simp only [IntKind.bits]; omega) rfl, or_shift hlow, bin_add (by omega)]
      refine hk' _ _ _ (by omega) ⟨?_, rfl, rfl⟩
      rw [numOf_take_snoc hb, Nat.mul_comm (256 ^ i)]
    · obtain rfl : i = m := by omega
      exact hk hok
  · rw [decide_eq_false hf, Bool.not_false, wIf_t]
    exact hbad hf

/-! Writer: a block of 128 bytes, a place, an error. -/
def wcells (s : List Nat) (at_ : Nat) (e : Int) : List Value := bvs s ++ [.int .i64 (at_ : Int), .int .i64 e]
theorem wcells_at {s : List Nat} (hs : s.length = 128) (a : Nat) (e : Int) : (wcells s a e)[128]? = some (.int .i64 (a : Int)) := by
  rw [wcells, List.getElem?_append_right (by simp [bvs_length, hs])]; simp [bvs_length, hs]
theorem wcells_e {s : List Nat} (hs : s.length = 128) (a : Nat) (e : Int) : (wcells s a e)[129]? = some (.int .i64 e) := by
  rw [wcells, List.getElem?_append_right (by simp [bvs_length, hs])]; simp [bvs_length, hs]
theorem wcells_len {s : List Nat} (hs : s.length = 128) (a : Nat) (e : Int) : (wcells s a e).length = 130 := by simp [wcells, bvs_length, hs]
theorem wcells_setE {s : List Nat} (hs : s.length = 128) (a : Nat) (e e' : Int) : (wcells s a e).set 129 (.int .i64 e') = wcells s a e' := by
  rw [wcells, List.set_append_right _ _ (by simp [bvs_length, hs])]; simp [bvs_length, hs, wcells]
theorem wcells_setA {s : List Nat} (hs : s.length = 128) (a a' : Nat) (e : Int) : (wcells s a e).set 128 (.int .i64 (a' : Int)) = wcells s a' e := by
  rw [wcells, List.set_append_right _ _ (by simp [bvs_length, hs])]; simp [bvs_length, hs, wcells]
def splN (s : List Nat) (o : Nat) (l : List Nat) : List Nat := s.take o ++ l ++ s.drop (o + l.length)
theorem splN_length {s l : List Nat} {o : Nat} (h : o + l.length ≤ s.length) : (splN s o l).length = s.length := by simp [splN]; omega
theorem wcells_splice {s l : List Nat} (hs : s.length = 128) {o : Nat} (h : o + l.length ≤ 128) (a : Nat) (e : Int) : splice (wcells s a e) o (bvs l) = wcells (splN s o l) a e := by
  unfold splice wcells splN
  rw [bvs_length, List.take_append_of_le_length (by rw [bvs_length]; omega), List.drop_append_of_le_length (by rw [bvs_length]; omega)]
  simp [bvs, List.map_take, List.map_drop]
theorem num_Writer_Num {g at_ x wd : Nat} {s : List Nat} {k : Value → World → Prop} (H : Blk w g T_num_Writer (wcells s at_ 0)) (hs : s.length = 128) (hx : x < 18446744073709551616)
    (hw : 1 ≤ wd ∧ wd ≤ 8) (ha : at_ + wd ≤ 128) (hxw : x < 256 ^ wd) (hk : ∀ w', Ex [g] w w' → Blk w' g T_num_Writer (wcells (splN s at_ (low x wd)) (at_ + wd) 0) → k (.tuple #[]) w') :
    wCall P n_num_Writer_Num [.pointer (some ⟨g, 0, none⟩), .int .i64 (wd : Int), .int .u64 x] w k := by
  refine call_num_Writer_Num _ _ _ ?_
  unfold F_num_Writer_Num wJ0
  simp only [nil_ptr, fA_T_num_Writer_2, fA_T_num_Writer_0, fA_T_num_Writer_1, Nat.zero_add]
  rw [ld_one o_T_api_Errno ((H.cell 129).trans (wcells_e hs _ _)), bin_eql, wIf_dt rfl]
  refine draw_i fun w1 hE1 hh1 => ?_
  have H1 := H.heap hh1
  rw [sliceA_all a_T_api_Sector, ld_one o_T_int ((H1.cell 128).trans (wcells_at hs _ _))]
  refine num_Put H1 (by rw [wcells_len hs]; omega) (by omega) (by omega) hx (fun hn => absurd ⟨by omega, by omega, by omega, by omega, by simpa using hxw⟩ hn) fun _ w2 hE2 H2 => ?_
  rw [show 0 + (at_ : Int).toNat = at_ by omega, show ((wd : Nat) : Int).toNat = wd by omega, wcells_splice hs (by rw [low_length]; omega)] at H2
  have hs2 : (splN s at_ (low x wd)).length = 128 := by rw [splN_length (by rw [low_length]; omega), hs]
  refine st_one o_T_api_Errno rfl H2 (by rw [wcells_len hs2]; omega) fun w3 hE3 H3 => ?_
  rw [wcells_setE hs2] at H3
  intro _
  rw [ld_one o_T_api_Errno ((H3.cell 129).trans (wcells_e hs2 _ _)), bin_eql, wIf_dt rfl, ld_one o_T_int ((H3.cell 128).trans (wcells_at hs2 _ _)), bin_add (by omega)]
  refine st_one o_T_int rfl H3 (by rw [wcells_len hs2]; omega) fun w4 hE4 H4 => ?_
  rw [show ((at_ : Int) + (wd : Int)) = ((at_ + wd : Nat) : Int) by omega, wcells_setA hs2] at H4
  exact hk w4 (((hE1.nil.trans hE2).trans hE3).trans hE4) H4
end
end Go.Dn
end
section
/-! Contracts of package num: the rest. -/
set_option linter.unusedVariables false
set_option linter.unusedSimpArgs false
namespace Go.Dn
open Go
section
variable {w : World} {K : Value → World → Prop}
def sv (s : List Nat) : Value := .agg ⟨bvs s⟩
theorem num_Writer_Bytes {g at_ n : Nat} {s bs : List Nat} {src : Value} {k : Value → World → Prop} (H : Blk w g T_num_Writer (wcells s at_ 0)) (hs : s.length = 128) (S : SlG w 1 src (bvs bs))
    (hl : bs.length ≤ n) (ha : at_ + n ≤ 128) (hk : ∀ w', Ex [g] w w' → Blk w' g T_num_Writer (wcells (splN s at_ bs) (at_ + n) 0) → k (.tuple #[]) w') :
    wCall P n_num_Writer_Bytes [.pointer (some ⟨g, 0, none⟩), .int .i64 (n : Int), src] w k := by
  refine call_num_Writer_Bytes _ _ _ ?_
  unfold F_num_Writer_Bytes wJ0
  simp only [nil_ptr, fA_T_num_Writer_2, fA_T_num_Writer_0, fA_T_num_Writer_1, Nat.zero_add]
  rw [ld_one o_T_api_Errno ((H.cell 129).trans (wcells_e hs _ _)), bin_eql]
  have hsub : -9223372036854775808 ≤ (128 : Int) - (at_ : Int) ∧ (128 : Int) - (at_ : Int) ≤ 9223372036854775807 := by omega
  simp only [S.len_i (P := P) u_T_Luint8 (by omega) (n := bs.length) (by rw [bvs_length]; omega), bin_lss, ld_one o_T_int ((H.cell 128).trans (wcells_at hs _ _)), bin_sub hsub, bin_gtr, or_p, and_p]
  refine wIf_i _ (fun hb => absurd hb (by simp; omega)) (fun _ => ?_)
  intro _
  rw [ld_one o_T_api_Errno ((H.cell 129).trans (wcells_e hs _ _)), bin_eql, wIf_dt rfl]
  refine draw_i fun w1 hE1 hh1 => ?_
  have H1 := H.heap hh1
  rw [ld_one o_T_int ((H1.cell 128).trans (wcells_at hs _ _)), sliceA_lo a_T_api_Sector (by omega) (by omega)]
  have fin : ∀ o, (bs ≠ [] → o = at_) → o ≤ 128 → wBuiltin P .copy #[T_Luint8, T_Luint8] [.slice (some ⟨g, o, none⟩) (128 - (at_ : Int).toNat) (128 - (at_ : Int).toNat), src] w1 fun _ w => wLoad P T_int (.pointer (some ⟨g, 128, none⟩)) w fun t47 w => wBin P .add T_int t47 (.int .i64 (n : Int)) w fun t49 w => wStore P T_int (.pointer (some ⟨g, 128, none⟩)) t49 w fun w => k (.tuple #[]) w := by
    intro o ho ho128
    have hm : min (bvs bs).length (128 - (at_ : Int).toNat) = bs.length := by rw [bvs_length]; omega
    refine copy_i u_T_Luint8 o_T_uint8 H1 (S.ex0 hE1) (bvs_isC bs) ?_ fun w2 hE2 H2 => ?_
    · rw [hm, wcells_len hs]
      by_cases hb : bs = []
      · subst hb; simp; omega
      · rw [ho hb]; omega
    · have ht : (bvs bs).take (128 - (at_ : Int).toNat) = bvs bs := List.take_of_length_le (by rw [bvs_length]; omega)
      rw [ht] at H2
      have e : splice (wcells s at_ 0) o (bvs bs) = wcells (splN s at_ bs) at_ 0 := by
        by_cases hb : bs = []
        · subst hb; simp [splice, bvs, splN, wcells]
        · rw [ho hb, wcells_splice hs (by omega)]
      rw [e] at H2
      have hs2 : (splN s at_ bs).length = 128 := by rw [splN_length (by omega), hs]
      rw [ld_one o_T_int ((H2.cell 128).trans (wcells_at hs2 _ _)), bin_add (by omega)]
      refine st_one o_T_int rfl H2 (by rw [wcells_len hs2]; omega) fun w3 hE3 H3 => ?_
      rw [show ((at_ : Int) + (n : Int)) = ((at_ + n : Nat) : Int) by omega, wcells_setA hs2] at H3
      exact hk w3 ((hE1.nil.trans hE2).trans hE3) H3
  refine fin _ (fun hb => ?_) ?_
  · have : bs.length ≠ 0 := fun h => hb (List.eq_nil_of_length_eq_zero h)
    rw [if_neg (by omega)]
    omega
  · split <;> omega
theorem num_Writer_Sector {g at_ : Nat} {s : List Nat} {k : Value → World → Prop} (H : Blk w g T_num_Writer (wcells s at_ 0)) (hs : s.length = 128)
    (hk : ∀ w', Ex [] w w' → k (.tuple #[sv s, .int .i64 0]) w') : wCall P n_num_Writer_Sector [.pointer (some ⟨g, 0, none⟩)] w k := by
  refine call_num_Writer_Sector _ ?_
  unfold F_num_Writer_Sector
  refine alloc_i z_T_api_Sector (vs := List.replicate 128 (.int .u8 0)) rfl fun w1 g1 hg1 hE1 B1 => ?_
  simp only [nil_ptr, fA_T_num_Writer_2, fA_T_num_Writer_0, Nat.zero_add]
  have H1 := H.ex hE1 (by simp)
  have hc : Cs w1 g 0 (bvs s) := by
    have := H1.cs 0 128
    rw [List.drop_zero, wcells, List.take_append_of_le_length (by rw [bvs_length]; omega), List.take_of_length_le (by rw [bvs_length]; omega)] at this
    exact this
  rw [ld_one o_T_api_Errno ((H1.cell 129).trans (wcells_e hs _ _)), bin_neq, wIf_df (by simp), ld_agg g_T_api_Sector hc (by rw [bvs_length, hs])]
  refine st_agg g_T_api_Sector (by rw [bvs_length, hs]) (bvs_isC s) B1 (by simp) fun w2 hE2 B2 => ?_
  have e : splice (List.replicate 128 (Value.int .u8 0)) 0 (bvs s) = bvs s := by simp [splice, bvs_length, hs]
  rw [e] at B2
  refine res_agg g_T_api_Sector B2.all (by rw [bvs_length, hs]) ?_
  exact hk w2 (hE1.new hE2 (by omega))
end
end Go.Dn
end
section
/-! Contracts of package num: Reader. -/
set_option linter.unusedVariables false
set_option linter.unusedSimpArgs false
namespace Go.Dn
open Go
section
variable {w : World} {K : Value → World → Prop}
theorem sv_cells (s : List Nat) : (sv s).cells = ⟨bvs s⟩ := rfl
theorem splice_front {cs vs : List Value} {n : Nat} (h : vs.length = n) (hc : n ≤ cs.length) : splice cs 0 vs = vs ++ cs.drop n := by simp [splice, h]
theorem num_Read {s : List Nat} {k : Value → World → Prop} (hs : s.length = 128)
    (hk : ∀ w' g, w.heap.size ≤ g → Ex [] w w' → Blk w' g T_num_Reader (wcells s 0 0) → k (.pointer (some ⟨g, 0, none⟩)) w') : wCall P n_num_Read [sv s] w k := by
  refine call_num_Read _ ?_
  unfold F_num_Read
  refine box_i (sv_cells s) fun w1 g1 hg1 hE1 B1 => ?_
  rw [ld_agg g_T_api_Sector B1.all (by rw [bvs_length, hs])]
  rw [bl_T_num_Reader (cs := wcells s 0 0) (by
    rw [fill_cons (off := 0) (size := 128) rfl rfl (by rw [bvs_length, hs]) (by simp), splice_front (n := 128) (by rw [bvs_length, hs]) (by simp)]
    exact fill_nil)]
  refine box_i (vs := wcells s 0 0) rfl fun w2 g2 hg2 hE2 B2 => ?_
  have := hE1.le
  exact hk w2 g2 (by omega) (hE1.trans hE2) B2
/-- A number is read. -/
theorem num_Reader_Num {g at_ wd : Nat} {s : List Nat} {k : Value → World → Prop} (H : Blk w g T_num_Reader (wcells s at_ 0)) (hs : s.length = 128) (hb : ∀ b ∈ s, b < 256) (hw : 1 ≤ wd ∧ wd ≤ 8) (ha : at_ + wd ≤ 128)
    (hk : ∀ w', Ex [g] w w' → Blk w' g T_num_Reader (wcells s (at_ + wd) 0) → k (.int .u64 (numOf ((s.drop at_).take wd) : Nat)) w') :
    wCall P n_num_Reader_Num [.pointer (some ⟨g, 0, none⟩), .int .i64 (wd : Int)] w k := by
  refine call_num_Reader_Num _ _ ?_
  unfold F_num_Reader_Num
  simp only [nil_ptr, fA_T_num_Reader_2, fA_T_num_Reader_0, fA_T_num_Reader_1, Nat.zero_add]
  rw [ld_one o_T_api_Errno ((H.cell 129).trans (wcells_e hs _ _)), bin_neq, wIf_df (by simp)]
  refine draw_i fun w1 hE1 hh1 => ?_
  have H1 := H.heap hh1
  rw [sliceA_all a_T_api_Sector, ld_one o_T_int ((H1.cell 128).trans (wcells_at hs _ _))]
  have hc : Cs w1 g 0 (bvs s) := by
    have := H1.cs 0 128
    rw [List.drop_zero, wcells, List.take_append_of_le_length (by rw [bvs_length]; omega), List.take_of_length_le (by rw [bvs_length]; omega)] at this
    exact this
  refine num_Get (bs := s) (SlG.of_cs hc (by rw [bvs_length]; omega) (by omega)) hb hs (by omega) (by omega) (fun hn => absurd ⟨by omega, by omega, by omega, by omega⟩ hn) fun _ => ?_
  rw [ext_0, ext_1]
  refine st_one o_T_api_Errno rfl H1 (by rw [wcells_len hs]; omega) fun w3 hE3 H3 => ?_
  rw [wcells_setE hs] at H3
  rw [bin_eql, wIf_dt rfl, ld_one o_T_int ((H3.cell 128).trans (wcells_at hs _ _)), bin_add (by omega)]
  refine st_one o_T_int rfl H3 (by rw [wcells_len hs]; omega) fun w4 hE4 H4 => ?_
  rw [show ((at_ : Int) + (wd : Int)) = ((at_ + wd : Nat) : Int) by omega, wcells_setA hs] at H4
  simp only [Int.toNat_natCast]
  exact hk w4 ((hE1.nil.trans hE3).trans hE4) H4
theorem num_Reader_Left {g at_ : Nat} {s : List Nat} {k : Value → World → Prop} (H : Blk w g T_num_Reader (wcells s at_ 0)) (hs : s.length = 128) (ha : at_ ≤ 128)
    (hk : k (.int .i64 ((128 - at_ : Nat) : Int)) w) : wCall P n_num_Reader_Left [.pointer (some ⟨g, 0, none⟩)] w k := by
  refine call_num_Reader_Left _ ?_
  unfold F_num_Reader_Left
  simp only [nil_ptr, fA_T_num_Reader_1, Nat.zero_add]
  rw [ld_one o_T_int ((H.cell 128).trans (wcells_at hs _ _)), bin_sub (by omega), show ((128 : Int) - (at_ : Int)) = ((128 - at_ : Nat) : Int) by omega]
  exact hk
theorem num_Reader_Bytes {g at_ n : Nat} {s : List Nat} {k : Value → World → Prop} (H : Blk w g T_num_Reader (wcells s at_ 0)) (hs : s.length = 128) (ha : at_ + n ≤ 128)
    (hk : ∀ v w', Ex [g] w w' → Blk w' g T_num_Reader (wcells s (at_ + n) 0) → Own w' w.heap.size T_uint8 1 v (bvs ((s.drop at_).take n)) → k v w') :
    wCall P n_num_Reader_Bytes [.pointer (some ⟨g, 0, none⟩), .int .i64 (n : Int)] w k := by
  refine call_num_Reader_Bytes _ _ ?_
  unfold F_num_Reader_Bytes wJ0
  simp only [nil_ptr, fA_T_num_Reader_2, fA_T_num_Reader_0, fA_T_num_Reader_1, Nat.zero_add]
  rw [ld_one o_T_api_Errno ((H.cell 129).trans (wcells_e hs _ _)), bin_eql]
  refine and_i (r := false) (fun _ k' hk' => ?_) ?_
  · rw [bin_lss]
    refine or_i (r := false) (fun _ k2 hk2 => ?_) ?_
    · refine num_Reader_Left H hs (by omega) ?_
      rw [bin_gtr, show decide (((128 - at_ : Nat) : Int) < (n : Int)) = false from by simp; omega]
      exact hk2
    · rw [show (decide ((n : Int) < 0) || false) = false from by simp]
      exact hk'
  · rw [Bool.and_false, wIf_f]
    intro _
    rw [ld_one o_T_api_Errno ((H.cell 129).trans (wcells_e hs _ _)), bin_neq, wIf_df (by simp), ld_one o_T_int ((H.cell 128).trans (wcells_at hs _ _)), bin_add (by omega)]
    refine st_one o_T_int rfl H (by rw [wcells_len hs]; omega) fun w1 hE1 H1 => ?_
    rw [show ((at_ : Int) + (n : Int)) = ((at_ + n : Nat) : Int) by omega, wcells_setA hs] at H1
    refine draw_i fun w2 hE2 hh2 => ?_
    have H2 := H1.heap hh2
    rw [ld_one o_T_int ((H2.cell 128).trans (wcells_at hs _ _)), bin_sub (by omega), ld_one o_T_int ((H2.cell 128).trans (wcells_at hs _ _)),
      show (((at_ + n : Nat) : Int) - (n : Int)) = (at_ : Int) by omega, sliceA_lohi a_T_api_Sector (by omega) (by omega) (by omega)]
    have hc : Cs w2 g 0 (bvs s) := by
      have := H2.cs 0 128
      rw [List.drop_zero, wcells, List.take_append_of_le_length (by rw [bvs_length]; omega), List.take_of_length_le (by rw [bvs_length]; omega)] at this
      exact this
    have hS : SlG w2 1 (.slice (some ⟨g, if 128 = (at_ : Int).toNat then 0 else 0 + (at_ : Int).toNat * 1, none⟩) (((at_ + n : Nat) : Int).toNat - (at_ : Int).toNat) (128 - (at_ : Int).toNat)) (bvs ((s.drop at_).take n)) := by
      rw [show ((at_ + n : Nat) : Int).toNat - (at_ : Int).toNat = n by omega, show 128 - (at_ : Int).toNat = 128 - at_ by omega]
      refine ⟨_, n, 128 - at_, rfl, ?_, by omega, fun hn => ⟨g, at_, ?_, ?_⟩⟩
      · rw [bvs_length, List.length_take, List.length_drop]; omega
      · rw [if_neg (by omega), show 0 + (at_ : Int).toNat * 1 = at_ by omega]
      · have := hc.sub at_ n
        rw [Nat.zero_add] at this
        rw [bvs, List.map_take, List.map_drop]
        exact this
    have e1 := hE1.le
    have e2 := hE2.le
    refine app_T_Luint8 (base := w2.heap.size) (n := 0) (m := n) (Own.nil _ _ _ _) hS rfl (by rw [bvs_length, List.length_take, List.length_drop]; omega) (bvs_isC _) (by omega) (Nat.le_refl _) fun v w3 hO3 hE3 _ => ?_
    refine hk v w3 ((hE1.trans hE2.nil).trans (hE3.mono (by simp [Value.ownBlock]))) (H2.ex hE3 (by simp [Value.ownBlock])) ?_
    simpa using hO3.base (by omega)
end
end Go.Dn
end
section
/-! Texts of functions, printed by mkg.py. -/
set_option maxRecDepth 100000
set_option linter.unusedVariables false
namespace Go.Dn
open Go Go.Proofs
def F_ref01_Full (a0 : Value) (w : World) (k : Value → World → Prop) : Prop :=
  wAlloc P T_A128uint8 w fun t2 w =>
  wAlloc P T_A128uint8 w fun t3 w =>
  wJ0 (fun k1 =>
    wL1 (.int .i64 0) w (fun _ v4 w k2 =>
      wLen P .len #[T_Luint8] [a0] w fun t7 w =>
      wBin P .lss T_int v4 t7 w fun t8 w =>
      wGrp t8 true (fun k11 =>
        wBin P .lss T_int v4 (.int .i64 128) w fun t11 w =>
        k11 t11 w) w fun _ t11 w =>
      wPick t8 t11 (.bool false) w fun t12 w =>
      wIf t12 (
        wIndexA P T_Luint8 a0 v4 w fun t18 w =>
        wLoad P T_uint8 t18 w fun t19 w =>
        wIndexA P T_A128uint8 t3 v4 w fun t20 w =>
        wStore P T_uint8 t20 t19 w fun w =>
        wBin P .add T_int v4 (.int .i64 1) w fun t14 w =>
        k2 t14 w) (
        k1 w))) fun _ w =>
  wLoad P T_A128uint8 t3 w fun t21 w =>
  wStore P T_A128uint8 t2 t21 w fun w =>
  wRes P T_A128uint8 t2 w fun r2 =>
  k r2 w

theorem call_ref01_Full (a0 : Value) {w : World} {k : Value → World → Prop} (h : F_ref01_Full a0 w k) : wCall P n_ref01_Full [a0] w k :=
  call_of_den mixedP Try.func68 (by kernel_rfl) (.s .z (.s .z (.j [] [2, 3] (.s .z (.b (.l [4] [0, 2, 3] (.s (.s (.r (.ops [0, 1, 2, 3, 4] (.grp 4 true 11 [10] (.ops [5, 6] .nil) (.ops [7] .nil)))) .z) .z)))) .z))) (by kernel_rfl) (Eq.mp (by kernel_rfl) h)

def F_ref01_Equal (a0 a1 : Value) (w : World) (k : Value → World → Prop) : Prop :=
  wLen P .len #[T_Luint8] [a0] w fun t7 w =>
  wLen P .len #[T_Luint8] [a1] w fun t9 w =>
  wBin P .neq T_int t7 t9 w fun t10 w =>
  wIf t10 (
    k (.bool false) w) (
    wL1 (.int .i64 0) w (fun _ v5 w k2 =>
      wLen P .len #[T_Luint8] [a0] w fun t13 w =>
      wBin P .lss T_int v5 t13 w fun t14 w =>
      wIf t14 (
        wDraw w fun w =>
        wIndexA P T_Luint8 a0 v5 w fun t19 w =>
        wLoad P T_uint8 t19 w fun t20 w =>
        wIndexA P T_Luint8 a1 v5 w fun t23 w =>
        wLoad P T_uint8 t23 w fun t24 w =>
        wBin P .neq T_uint8 t20 t24 w fun t25 w =>
        wIf t25 (
          k (.bool false) w) (
          wBin P .add T_int v5 (.int .i64 1) w fun t16 w =>
          k2 t16 w)) (
        k (.bool true) w)))

theorem call_ref01_Equal (a0 a1 : Value) {w : World} {k : Value → World → Prop} (h : F_ref01_Equal a0 a1 w k) : wCall P n_ref01_Equal [a0, a1] w k :=
  call_of_den mixedP Try.func116 (by kernel_rfl) (.s .z (.s .z (.s (.s .z (.b (.l [5] [0, 1] (.s .z (.s (.b (.s (.r (.ops [0, 1, 2, 3, 4, 5, 6, 7, 8] .nil)) .z)) .z))))) .z))) (by kernel_rfl) (Eq.mp (by kernel_rfl) h)

def F_ref01_Low (a0 a1 : Value) (w : World) (k : Value → World → Prop) : Prop :=
  wL3 a0 (.slice none 0 0) (.int .i64 0) w (fun _ v0 v5 v6 w k1 =>
    wBin P .lss T_int v6 a1 w fun t9 w =>
    wIf t9 (
      wBin P .rem T_uint64 v0 (.int .u64 256) w fun t14 w =>
      wConv P T_uint64 T_uint8 t14 w fun t15 w =>
      wBuildS P T_Luint8 1 [(0, t15)] w fun t16 w =>
      wBuiltin P .append #[T_Luint8, T_Luint8] [v5, t16] w fun t17 w =>
      wBin P .quo T_uint64 v0 (.int .u64 256) w fun t19 w =>
      wBin P .add T_int v6 (.int .i64 1) w fun t11 w =>
      k1 t19 t17 t11 w) (
      k v5 w))

theorem call_ref01_Low (a0 a1 : Value) {w : World} {k : Value → World → Prop} (h : F_ref01_Low a0 a1 w k) : wCall P n_ref01_Low [a0, a1] w k :=
  call_of_den mixedP Try.func173 (by kernel_rfl) (.s .z (.s .z (.s (.s .z (.b (.l [0, 5, 6] [1] .z))) .z))) (by kernel_rfl) (Eq.mp (by kernel_rfl) h)

def F_ref01_Num (a0 : Value) (w : World) (k : Value → World → Prop) : Prop :=
  wLen P .len #[T_Luint8] [a0] w fun t6 w =>
  wBin P .sub T_int t6 (.int .i64 1) w fun t7 w =>
  wL2 (.int .u64 0) t7 w (fun _ v3 v4 w k1 =>
    wBin P .geq T_int v4 (.int .i64 0) w fun t9 w =>
    wIf t9 (
      wBin P .mul T_uint64 (.int .u64 256) v3 w fun t13 w =>
      wIndexA P T_Luint8 a0 v4 w fun t16 w =>
      wLoad P T_uint8 t16 w fun t17 w =>
      wConv P T_uint8 T_uint64 t17 w fun t18 w =>
      wBin P .add T_uint64 t13 t18 w fun t19 w =>
      wBin P .sub T_int v4 (.int .i64 1) w fun t11 w =>
      k1 t19 t11 w) (
      k v3 w))

theorem call_ref01_Num (a0 : Value) {w : World} {k : Value → World → Prop} (h : F_ref01_Num a0 w k) : wCall P n_ref01_Num [a0] w k :=
  call_of_den mixedP Try.func177 (by kernel_rfl) (.s .z (.s .z (.s (.s .z (.b (.l [3, 4] [0] .z))) .z))) (by kernel_rfl) (Eq.mp (by kernel_rfl) h)

def F_ref01_Has (a0 a1 : Value) (w : World) (k : Value → World → Prop) : Prop :=
  wBin P .lss T_int a0 (.int .i64 1) w fun t7 w =>
  wGrp t7 false (fun k10 =>
    wBin P .gtr T_int a0 (.int .i64 8) w fun t10 w =>
    k10 t10 w) w fun _ t10 w =>
  wPick t7 (.bool true) t10 w fun t11 w =>
  wIf t11 (
    k (.bool false) w) (
    wJ1 (fun k2 =>
      wL2 a1 (.int .i64 0) w (fun _ v1 v5 w k3 =>
        wBin P .lss T_int v5 a0 w fun t14 w =>
        wIf t14 (
          wBin P .quo T_uint64 v1 (.int .u64 256) w fun t18 w =>
          wBin P .add T_int v5 (.int .i64 1) w fun t16 w =>
          k3 t18 t16 w) (
          k2 v1 w))) fun _ v1 w =>
    wBin P .eql T_uint64 v1 (.int .u64 0) w fun t20 w =>
    k t20 w)

theorem call_ref01_Has (a0 a1 : Value) {w : World} {k : Value → World → Prop} (h : F_ref01_Has a0 a1 w k) : wCall P n_ref01_Has [a0, a1] w k :=
  call_of_den mixedP Try.func243 (by kernel_rfl) (.s .z (.s (.s (.r (.ops [0, 1, 2] (.grp 2 false 10 [9] (.ops [3, 4] .nil) (.ops [5] .nil)))) .z) (.j [1] [] (.s .z (.b (.l [1, 5] [0] .z))) .z))) (by kernel_rfl) (Eq.mp (by kernel_rfl) h)

end Go.Dn
end
section
/-! Sealed sectors, plain. -/
set_option linter.unusedVariables false
set_option linter.unusedSimpArgs false
namespace Go.Dn
def crcStep (c : Nat) : Nat := if c % 2 = 1 then (c / 2) ^^^ 3988292384 else c / 2
def crcSteps : Nat → Nat → Nat
  | 0, c => c
  | n + 1, c => crcStep (crcSteps n c)
def crcGo (c : Nat) (l : List Nat) : Nat := l.foldl (fun c b => crcSteps 8 (c ^^^ b)) c
def crc (l : List Nat) : Nat := 4294967295 - crcGo 4294967295 l
theorem crcStep_lt {c : Nat} (h : c < 4294967296) : crcStep c < 4294967296 := by
  unfold crcStep
  split
  · exact Nat.xor_lt_two_pow (n := 32) (by omega) (by decide)
  · omega
theorem crcSteps_lt {c : Nat} (h : c < 4294967296) : ∀ n, crcSteps n c < 4294967296
  | 0 => h
  | n + 1 => crcStep_lt (crcSteps_lt h n)
theorem crcGo_lt {l : List Nat} (hl : ∀ b ∈ l, b < 256) : ∀ {c : Nat}, c < 4294967296 → crcGo c l < 4294967296 := by
  induction l with
  | nil => exact fun h => h
  | cons b l ih =>
    intro c h
    have hb := hl b (List.mem_cons_self ..)
    exact ih (fun x hx => hl x (List.mem_cons_of_mem _ hx)) (crcSteps_lt (Nat.xor_lt_two_pow (n := 32) h (by omega)) 8)
theorem crcGo_snoc (c : Nat) (l : List Nat) (b : Nat) : crcGo c (l ++ [b]) = crcSteps 8 (crcGo c l ^^^ b) := by
  unfold crcGo; rw [List.foldl_append]; rfl
theorem crc_lt (l : List Nat) : crc l < 4294967296 := by unfold crc; omega
/-- A sealed sector's first 124 bytes. -/
def sealHead (kind : Nat) (body : List Nat) : List Nat := [215, 76, kind, body.length] ++ body ++ List.replicate (120 - body.length) 0
def sealS (kind : Nat) (body : List Nat) : List Nat := sealHead kind body ++ low (crc (sealHead kind body)) 4
theorem sealHead_length {kind : Nat} {body : List Nat} (h : body.length ≤ 120) : (sealHead kind body).length = 124 := by simp [sealHead]; omega
theorem sealS_length {kind : Nat} {body : List Nat} (h : body.length ≤ 120) : (sealS kind body).length = 128 := by simp [sealS, sealHead_length h, low_length]
theorem sealHead_lt {kind : Nat} {body : List Nat} (hk : kind < 256) (hl : body.length ≤ 120) (hb : ∀ b ∈ body, b < 256) : ∀ b ∈ sealHead kind body, b < 256 := by
  intro b hm
  simp only [sealHead, List.mem_append, List.mem_cons, List.mem_replicate, List.not_mem_nil, or_false] at hm
  rcases hm with (h | h) | h
  · omega
  · exact hb b h
  · omega
theorem sealS_lt {kind : Nat} {body : List Nat} (hk : kind < 256) (hl : body.length ≤ 120) (hb : ∀ b ∈ body, b < 256) : ∀ b ∈ sealS kind body, b < 256 := by
  intro b hm
  rcases List.mem_append.1 hm with h | h
  · exact sealHead_lt hk hl hb b h
  · exact low_lt _ _ b h
/-- What may be made: none where the kind is nought or the body too long. -/
def sealMk (kind : Nat) (body : List Nat) : Option (List Nat) := if kind = 0 ∨ 120 < body.length then none else some (sealS kind body)
/-- A sector's kind and body. -/
def bodyS (s : List Nat) : List Nat := (s.drop 4).take (s.getD 3 0)
def sealOp (s : List Nat) : Option (Nat × List Nat) :=
  if 120 < s.getD 3 0 then none
  else if sealMk (s.getD 2 0) (bodyS s) = some s then some (s.getD 2 0, bodyS s) else none
theorem sealOp_mk {kind : Nat} {body : List Nat} (hk : kind ≠ 0) (hl : body.length ≤ 120) : sealOp (sealS kind body) = some (kind, body) := by
  have h3 : (sealS kind body).getD 3 0 = body.length := rfl
  have h2 : (sealS kind body).getD 2 0 = kind := rfl
  have hb : bodyS (sealS kind body) = body := by
    unfold bodyS
    rw [h3]
    show ((body ++ List.replicate (120 - body.length) 0) ++ low _ 4).take body.length = body
    rw [List.append_assoc, List.take_left']
    rfl
  unfold sealOp
  rw [h3, if_neg (by omega), h2, hb]
  have : sealMk kind body = some (sealS kind body) := by
    unfold sealMk
    rw [if_neg (by omega)]
  rw [if_pos this]
theorem sealOp_some {s : List Nat} {kind : Nat} {body : List Nat} (h : sealOp s = some (kind, body)) : kind ≠ 0 ∧ body.length ≤ 120 ∧ s = sealS kind body := by
  unfold sealOp at h
  split at h
  · cases h
  · split at h
    · rename_i hm
      injection h with h
      injection h with h1 h2
      rw [h1, h2] at hm
      unfold sealMk at hm
      split at hm
      · cases hm
      · injection hm with hm
        rename_i hc
        exact ⟨fun h => hc (.inl h), by omega, hm.symm⟩
    · cases h
end Go.Dn
end
section
/-! Contracts of the reference's plain things. -/
set_option linter.unusedVariables false
set_option linter.unusedSimpArgs false
namespace Go.Dn
open Go
section
variable {w : World} {K : Value → World → Prop}
theorem conv_64_8r {x : Nat} : wConv P T_uint64 T_uint8 (.int .u64 (x : Int)) w K = K (.int .u8 ((x % 256 : Nat) : Int)) w := conv_64_8
/-- 'append(l, x)' of bytes. -/
theorem push_u8 {base n : Nat} {v : Value} {xs : List Nat} {b : Nat} {K : Value → World → Prop} (ho : Own w base T_uint8 1 v (bvs xs)) (hn : xs.length = n) (hb : n ≤ 1000000) (hba : base ≤ w.heap.size)
    (hk : ∀ v' w', Own w' base T_uint8 1 v' (bvs (xs ++ [b])) → Ex v.ownBlock.toList w w' → (v'.ownBlock = v.ownBlock ∨ ∃ g, v'.ownBlock = some g ∧ w.heap.size ≤ g) → K v' w') :
    wBuildS P T_Luint8 1 [(0, .int .u8 (b : Int))] w fun t w => wBuiltin P .append #[T_Luint8, T_Luint8] [v, t] w K := by
  refine buildS_1 u_T_Luint8 (sizeOf_one o_T_uint8) z_T_uint8 (by omega) rfl rfl rfl fun w1 g1 hg1 hE1 B1 => ?_
  have hle := hE1.le
  refine app_T_Luint8 (n := n) (m := 1) (ho.ex0 hE1) (SlG.of_cs B1.all (by simp) (Nat.le_refl _)) (by rw [bvs_length]; omega) (by simp) (by intro u hu; simp at hu; subst hu; rfl) (by omega) (by omega) fun v' w2 hO hE hv => ?_
  refine hk v' w2 (by rw [bvs_append]; exact hO) (hE1.nil.trans hE) ?_
  rcases hv with h | h
  · exact .inl h
  · exact .inr ⟨_, h, by omega⟩
theorem ref01_Low {x wd : Nat} {k : Value → World → Prop} (hx : x < 18446744073709551616) (hw : wd ≤ 1000)
    (hk : ∀ v w', Ex [] w w' → Own w' w.heap.size T_uint8 1 v (bvs (low x wd)) → k v w') : wCall P n_ref01_Low [.int .u64 x, .int .i64 (wd : Int)] w k := by
  refine call_ref01_Low _ _ ?_
  unfold F_ref01_Low
  refine loop_up3 wd (fun i a v u w' => a = .int .u64 (x / 256 ^ i : Nat) ∧ u = .int .i64 (i : Int) ∧ Ex [] w w' ∧ Own w' w.heap.size T_uint8 1 v (bvs (low x i))) ⟨by simp, rfl, Ex.refl _ _, by simpa [low, bvs] using Own.nil w w.heap.size T_uint8 1⟩ ?_
  rintro i J a v u w' k' hi ⟨rfl, rfl, hE, hO⟩ hk'
  have hle := hE.le
  have hd : x / 256 ^ i < 18446744073709551616 := Nat.lt_of_le_of_lt (Nat.div_le_self _ _) hx
  rw [bin_lss]
  refine wIf_d (fun hlt => ?_) (fun hge => ?_)
  · have e256 : (256 : Int) = ((256 : Nat) : Int) := rfl
    rw [e256, bin_remN (by decide), conv_64_8]
    refine push_u8 hO (n := i) (low_length _ _) (by omega) hle fun v' w2 hO2 hE2 _ => ?_
    rw [bin_quoN rfl (by simp only [IntKind.bits]; omega) (by decide), bin_add (by omega)]
    refine hk' _ _ _ _ (by omega) ⟨?_, rfl, hE.step hE2 fun y hy => ?_, ?_⟩
    · rw [Nat.div_div_eq_div_mul, Nat.pow_succ]
    · right
      cases hv : v.ownBlock with
      | none => rw [hv] at hy; simp at hy
      | some g =>
        rw [hv] at hy
        simp at hy
        have := (hO.blk hv).1
        omega
    · rw [low_snoc]
      have : x / 256 ^ i % 256 % 256 = x / 256 ^ i % 256 := by omega
      rw [this] at hO2
      exact hO2
  · obtain rfl : i = wd := by omega
    exact hk v w' hE hO
theorem ref01_Num {v : Value} {bs : List Nat} {k : Value → World → Prop} (S : SlG w 1 v (bvs bs)) (hb : ∀ b ∈ bs, b < 256) (hl : bs.length ≤ 8) (hk : k (.int .u64 (numOf bs : Nat)) w) : wCall P n_ref01_Num [v] w k := by
  refine call_ref01_Num _ ?_
  unfold F_ref01_Num
  rw [S.len_i u_T_Luint8 (by omega) (n := bs.length) (by rw [bvs_length]; omega), bin_sub (by omega)]
  refine loop_up2 bs.length (fun i a u w' => a = .int .u64 (numOf (bs.drop (bs.length - i)) : Nat) ∧ u = .int .i64 ((bs.length : Int) - 1 - (i : Int)) ∧ w' = w) ⟨by simp [numOf], by simp, rfl⟩ ?_
  rintro i J a u w' k' hi ⟨rfl, rfl, rfl⟩ hk'
  rw [bin_geq]
  refine wIf_d (fun hge => ?_) (fun hlt => ?_)
  · have hlt : bs.length - 1 - i < bs.length := by omega
    have e1 : bs.drop (bs.length - (i + 1)) = bs[bs.length - 1 - i] :: bs.drop (bs.length - i) := by
      rw [show bs.length - (i + 1) = bs.length - 1 - i by omega, List.drop_eq_getElem_cons hlt]
      congr 2
      omega
    have hbl := hb _ (List.getElem_mem hlt)
    have hnum : numOf (bs.drop (bs.length - (i + 1))) < 18446744073709551616 := by
      have := numOf_lt (bs.drop (bs.length - (i + 1))) (fun b hm => hb b (List.mem_of_mem_drop hm))
      exact Nat.lt_of_lt_of_le this (pow256_le (by rw [List.length_drop]; omega))
    rw [e1] at hnum
    simp only [numOf] at hnum
    rw [bin_mulw, show IntKind.u64.wrap ((256 : Int) * ((numOf (bs.drop (bs.length - i)) : Nat) : Int)) = ((256 * numOf (bs.drop (bs.length - i)) : Nat) : Int) from by
      rw [show ((256 : Int) * ((numOf (bs.drop (bs.length - i)) : Nat) : Int)) = ((256 * numOf (bs.drop (bs.length - i)) : Nat) : Int) by omega]
      exact wrapN rfl (by simp only [IntKind.bits]; omega)]
    refine S.ix1 (x := .int .u8 (bs[bs.length - 1 - i] : Nat)) s_T_Luint8 (by omega) (by rw [show ((bs.length : Int) - 1 - (i : Int)).toNat = bs.length - 1 - i by omega]; exact bvs_get (List.getElem?_eq_getElem hlt)) fun ad had => ?_
    rw [ld_one o_T_uint8 had, conv_8_64 hbl, bin_addw, show IntKind.u64.wrap (((256 * numOf (bs.drop (bs.length - i)) : Nat) : Int) + ((bs[bs.length - 1 - i] : Nat) : Int)) = ((bs[bs.length - 1 - i] + 256 * numOf (bs.drop (bs.length - i)) : Nat) : Int) from by
      rw [show (((256 * numOf (bs.drop (bs.length - i)) : Nat) : Int) + ((bs[bs.length - 1 - i] : Nat) : Int)) = ((bs[bs.length - 1 - i] + 256 * numOf (bs.drop (bs.length - i)) : Nat) : Int) by omega]
      exact wrapN rfl (by simp only [IntKind.bits]; omega), bin_sub (by omega)]
    refine hk' _ _ _ (by omega) ⟨?_, by congr 1; omega, rfl⟩
    rw [e1]
    rfl
  · obtain rfl : i = bs.length := by omega
    rw [Nat.sub_self, List.drop_zero]
    exact hk
theorem ref01_Has {x : Nat} {wd : Int} {k : Value → World → Prop} (hx : x < 18446744073709551616) (hk : k (.bool (decide (1 ≤ wd ∧ wd ≤ 8 ∧ x < 256 ^ wd.toNat))) w) : wCall P n_ref01_Has [.int .i64 wd, .int .u64 x] w k := by
  refine call_ref01_Has _ _ ?_
  unfold F_ref01_Has
  simp only [bin_lss, bin_gtr, or_p]
  refine wIf_i _ (fun hb => ?_) (fun hb => ?_)
  · simp only [Bool.or_eq_true, decide_eq_true_eq] at hb
    have hn : ¬ (1 ≤ wd ∧ wd ≤ 8 ∧ x < 256 ^ wd.toNat) := fun h => by omega
    rw [decide_eq_false hn] at hk
    exact hk
  · simp only [Bool.or_eq_false_iff, decide_eq_false_iff_not] at hb
    obtain ⟨m, rfl⟩ : ∃ m : Nat, wd = m := ⟨wd.toNat, by omega⟩
    unfold wJ1
    refine loop_up2 m (fun i a u w' => a = .int .u64 (x / 256 ^ i : Nat) ∧ u = .int .i64 (i : Int) ∧ w' = w) ⟨by simp, rfl, rfl⟩ ?_
    rintro i J a u w' k' hi ⟨rfl, rfl, rfl⟩ hk'
    have hd : x / 256 ^ i < 18446744073709551616 := Nat.lt_of_le_of_lt (Nat.div_le_self _ _) hx
    rw [bin_lss]
    refine wIf_d (fun hlt => ?_) (fun hge => ?_)
    · have e256 : (256 : Int) = ((256 : Nat) : Int) := rfl
      rw [e256, bin_quoN rfl (by simp only [IntKind.bits]; omega) (by decide), bin_add (by omega)]
      exact hk' _ _ _ (by omega) ⟨by rw [Nat.div_div_eq_div_mul, Nat.pow_succ], rfl, rfl⟩
    · obtain rfl : i = m := by omega
      intro _
      rw [bin_eql]
      have : decide (((x / 256 ^ i : Nat) : Int) = 0) = decide (1 ≤ (i : Int) ∧ (i : Int) ≤ 8 ∧ x < 256 ^ ((i : Nat) : Int).toNat) := by
        congr 1
        simp only [eq_iff_iff, Int.toNat_natCast]
        have hp : 0 < 256 ^ i := Nat.pow_pos (by decide)
        constructor
        · intro h0
          refine ⟨by omega, by omega, ?_⟩
          rcases Nat.lt_or_ge x (256 ^ i) with h | h
          · exact h
          · have := Nat.div_pos h hp; omega
        · intro ⟨_, _, h⟩
          rw [Nat.div_eq_of_lt h]; rfl
      rw [this]
      exact hk
theorem ref01_Full {v : Value} {bs : List Nat} {k : Value → World → Prop} (S : SlG w 1 v (bvs bs)) (hl : bs.length ≤ 4611686018427387904)
    (hk : ∀ w', Ex [] w w' → k (sv (bs.take 128 ++ List.replicate (128 - bs.length) 0)) w') : wCall P n_ref01_Full [v] w k := by
  refine call_ref01_Full _ ?_
  unfold F_ref01_Full
  refine alloc_i z_T_A128uint8 (vs := List.replicate 128 (.int .u8 0)) rfl fun w1 g1 hg1 hE1 B1 => ?_
  refine alloc_i z_T_A128uint8 (vs := List.replicate 128 (.int .u8 0)) rfl fun w2 g2 hg2 hE2 B2 => ?_
  have hle1 := hE1.le
  have hle2 := hE2.le
  have hlt1 := B1.lt
  have B1' := B1.ex hE2 (by simp)
  have E2 := hE1.trans hE2
  have hz : ∀ n, bvs (List.replicate n 0) = List.replicate n (Value.int .u8 0) := by intro n; simp [bvs]
  unfold wJ0
  refine loop_up (min bs.length 128) (fun i u w' => u = .int .i64 (i : Int) ∧ Ex [g2] w2 w' ∧ Blk w' g2 T_A128uint8 (bvs (bs.take i ++ List.replicate (128 - i) 0))) ⟨rfl, Ex.refl _ _, by rw [List.take_zero, List.nil_append, Nat.sub_zero, hz]; exact B2⟩ ?_
  rintro i J u w' k' hi ⟨rfl, hE, hB⟩ hk'
  have S3 : SlG w' 1 v (bvs bs) := S.ex0 (E2.new hE (by omega))
  simp only [S3.len_i (P := P) u_T_Luint8 (by omega) (n := bs.length) (by rw [bvs_length]; omega), bin_lss, and_p]
  refine wIf_i _ (fun hb => ?_) (fun hb => ?_)
  · simp only [Bool.and_eq_true, decide_eq_true_eq] at hb
    have hlt : i < bs.length := by omega
    refine S3.ix1 (x := .int .u8 (bs[i] : Nat)) s_T_Luint8 (by omega) (bvs_get (List.getElem?_eq_getElem hlt)) fun ad had => ?_
    rw [ld_one o_T_uint8 had, indexA_i a_T_A128uint8 (by omega) (by omega)]
    refine st_one o_T_uint8 rfl hB (by simp [bvs_length]; omega) fun w3 hE3 B3 => ?_
    rw [bin_add (by omega)]
    refine hk' _ _ (by omega) ⟨rfl, hE.trans hE3, ?_⟩
    have e : (bvs (bs.take i ++ List.replicate (128 - i) 0)).set (0 + ((i : Nat) : Int).toNat * 1) (.int .u8 ((bs[i] : Nat) : Int)) = bvs (bs.take (i + 1) ++ List.replicate (128 - (i + 1)) 0) := by
      rw [show 0 + ((i : Nat) : Int).toNat * 1 = i by omega]
      have : bvs ((bs.take i ++ List.replicate (128 - i) 0).set i bs[i]) = (bvs (bs.take i ++ List.replicate (128 - i) 0)).set i (.int .u8 ((bs[i] : Nat) : Int)) := by simp [bvs, List.map_set]
      rw [← this]
      congr 1
      rw [List.set_append_right _ _ (by simp; omega), List.take_succ_eq_append_getElem hlt]
      have : 128 - i = (128 - (i + 1)) + 1 := by omega
      rw [this, List.replicate_succ]
      have h0 : i - (bs.take i).length = 0 := by simp; omega
      rw [h0, List.set_cons_zero, List.append_assoc, List.singleton_append]
    rw [e] at B3
    exact B3
  · have hi' : i = min bs.length 128 := by
      simp only [Bool.and_eq_false_iff, decide_eq_false_iff_not] at hb
      omega
    intro _
    have e : bs.take i ++ List.replicate (128 - i) 0 = bs.take 128 ++ List.replicate (128 - bs.length) 0 := by
      subst hi'
      rcases Nat.le_total bs.length 128 with h | h
      · rw [Nat.min_eq_left h, List.take_of_length_le (Nat.le_refl _), List.take_of_length_le h]
      · rw [Nat.min_eq_right h]; simp [show 128 - bs.length = 0 by omega]
    rw [e] at hB
    have hlen : (bvs (bs.take 128 ++ List.replicate (128 - bs.length) 0)).length = 128 := by rw [bvs_length]; simp; omega
    rw [ld_agg g_T_A128uint8 hB.all hlen]
    have hne : g1 ≠ g2 := by omega
    have B1'' := B1'.ex hE (by simp; exact hne)
    refine st_agg g_T_A128uint8 hlen (bvs_isC _) B1'' (by simp) fun w4 hE4 B4 => ?_
    have e2 : splice (List.replicate 128 (Value.int .u8 0)) 0 (bvs (bs.take 128 ++ List.replicate (128 - bs.length) 0)) = bvs (bs.take 128 ++ List.replicate (128 - bs.length) 0) := by
      rw [splice_front hlen (by rw [List.length_replicate]; exact Nat.le_refl _), List.drop_of_length_le (by rw [List.length_replicate]; exact Nat.le_refl _), List.append_nil]
    rw [e2] at B4
    refine res_agg g_T_A128uint8 B4.all hlen ?_
    exact hk w4 ((E2.new hE (by omega)).new hE4 (by omega))
end
end Go.Dn
end
section
/-! Texts of functions, printed by mkg.py. -/
set_option maxRecDepth 100000
set_option linter.unusedVariables false
namespace Go.Dn
open Go Go.Proofs
def F_ref02_Crc (a0 : Value) (w : World) (k : Value → World → Prop) : Prop :=
  wJ1 (fun k1 =>
    wL2 (.int .u32 4294967295) (.int .i64 0) w (fun _ v3 v4 w k2 =>
      wLen P .len #[T_Luint8] [a0] w fun t8 w =>
      wBin P .lss T_int v4 t8 w fun t9 w =>
      wIf t9 (
        wJ1 (fun k4 =>
          wIndexA P T_Luint8 a0 v4 w fun t15 w =>
          wLoad P T_uint8 t15 w fun t16 w =>
          wConv P T_uint8 T_uint32 t16 w fun t17 w =>
          wBin P .xor T_uint32 v3 t17 w fun t18 w =>
          wL2 t18 (.int .i64 0) w (fun _ v3 v5 w k5 =>
            wBin P .lss T_int v5 (.int .i64 8) w fun t20 w =>
            wIf t20 (
              wBin P .rem T_uint32 v3 (.int .u32 2) w fun t24 w =>
              wBin P .eql T_uint32 t24 (.int .u32 1) w fun t25 w =>
              wIf t25 (
                wBin P .quo T_uint32 v3 (.int .u32 2) w fun t27 w =>
                wBin P .xor T_uint32 t27 (.int .u32 3988292384) w fun t28 w =>
                wBin P .add T_int v5 (.int .i64 1) w fun t22 w =>
                k5 t28 t22 w) (
                wBin P .quo T_uint32 v3 (.int .u32 2) w fun t30 w =>
                wBin P .add T_int v5 (.int .i64 1) w fun t22 w =>
                k5 t30 t22 w)) (
              k4 v3 w))) fun _ v3 w =>
        wBin P .add T_int v4 (.int .i64 1) w fun t11 w =>
        k2 v3 t11 w) (
        k1 v3 w))) fun _ v3 w =>
  wBin P .sub T_uint32 (.int .u32 4294967295) v3 w fun t32 w =>
  k t32 w

theorem call_ref02_Crc (a0 : Value) {w : World} {k : Value → World → Prop} (h : F_ref02_Crc a0 w k) : wCall P n_ref02_Crc [a0] w k :=
  call_of_den mixedP Try.func168 (by kernel_rfl) (.s .z (.s .z (.j [3] [] (.s .z (.b (.l [3, 4] [0] (.s .z (.j [3] [0, 4] (.b (.s .z (.s .z (.b (.l [3, 5] [0, 4] .z))))) .z))))) .z))) (by kernel_rfl) (Eq.mp (by kernel_rfl) h)

def F_ref02_Make (a0 a1 : Value) (w : World) (k : Value → World → Prop) : Prop :=
  wAlloc P T_A128uint8 w fun t4 w =>
  wBin P .eql T_uint8 a0 (.int .u8 0) w fun t8 w =>
  wGrp t8 false (fun k12 =>
    wLen P .len #[T_Luint8] [a1] w fun t11 w =>
    wBin P .gtr T_int t11 (.int .i64 120) w fun t12 w =>
    k12 t12 w) w fun _ t12 w =>
  wPick t8 (.bool true) t12 w fun t13 w =>
  wIf t13 (
    wBuild P T_A128uint8 [] w fun t14 w =>
    wStore P T_A128uint8 t4 t14 w fun w =>
    wRes P T_A128uint8 t4 w fun r4 =>
    k (.tuple #[r4, (.bool false)]) w) (
    wLen P .len #[T_Luint8] [a1] w fun t17 w =>
    wConv P T_int T_uint8 t17 w fun t18 w =>
    wBuildS P T_Luint8 4 [(0, (.int .u8 215)), (1, (.int .u8 76)), (2, a0), (3, t18)] w fun t19 w =>
    wBuiltin P .append #[T_Luint8, T_Luint8] [t19, a1] w fun t21 w =>
    wJ1 (fun k2 =>
      wL1 t21 w (fun _ v6 w k3 =>
        wLen P .len #[T_Luint8] [v6] w fun t23 w =>
        wBin P .lss T_int t23 (.int .i64 124) w fun t24 w =>
        wIf t24 (
          wBuildS P T_Luint8 1 [(0, (.int .u8 0))] w fun t26 w =>
          wBuiltin P .append #[T_Luint8, T_Luint8] [v6, t26] w fun t27 w =>
          k3 t27 w) (
          k2 v6 w))) fun _ v6 w =>
    wCall P n_ref02_Crc [v6] w fun t30 w =>
    wConv P T_uint32 T_uint64 t30 w fun t31 w =>
    wCall P n_ref01_Low [t31, (.int .i64 4)] w fun t32 w =>
    wBuiltin P .append #[T_Luint8, T_Luint8] [v6, t32] w fun t33 w =>
    wCall P n_ref01_Full [t33] w fun t34 w =>
    wStore P T_A128uint8 t4 t34 w fun w =>
    wRes P T_A128uint8 t4 w fun r4 =>
    k (.tuple #[r4, (.bool true)]) w)

theorem call_ref02_Make (a0 a1 : Value) {w : World} {k : Value → World → Prop} (h : F_ref02_Make a0 a1 w k) : wCall P n_ref02_Make [a0, a1] w k :=
  call_of_den mixedP Try.func174 (by kernel_rfl) (.s .z (.s (.s (.r (.ops [0, 1, 2] (.grp 2 false 12 [10, 11] (.ops [3, 4, 5] .nil) (.ops [6] .nil)))) .z) (.s .z (.j [6] [4] (.b (.l [6] [4] .z)) .z)))) (by kernel_rfl) (Eq.mp (by kernel_rfl) h)

def F_ref02_Open (a0 : Value) (w : World) (k : Value → World → Prop) : Prop :=
  wBox P T_A128uint8 a0 w fun t1 w =>
  wIndexA P T_A128uint8 t1 (.int .i64 3) w fun t9 w =>
  wLoad P T_uint8 t9 w fun t10 w =>
  wBin P .gtr T_uint8 t10 (.int .u8 120) w fun t11 w =>
  wIf t11 (
    k (.tuple #[(.int .u8 0), (.slice none 0 0), (.bool false)]) w) (
    wJ1 (fun k2 =>
      wL2 (.slice none 0 0) (.int .i64 0) w (fun _ v5 v6 w k3 =>
        wIndexA P T_A128uint8 t1 (.int .i64 3) w fun t13 w =>
        wLoad P T_uint8 t13 w fun t14 w =>
        wConv P T_uint8 T_int t14 w fun t15 w =>
        wBin P .lss T_int v6 t15 w fun t16 w =>
        wIf t16 (
          wBin P .add T_int (.int .i64 4) v6 w fun t21 w =>
          wIndexA P T_A128uint8 t1 t21 w fun t22 w =>
          wLoad P T_uint8 t22 w fun t23 w =>
          wBuildS P T_Luint8 1 [(0, t23)] w fun t24 w =>
          wBuiltin P .append #[T_Luint8, T_Luint8] [v5, t24] w fun t25 w =>
          wBin P .add T_int v6 (.int .i64 1) w fun t18 w =>
          k3 t25 t18 w) (
          k2 v5 w))) fun _ v5 w =>
    wIndexA P T_A128uint8 t1 (.int .i64 2) w fun t27 w =>
    wLoad P T_uint8 t27 w fun t28 w =>
    wCall P n_ref02_Make [t28, v5] w fun t30 w =>
    wExtract P t30 0 w fun t31 w =>
    wExtract P t30 1 w fun t32 w =>
    wAlloc P T_A128uint8 w fun t7 w =>
    wStore P T_A128uint8 t7 t31 w fun w =>
    wUn P .not t32 w fun t34 w =>
    wGrp t34 false (fun k38 =>
      wLoad P T_A128uint8 t7 w fun t36 w =>
      wLoad P T_A128uint8 t1 w fun t37 w =>
      wBin P .neq T_A128uint8 t36 t37 w fun t38 w =>
      k38 t38 w) w fun _ t38 w =>
    wPick t34 (.bool true) t38 w fun t39 w =>
    wIf t39 (
      k (.tuple #[(.int .u8 0), (.slice none 0 0), (.bool false)]) w) (
      wIndexA P T_A128uint8 t1 (.int .i64 2) w fun t40 w =>
      wLoad P T_uint8 t40 w fun t41 w =>
      k (.tuple #[t41, v5, (.bool true)]) w))

theorem call_ref02_Open (a0 : Value) {w : World} {k : Value → World → Prop} (h : F_ref02_Open a0 w k) : wCall P n_ref02_Open [a0] w k :=
  call_of_den mixedP Try.func176 (by kernel_rfl) (.s .z (.s .z (.s .z (.j [5] [1] (.s .z (.b (.l [5, 6] [1] .z))) (.s .z (.s (.s (.r (.ops [0, 1, 2] (.grp 2 false 38 [36, 37] (.ops [3, 4, 5] .nil) (.ops [6] .nil)))) .z) .z)))))) (by kernel_rfl) (Eq.mp (by kernel_rfl) h)

end Go.Dn
end
section
/-! Texts of functions, printed by mkg.py. -/
set_option maxRecDepth 100000
set_option linter.unusedVariables false
namespace Go.Dn
open Go Go.Proofs
def F_seal_Make (a0 a1 : Value) (w : World) (k : Value → World → Prop) : Prop :=
  wAlloc P T_api_Sector w fun t4 w =>
  wBin P .eql T_uint8 a0 (.int .u8 0) w fun t10 w =>
  wGrp t10 false (fun k14 =>
    wLen P .len #[T_Luint8] [a1] w fun t13 w =>
    wBin P .gtr T_int t13 (.int .i64 120) w fun t14 w =>
    k14 t14 w) w fun _ t14 w =>
  wPick t10 (.bool true) t14 w fun t15 w =>
  wIf t15 (
    wBuild P T_api_Sector [] w fun t16 w =>
    wStore P T_api_Sector t4 t16 w fun w =>
    wRes P T_api_Sector t4 w fun r4 =>
    k (.tuple #[r4, (.int .i64 1)]) w) (
    wAlloc P T_num_Writer w fun t6 w =>
    wCall P n_num_Writer_Num [t6, (.int .i64 2), (.int .u64 19671)] w fun _ w =>
    wConv P T_uint8 T_uint64 a0 w fun t19 w =>
    wCall P n_num_Writer_Num [t6, (.int .i64 1), t19] w fun _ w =>
    wLen P .len #[T_Luint8] [a1] w fun t22 w =>
    wConv P T_int T_uint64 t22 w fun t23 w =>
    wCall P n_num_Writer_Num [t6, (.int .i64 1), t23] w fun _ w =>
    wCall P n_num_Writer_Bytes [t6, (.int .i64 120), a1] w fun _ w =>
    wCall P n_num_Writer_Sector [t6] w fun t28 w =>
    wExtract P t28 0 w fun t29 w =>
    wExtract P t28 1 w fun _ w =>
    wAlloc P T_api_Sector w fun t7 w =>
    wStore P T_api_Sector t7 t29 w fun w =>
    wDraw w fun w =>
    wSlice P T_api_Sector t7 none none none w fun t31 w =>
    wSlice P T_api_Sector t7 none (some (.int .i64 124)) none w fun t32 w =>
    wCall P n_seal_Crc [t32] w fun t33 w =>
    wConv P T_uint32 T_uint64 t33 w fun t34 w =>
    wCall P n_num_Put [t31, (.int .i64 124), (.int .i64 4), t34] w fun _ w =>
    wLoad P T_api_Sector t7 w fun t36 w =>
    wStore P T_api_Sector t4 t36 w fun w =>
    wRes P T_api_Sector t4 w fun r4 =>
    k (.tuple #[r4, (.int .i64 0)]) w)

theorem call_seal_Make (a0 a1 : Value) {w : World} {k : Value → World → Prop} (h : F_seal_Make a0 a1 w k) : wCall P n_seal_Make [a0, a1] w k :=
  call_of_den mixedP Try.func235 (by kernel_rfl) (.s .z (.s (.s (.r (.ops [0, 1, 2] (.grp 2 false 14 [12, 13] (.ops [3, 4, 5] .nil) (.ops [6] .nil)))) .z) (.s .z (.s .z (.s .z (.s .z (.s .z (.s .z (.s (.r (.ops [0, 1] (.eff 2 [] (.ops [3] (.eff 4 [] .nil))))) .z))))))))) (by kernel_rfl) (Eq.mp (by kernel_rfl) h)

def F_seal_Open (a0 : Value) (w : World) (k : Value → World → Prop) : Prop :=
  wBox P T_api_Sector a0 w fun t1 w =>
  wLoad P T_api_Sector t1 w fun t11 w =>
  wCall P n_num_Read [t11] w fun t12 w =>
  wCall P n_num_Reader_Num [t12, (.int .i64 2)] w fun _ w =>
  wCall P n_num_Reader_Num [t12, (.int .i64 1)] w fun t16 w =>
  wConv P T_uint64 T_uint8 t16 w fun t17 w =>
  wCall P n_num_Reader_Num [t12, (.int .i64 1)] w fun t19 w =>
  wConv P T_uint64 T_int t19 w fun t20 w =>
  wBin P .gtr T_int t20 (.int .i64 120) w fun t22 w =>
  wIf t22 (
    k (.tuple #[(.int .u8 0), (.slice none 0 0), (.int .i64 21)]) w) (
    wCall P n_num_Reader_Bytes [t12, t20] w fun t25 w =>
    wCall P n_seal_Make [t17, t25] w fun t29 w =>
    wExtract P t29 0 w fun t30 w =>
    wExtract P t29 1 w fun t31 w =>
    wAlloc P T_api_Sector w fun t9 w =>
    wStore P T_api_Sector t9 t30 w fun w =>
    wBin P .neq T_api_Errno t31 (.int .i64 0) w fun t33 w =>
    wGrp t33 false (fun k37 =>
      wLoad P T_api_Sector t9 w fun t35 w =>
      wLoad P T_api_Sector t1 w fun t36 w =>
      wBin P .neq T_api_Sector t35 t36 w fun t37 w =>
      k37 t37 w) w fun _ t37 w =>
    wPick t33 (.bool true) t37 w fun t38 w =>
    wIf t38 (
      k (.tuple #[(.int .u8 0), (.slice none 0 0), (.int .i64 21)]) w) (
      k (.tuple #[t17, t25, (.int .i64 0)]) w))

theorem call_seal_Open (a0 : Value) {w : World} {k : Value → World → Prop} (h : F_seal_Open a0 w k) : wCall P n_seal_Open [a0] w k :=
  call_of_den mixedP Try.func240 (by kernel_rfl) (.s .z (.s .z (.s .z (.s .z (.s .z (.s .z (.s (.s .z (.s (.r (.ops [0, 1, 2] (.grp 2 false 37 [35, 36] (.ops [3, 4, 5] .nil) (.ops [6] .nil)))) .z)) .z))))))) (by kernel_rfl) (Eq.mp (by kernel_rfl) h)

def F_seal_Crc (a0 : Value) (w : World) (k : Value → World → Prop) : Prop :=
  wJ1 (fun k1 =>
    wLen P .len #[T_Luint8] [a0] w fun t8 w =>
    wL2 (.int .u32 4294967295) (.int .i64 0) w (fun _ v3 v9 w k2 =>
      wBin P .lss T_int v9 t8 w fun t10 w =>
      wIf t10 (
        wJ1 (fun k4 =>
          wIndexA P T_Luint8 a0 v9 w fun t11 w =>
          wLoad P T_uint8 t11 w fun t12 w =>
          wConv P T_uint8 T_uint32 t12 w fun t15 w =>
          wBin P .xor T_uint32 v3 t15 w fun t16 w =>
          wL2 t16 (.int .i64 0) w (fun _ v3 v17 w k5 =>
            wBin P .lss T_int v17 (.int .i64 8) w fun t18 w =>
            wIf t18 (
              wBin P .and T_uint32 v3 (.int .u32 1) w fun t20 w =>
              wBin P .shr T_uint32 v3 (.int .u64 1) w fun t22 w =>
              wBin P .eql T_uint32 t20 (.int .u32 1) w fun t24 w =>
              wIf t24 (
                wBin P .xor T_uint32 t22 (.int .u32 3988292384) w fun t26 w =>
                wBin P .add T_int v17 (.int .i64 1) w fun t27 w =>
                k5 t26 t27 w) (
                wBin P .add T_int v17 (.int .i64 1) w fun t27 w =>
                k5 t22 t27 w)) (
              k4 v3 w))) fun _ v3 w =>
        wBin P .add T_int v9 (.int .i64 1) w fun t28 w =>
        k2 v3 t28 w) (
        k1 v3 w))) fun _ v3 w =>
  wUn P .xor v3 w fun t30 w =>
  k t30 w

theorem call_seal_Crc (a0 : Value) {w : World} {k : Value → World → Prop} (h : F_seal_Crc a0 w k) : wCall P n_seal_Crc [a0] w k :=
  call_of_den mixedP Try.func279 (by kernel_rfl) (.s .z (.s .z (.j [3] [] (.s .z (.b (.l [3, 9] [7, 8] (.s .z (.s .z (.j [3] [7, 8, 9] (.b (.s .z (.s .z (.s .z (.b (.l [3, 17] [7, 8, 9] .z)))))) .z)))))) .z))) (by kernel_rfl) (Eq.mp (by kernel_rfl) h)

end Go.Dn
end
section
/-! Contracts of seal and of its reference: Crc. -/
set_option linter.unusedVariables false
set_option linter.unusedSimpArgs false
namespace Go.Dn
open Go
section
variable {w : World} {K : Value → World → Prop}
theorem conv_8_32 {x : Nat} (h : x < 256) : wConv P T_uint8 T_uint32 (.int .u8 (x : Int)) w K = K (.int .u32 (x : Int)) w := by
  rw [conv_i i_T_uint8 i_T_uint32, wrapN rfl (by simp only [IntKind.bits]; omega)]
theorem conv_32_64 {x : Nat} (h : x < 4294967296) : wConv P T_uint32 T_uint64 (.int .u32 (x : Int)) w K = K (.int .u64 (x : Int)) w := by
  rw [conv_i i_T_uint32 i_T_uint64, wrapN rfl (by simp only [IntKind.bits]; omega)]
theorem conv_i_8 {x : Nat} (h : x < 256) : wConv P T_int T_uint8 (.int .i64 (x : Int)) w K = K (.int .u8 (x : Int)) w := by
  rw [conv_i i_T_int i_T_uint8, wrapN rfl (by simp only [IntKind.bits]; omega)]
theorem conv_8_i {x : Nat} (h : x < 256) : wConv P T_uint8 T_int (.int .u8 (x : Int)) w K = K (.int .i64 (x : Int)) w := by
  rw [conv_i i_T_uint8 i_T_int, IntWalk.i64_in _ (by omega)]
theorem conv_i_64 {x : Nat} (h : x ≤ 9223372036854775807) : wConv P T_int T_uint64 (.int .i64 (x : Int)) w K = K (.int .u64 (x : Int)) w := by
  rw [conv_i i_T_int i_T_uint64, wrapN rfl (by simp only [IntKind.bits]; omega)]
theorem xor_ones {x : Nat} (h : x < 4294967296) : 4294967295 ^^^ x = 4294967295 - x := by
  have h1 : (BitVec.allOnes 32 ^^^ BitVec.ofNat 32 x).toNat = (~~~ (BitVec.ofNat 32 x)).toNat := by
    rw [BitVec.xor_comm, BitVec.xor_allOnes]
  rw [BitVec.toNat_xor, BitVec.toNat_not, BitVec.toNat_allOnes, BitVec.toNat_ofNat] at h1
  have : x % 2 ^ 32 = x := Nat.mod_eq_of_lt h
  rw [this] at h1
  exact h1
theorem shr1_u32 {x : Nat} : wBin P .shr T_uint32 (.int .u32 x) (.int .u64 1) w K = K (.int .u32 ((x / 2 : Nat) : Int)) w := by
  rw [bin_shr (by omega)]
  congr 2
  rw [Int.fdiv_eq_ediv_of_nonneg _ (by exact Int.le_of_lt (Int.pow_pos (by decide)))]
  simp [IntKind.bits]
theorem and1_u32 {x : Nat} (h : x < 4294967296) : wBin P .and T_uint32 (.int .u32 x) (.int .u32 1) w K = K (.int .u32 ((x % 2 : Nat) : Int)) w := by
  have e1 : (1 : Int) = ((1 : Nat) : Int) := rfl
  rw [e1, bin_andN (by simp only [IntKind.bits]; omega) (by simp only [IntKind.bits]; omega) rfl, Nat.and_one_is_mod]
attribute [local semireducible] wUn in
theorem un_xor32 {x : Nat} (h : x < 4294967296) : wUn P .xor (.int .u32 x) w K = K (.int .u32 ((4294967295 - x : Nat) : Int)) w := by
  refine pureW_eq (fun w' => ?_) w K
  have e : (IntKind.max .u32) = ((4294967295 : Nat) : Int) := by decide
  have h1 : BitVec.ofInt 32 ((4294967295 : Nat) : Int) = BitVec.allOnes 32 := by decide
  simp only [Op.unary, IntKind.signed, Bool.false_eq_true, if_false, e, Op.intBits, BitVec.toNat_xor]
  rw [show IntKind.u32.bits = 32 from rfl, ofInt_nat (by omega), ofInt_nat (by omega), xor_ones h, wrapN rfl (by simp only [IntKind.bits]; omega)]
  rfl
theorem take_get {bs : List Nat} {i : Nat} (h : i < bs.length) : bs.take (i + 1) = bs.take i ++ [bs[i]] := List.take_succ_eq_append_getElem h
theorem ref02_Crc {v : Value} {bs : List Nat} {k : Value → World → Prop} (S : SlG w 1 v (bvs bs)) (hb : ∀ b ∈ bs, b < 256) (hl : bs.length ≤ 4611686018427387904) (hk : k (.int .u32 (crc bs : Nat)) w) : wCall P n_ref02_Crc [v] w k := by
  refine call_ref02_Crc _ ?_
  unfold F_ref02_Crc
  simp only [wJ1]
  refine loop_up2 bs.length (fun i a u w' => a = .int .u32 (crcGo 4294967295 (bs.take i) : Nat) ∧ u = .int .i64 (i : Int) ∧ w' = w) ⟨by simp [crcGo], rfl, rfl⟩ ?_
  rintro i J a u w' k' hi ⟨rfl, rfl, rfl⟩ hk'
  rw [S.len_i u_T_Luint8 (by omega) (n := bs.length) (by rw [bvs_length]; omega), bin_lss]
  have hgo : crcGo 4294967295 (bs.take i) < 4294967296 := crcGo_lt (fun b h => hb b (List.mem_of_mem_take h)) (by omega)
  refine wIf_d (fun hlt => ?_) (fun hge => ?_)
  · have hlt' : i < bs.length := by omega
    have hbl := hb _ (List.getElem_mem hlt')
    refine S.ix1 (x := .int .u8 (bs[i] : Nat)) s_T_Luint8 (by omega) (bvs_get (List.getElem?_eq_getElem hlt')) fun ad had => ?_
    have hx := Nat.xor_lt_two_pow (n := 32) hgo (show bs[i] < 2 ^ 32 by omega)
    rw [ld_one o_T_uint8 had, conv_8_32 hbl, bin_xorN (by simp only [IntKind.bits]; omega) (by simp only [IntKind.bits]; omega) rfl]
    refine loop_up2 8 (fun m a u w2 => a = .int .u32 (crcSteps m (crcGo 4294967295 (bs.take i) ^^^ bs[i]) : Nat) ∧ u = .int .i64 (m : Int) ∧ w2 = w') ⟨rfl, rfl, rfl⟩ ?_
    rintro m J2 a u w2 k2 hm ⟨rfl, rfl, rfl⟩ hk2
    have hst := crcSteps_lt hx m
    rw [bin_lss]
    refine wIf_d (fun hm8 => ?_) (fun hm8 => ?_)
    · have e2 : (2 : Int) = ((2 : Nat) : Int) := rfl
      rw [e2, bin_remN (by decide), bin_eql]
      have e1 : (1 : Int) = ((1 : Nat) : Int) := rfl
      refine wIf_d (fun h1 => ?_) (fun h1 => ?_)
      · have e3 : (3988292384 : Int) = ((3988292384 : Nat) : Int) := rfl
        rw [bin_quoN rfl (by simp only [IntKind.bits]; omega) (by decide), e3, bin_xorN (by simp only [IntKind.bits]; omega) (by simp only [IntKind.bits]; omega) rfl, bin_add (by omega)]
        refine hk2 _ _ _ (by omega) ⟨?_, rfl, rfl⟩
        simp only [crcSteps, crcStep]
        rw [if_pos (by omega)]
      · rw [bin_quoN rfl (by simp only [IntKind.bits]; omega) (by decide), bin_add (by omega)]
        refine hk2 _ _ _ (by omega) ⟨?_, rfl, rfl⟩
        simp only [crcSteps, crcStep]
        rw [if_neg (by omega)]
    · obtain rfl : m = 8 := by omega
      intro _
      rw [bin_add (by omega)]
      refine hk' _ _ _ (by omega) ⟨?_, rfl, rfl⟩
      rw [take_get hlt', crcGo_snoc]
  · obtain rfl : i = bs.length := by omega
    intro _
    rw [List.take_of_length_le (Nat.le_refl _)] at hgo ⊢
    rw [bin_subw, show ((4294967295 : Int) - ((crcGo 4294967295 bs : Nat) : Int)) = ((4294967295 - crcGo 4294967295 bs : Nat) : Int) by omega, wrapN rfl (by simp only [IntKind.bits]; omega)]
    exact hk
theorem seal_Crc {v : Value} {bs : List Nat} {k : Value → World → Prop} (S : SlG w 1 v (bvs bs)) (hb : ∀ b ∈ bs, b < 256) (hl : bs.length ≤ 4611686018427387904) (hk : k (.int .u32 (crc bs : Nat)) w) : wCall P n_seal_Crc [v] w k := by
  refine call_seal_Crc _ ?_
  unfold F_seal_Crc
  simp only [wJ1]
  rw [S.len_i u_T_Luint8 (by omega) (n := bs.length) (by rw [bvs_length]; omega)]
  refine loop_up2 bs.length (fun i a u w' => a = .int .u32 (crcGo 4294967295 (bs.take i) : Nat) ∧ u = .int .i64 (i : Int) ∧ w' = w) ⟨by simp [crcGo], rfl, rfl⟩ ?_
  rintro i J a u w' k' hi ⟨rfl, rfl, rfl⟩ hk'
  rw [bin_lss]
  have hgo : crcGo 4294967295 (bs.take i) < 4294967296 := crcGo_lt (fun b h => hb b (List.mem_of_mem_take h)) (by omega)
  refine wIf_d (fun hlt => ?_) (fun hge => ?_)
  · have hlt' : i < bs.length := by omega
    have hbl := hb _ (List.getElem_mem hlt')
    refine S.ix1 (x := .int .u8 (bs[i] : Nat)) s_T_Luint8 (by omega) (bvs_get (List.getElem?_eq_getElem hlt')) fun ad had => ?_
    have hx := Nat.xor_lt_two_pow (n := 32) hgo (show bs[i] < 2 ^ 32 by omega)
    rw [ld_one o_T_uint8 had, conv_8_32 hbl, bin_xorN (by simp only [IntKind.bits]; omega) (by simp only [IntKind.bits]; omega) rfl]
    refine loop_up2 8 (fun m a u w2 => a = .int .u32 (crcSteps m (crcGo 4294967295 (bs.take i) ^^^ bs[i]) : Nat) ∧ u = .int .i64 (m : Int) ∧ w2 = w') ⟨rfl, rfl, rfl⟩ ?_
    rintro m J2 a u w2 k2 hm ⟨rfl, rfl, rfl⟩ hk2
    have hst := crcSteps_lt hx m
    rw [bin_lss]
    refine wIf_d (fun hm8 => ?_) (fun hm8 => ?_)
    · rw [and1_u32 hst]
      rw [shr1_u32, bin_eql]
      refine wIf_d (fun h1 => ?_) (fun h1 => ?_)
      · have e3 : (3988292384 : Int) = ((3988292384 : Nat) : Int) := rfl
        rw [e3, bin_xorN (by simp only [IntKind.bits]; omega) (by simp only [IntKind.bits]; omega) rfl, bin_add (by omega)]
        refine hk2 _ _ _ (by omega) ⟨?_, rfl, rfl⟩
        simp only [crcSteps, crcStep]
        rw [if_pos (by omega)]
      · rw [bin_add (by omega)]
        refine hk2 _ _ _ (by omega) ⟨?_, rfl, rfl⟩
        simp only [crcSteps, crcStep]
        rw [if_neg (by omega)]
    · obtain rfl : m = 8 := by omega
      intro _
      rw [bin_add (by omega)]
      refine hk' _ _ _ (by omega) ⟨?_, rfl, rfl⟩
      rw [take_get hlt', crcGo_snoc]
  · obtain rfl : i = bs.length := by omega
    intro _
    rw [List.take_of_length_le (Nat.le_refl _)] at hgo ⊢
    rw [un_xor32 hgo]
    exact hk
end
end Go.Dn
end
section
/-! Contracts of seal and of its reference: Make, Open. -/
set_option maxRecDepth 10000
set_option linter.unusedVariables false
set_option linter.unusedSimpArgs false
namespace Go.Dn
open Go
section
variable {w : World} {K : Value → World → Prop}
theorem rep_bvs (n : Nat) : bvs (List.replicate n 0) = List.replicate n (Value.int .u8 0) := by simp [bvs]
def zeroS : List Nat := List.replicate 128 0
theorem zeroS_length : zeroS.length = 128 := List.length_replicate
theorem bl_zero_sector : wBuild P T_api_Sector [] w K = K (sv zeroS) w := by
  rw [bl_T_api_Sector (cs := bvs zeroS) (by rw [zeroS, rep_bvs]; exact fill_nil)]
  rfl
theorem bl_zero_128 : wBuild P T_A128uint8 [] w K = K (sv zeroS) w := by
  rw [bl_T_A128uint8 (cs := bvs zeroS) (by rw [zeroS, rep_bvs]; exact fill_nil)]
  rfl
/-- A sector is laid over a variable of its type. -/
theorem st_sector {k : World → Prop} {g : Nat} {u : TypeId} {cs : List Value} {s : List Nat} {t : TypeId} (hT : aggT P t 128 = true) (hs : s.length = 128) (H : Blk w g u cs) (hl : cs.length = 128) (hk : ∀ w', Ex [g] w w' → Blk w' g u (bvs s) → k w') : wStore P t (.pointer (some ⟨g, 0, none⟩)) (sv s) w k := by
  refine st_agg hT (by rw [bvs_length, hs]) (bvs_isC s) H (by omega) fun w' hE B => ?_
  rw [splice_front (n := 128) (by rw [bvs_length, hs]) (by omega), List.drop_of_length_le (by omega), List.append_nil] at B
  exact hk w' hE B
theorem ld_sector {g : Nat} {u : TypeId} {s : List Nat} {t : TypeId} (hT : aggT P t 128 = true) (hs : s.length = 128) (H : Blk w g u (bvs s)) : wLoad P t (.pointer (some ⟨g, 0, none⟩)) w K = K (sv s) w :=
  ld_agg hT H.all (by rw [bvs_length, hs])
theorem res_sector {g : Nat} {u : TypeId} {s : List Nat} {t : TypeId} {k : Value → Prop} (hT : aggT P t 128 = true) (hs : s.length = 128) (H : Blk w g u (bvs s)) (hk : k (sv s)) : wRes P t (.pointer (some ⟨g, 0, none⟩)) w k :=
  res_agg hT H.all (by rw [bvs_length, hs]) hk
theorem eq_sector {t : TypeId} {n : Nat} (hu : P.underlying t = some (.array n T_uint8)) (x y : List Nat) (hx : x.length = n) (hy : y.length = n) (d : Nat) (w : World) : (Op.equalIn (d + 2) t (sv x) (sv y)).run P w = .ok (decide (x = y)) w := by
  have hb : ∀ l : List Nat, bvs l = (l.map fun n : Nat => (n : Int)).map (Value.int .u8) := by intro l; simp [bvs]
  unfold sv
  rw [hb x, hb y]
  refine (eqA_int hu o_T_uint8 i_T_uint8 d (x.map fun n : Nat => (n : Int)) (y.map fun n : Nat => (n : Int)) (by simpa using hx) (by simpa using hy) w).trans ?_
  have : decide ((x.map fun n : Nat => (n : Int)) = y.map fun n : Nat => (n : Int)) = decide (x = y) := by
    rw [decide_eq_decide]
    exact ⟨fun h => bvs_inj (by rw [hb, hb, h]), fun h => by rw [h]⟩
  rw [this]
theorem ne_128 {x y : List Nat} (hx : x.length = 128) (hy : y.length = 128) : wBin P .neq T_A128uint8 (sv x) (sv y) w K = K (.bool (!decide (x = y))) w :=
  bin_neA2 e_T_A128uint8 fun d w' => eq_sector v_T_A128uint8 x y hx hy d w'
theorem ne_sector {x y : List Nat} (hx : x.length = 128) (hy : y.length = 128) : wBin P .neq T_api_Sector (sv x) (sv y) w K = K (.bool (!decide (x = y))) w :=
  bin_neA2 e_T_api_Sector fun d w' => eq_sector v_T_api_Sector x y hx hy d w'
theorem eq_sector' {x y : List Nat} (hx : x.length = 128) (hy : y.length = 128) : wBin P .eql T_api_Sector (sv x) (sv y) w K = K (.bool (decide (x = y))) w :=
  bin_eqA2 e_T_api_Sector fun d w' => eq_sector v_T_api_Sector x y hx hy d w'
theorem ref02_Make {kind : Nat} {v : Value} {body : List Nat} {k : Value → World → Prop} (S : SlG w 1 v (bvs body)) (hkd : kind < 256) (hb : ∀ b ∈ body, b < 256) (hl : body.length ≤ 1000000)
    (hbad : kind = 0 ∨ 120 < body.length → ∀ w', Ex [] w w' → k (.tuple #[sv zeroS, .bool false]) w') (hk : kind ≠ 0 → body.length ≤ 120 → ∀ w', Ex [] w w' → k (.tuple #[sv (sealS kind body), .bool true]) w') :
    wCall P n_ref02_Make [.int .u8 (kind : Int), v] w k := by
  refine call_ref02_Make _ _ ?_
  unfold F_ref02_Make
  refine alloc_i z_T_A128uint8 (vs := List.replicate 128 (.int .u8 0)) rfl fun w1 g1 hg1 hE1 B1 => ?_
  have S1 := S.ex0 hE1
  simp only [bin_eql, S1.len_i (P := P) u_T_Luint8 (by omega) (n := body.length) (by rw [bvs_length]; omega), bin_gtr, or_p]
  refine wIf_i _ (fun hc => ?_) (fun hc => ?_)
  · simp only [Bool.or_eq_true, decide_eq_true_eq] at hc
    rw [bl_zero_128]
    refine st_sector g_T_A128uint8 zeroS_length B1 List.length_replicate fun w2 hE2 B2 => ?_
    refine res_sector g_T_A128uint8 zeroS_length B2 ?_
    exact hbad (by omega) w2 (hE1.new hE2 (by omega))
  · simp only [Bool.or_eq_false_iff, decide_eq_false_iff_not] at hc
    have hk0 : kind ≠ 0 := by omega
    have hl2 : body.length ≤ 120 := by omega
    rw [conv_i_8 (by omega)]
    refine buildS_ones (xs := bvs [215, 76, kind, body.length]) rfl u_T_Luint8 o_T_uint8 z_T_uint8 rfl rfl (by omega) (fun x hx => isC_cells (bvs_isC _ x hx)) fun w2 g2 hg2 hE2 B2 => ?_
    have hle1 := hE1.le
    have hle2 := hE2.le
    have hO2 : Own w2 w1.heap.size T_uint8 1 (.slice (some ⟨g2, 0, none⟩) 4 4) (bvs [215, 76, kind, body.length]) :=
      Own.of_blk B2 rfl (by omega) (by omega)
    refine app_T_Luint8 (n := 4) (m := body.length) hO2 (S1.ex0 hE2) rfl (by rw [bvs_length]; omega) (bvs_isC _) (by omega) (by omega) fun v3 w3 hO3 hE3 hv3 => ?_
    have hle3 := hE3.le
    have E3 : Ex [] w1 w3 := hE2.step hE3 (by simp [Value.ownBlock]; omega)
    rw [← bvs_append] at hO3
    unfold wJ1
    have hlen : ([215, 76, kind, body.length] ++ body).length = 4 + body.length := by simp; omega
    refine loop_up (120 - body.length) (fun i u w' => Ex [] w1 w' ∧ Own w' w1.heap.size T_uint8 1 u (bvs ([215, 76, kind, body.length] ++ body ++ List.replicate i 0))) ⟨E3, by simpa using hO3⟩ ?_
    rintro i J u w' k' hi ⟨hE, hO⟩ hk'
    have hle := hE.le
    have hli : ([215, 76, kind, body.length] ++ body ++ List.replicate i 0).length = 4 + body.length + i := by simp; omega
    rw [hO.slg.len_i (P := P) u_T_Luint8 (by omega) (n := 4 + body.length + i) (by rw [bvs_length, hli]; omega), bin_lss]
    refine wIf_d (fun hlt => ?_) (fun hge => ?_)
    · refine push_u8 (b := 0) hO (n := 4 + body.length + i) hli (by omega) hle fun v4 w4 hO4 hE4 _ => ?_
      refine hk' _ _ (by omega) ⟨hE.step hE4 fun y hy => .inr ?_, ?_⟩
      · cases hu : u.ownBlock with
        | none => rw [hu] at hy; simp at hy
        | some g => rw [hu] at hy; simp at hy; have := (hO.blk hu).1; omega
      · rw [List.append_assoc, ← List.replicate_succ'] at hO4
        exact hO4
    · obtain rfl : i = 120 - body.length := by omega
      intro _
      have hhead : [215, 76, kind, body.length] ++ body ++ List.replicate (120 - body.length) 0 = sealHead kind body := rfl
      rw [hhead] at hO
      have hhl := sealHead_length (kind := kind) hl2
      have hhb := sealHead_lt hkd hl2 hb
      refine ref02_Crc hO.slg hhb (by omega) ?_
      have hcl := crc_lt (sealHead kind body)
      rw [conv_32_64 hcl]
      refine ref01_Low (wd := 4) (by omega) (by omega) fun v5 w5 hE5 hO5 => ?_
      have hle5 := hE5.le
      refine app_T_Luint8 (n := 124) (m := 4) (hO.ex0 hE5) hO5.slg (by rw [bvs_length, hhl]) (by rw [bvs_length, low_length]) (bvs_isC _) (by omega) (by omega) fun v6 w6 hO6 hE6 hv6 => ?_
      rw [← bvs_append] at hO6
      have hsl : (sealHead kind body ++ low (crc (sealHead kind body)) 4) = sealS kind body := rfl
      rw [hsl] at hO6
      have hsn := sealS_length (kind := kind) hl2
      have E6 : Ex [] w1 w6 := (hE.trans hE5).step hE6 fun y hy => .inr (by
        cases hu : u.ownBlock with
        | none => rw [hu] at hy; simp at hy
        | some g => rw [hu] at hy; simp at hy; have := (hO.blk hu).1; omega)
      refine ref01_Full hO6.slg (by omega) fun w7 hE7 => ?_
      have e7 : (sealS kind body).take 128 ++ List.replicate (128 - (sealS kind body).length) 0 = sealS kind body := by
        rw [hsn, List.take_of_length_le (by omega)]; simp
      rw [e7]
      have hg1 := B1.ex (E6.trans hE7) (by simp)
      refine st_sector g_T_A128uint8 hsn hg1 List.length_replicate fun w8 hE8 B8 => ?_
      refine res_sector g_T_A128uint8 hsn B8 ?_
      exact hk hk0 hl2 w8 ((hE1.trans (E6.trans hE7)).new hE8 (by omega))
theorem getD_eq {s : List Nat} {i : Nat} (h : i < s.length) : (bvs s)[i]? = some (.int .u8 (s.getD i 0 : Nat)) := by
  rw [bvs_get (List.getElem?_eq_getElem h), List.getD_eq_getElem?_getD, List.getElem?_eq_getElem h]; rfl
theorem getD_lt {s : List Nat} (hb : ∀ b ∈ s, b < 256) (i : Nat) : s.getD i 0 < 256 := by
  rw [List.getD_eq_getElem?_getD]
  cases h : s[i]? with
  | none => simp
  | some b => exact hb b (List.mem_of_getElem? h)
theorem bodyS_length {s : List Nat} (hs : s.length = 128) (hl : s.getD 3 0 ≤ 120) : (bodyS s).length = s.getD 3 0 := by
  unfold bodyS; rw [List.length_take, List.length_drop]; omega
theorem bodyS_lt {s : List Nat} (hb : ∀ b ∈ s, b < 256) : ∀ b ∈ bodyS s, b < 256 := fun b h => hb b (List.mem_of_mem_drop (List.mem_of_mem_take h))
theorem ix_sec {g i : Nat} {x : Int} {ik : IntKind} {t : TypeId} (ht : arT P t = some (128, 1)) (hx : x = (i : Int)) (hi : i < 128) : wIndexA P t (.pointer (some ⟨g, 0, none⟩)) (.int ik x) w K = K (.pointer (some ⟨g, i, none⟩)) w := by
  subst hx
  rw [indexA_i ht (by omega) (by omega), Nat.zero_add, Nat.mul_one, Int.toNat_natCast]
theorem ref02_Open {s : List Nat} {k : Value → World → Prop} (hs : s.length = 128) (hb : ∀ b ∈ s, b < 256)
    (hbad : sealOp s = none → ∀ w', Ex [] w w' → k (.tuple #[.int .u8 0, .slice none 0 0, .bool false]) w')
    (hk : ∀ kind body, sealOp s = some (kind, body) → ∀ v w', Ex [] w w' → Own w' w.heap.size T_uint8 1 v (bvs body) → k (.tuple #[.int .u8 (kind : Int), v, .bool true]) w') : wCall P n_ref02_Open [sv s] w k := by
  refine call_ref02_Open _ ?_
  unfold F_ref02_Open
  refine box_i (sv_cells s) fun w1 g1 hg1 hE1 B1 => ?_
  have hb3 := getD_lt hb 3
  rw [ix_sec (i := 3) a_T_A128uint8 (by omega) (by omega), ld_one o_T_uint8 ((B1.cell 3).trans (getD_eq (i := 3) (by omega))), bin_gtr]
  refine wIf_d (fun hgt => ?_) (fun hle => ?_)
  · exact hbad (by unfold sealOp; rw [if_pos (by omega)]) w1 hE1
  · have hle1 := hE1.le
    unfold wJ1
    refine loop_up2 (s.getD 3 0) (fun i v u w' => u = .int .i64 (i : Int) ∧ Ex [] w1 w' ∧ Own w' w1.heap.size T_uint8 1 v (bvs ((s.drop 4).take i))) ⟨rfl, Ex.refl _ _, by simpa [bvs] using Own.nil w1 w1.heap.size T_uint8 1⟩ ?_
    rintro i J v u w' k' hi ⟨rfl, hE, hO⟩ hk'
    have hlE := hE.le
    have B' := B1.ex hE (by simp)
    rw [ix_sec (i := 3) a_T_A128uint8 (by omega) (by omega), ld_one o_T_uint8 ((B'.cell 3).trans (getD_eq (i := 3) (by omega))), conv_8_i hb3, bin_lss]
    refine wIf_d (fun hlt => ?_) (fun hge => ?_)
    · have h4 : 4 + i < s.length := by omega
      rw [bin_add (by omega), ix_sec (i := 4 + i) a_T_A128uint8 (by omega) (by omega), ld_one o_T_uint8 ((B'.cell (4 + i)).trans (getD_eq (i := 4 + i) (by omega)))]
      refine push_u8 hO (n := i) (by rw [List.length_take, List.length_drop]; omega) (by omega) hlE fun v2 w2 hO2 hE2 _ => ?_
      rw [bin_add (by omega)]
      refine hk' _ _ _ (by omega) ⟨rfl, hE.step hE2 fun y hy => .inr ?_, ?_⟩
      · cases hv : v.ownBlock with
        | none => rw [hv] at hy; simp at hy
        | some g => rw [hv] at hy; simp at hy; have := (hO.blk hv).1; omega
      · have : (s.drop 4).take (i + 1) = (s.drop 4).take i ++ [s.getD (4 + i) 0] := by
          rw [List.take_succ_eq_append_getElem (by rw [List.length_drop]; omega), List.getD_eq_getElem?_getD, List.getElem?_eq_getElem h4]
          simp
        rw [this]
        exact hO2
    · obtain rfl : i = s.getD 3 0 := by omega
      intro _
      have hbody : (s.drop 4).take (s.getD 3 0) = bodyS s := rfl
      rw [hbody] at hO
      have hbl := bodyS_length hs (by omega)
      rw [ix_sec (i := 2) a_T_A128uint8 (by omega) (by omega), ld_one o_T_uint8 ((B'.cell 2).trans (getD_eq (i := 2) (by omega)))]
      have fin : ∀ ok m w2, m.length = 128 → Ex [] w1 w2 → Ex [] w' w2 → (ok = true ∧ m = s ↔ sealMk (s.getD 2 0) (bodyS s) = some s) →
          (wExtract P (.tuple #[sv m, .bool ok]) 0 w2 fun t31 w => wExtract P (.tuple #[sv m, .bool ok]) 1 w fun t32 w => wAlloc P T_A128uint8 w fun t7 w => wStore P T_A128uint8 t7 t31 w fun w => wUn P .not t32 w fun t34 w =>
            wGrp t34 false (fun k38 => wLoad P T_A128uint8 t7 w fun t36 w => wLoad P T_A128uint8 (.pointer (some ⟨g1, 0, none⟩)) w fun t37 w => wBin P .neq T_A128uint8 t36 t37 w fun t38 w => k38 t38 w) w fun _ t38 w =>
            wPick t34 (.bool true) t38 w fun t39 w => wIf t39 (k (.tuple #[.int .u8 0, .slice none 0 0, .bool false]) w)
              (wIndexA P T_A128uint8 (.pointer (some ⟨g1, 0, none⟩)) (.int .i64 2) w fun t40 w => wLoad P T_uint8 t40 w fun t41 w => k (.tuple #[t41, v, .bool true]) w)) := by
        intro ok m w2 hm hE2 hE2' hiff
        rw [ext_0, ext_1]
        refine alloc_i z_T_A128uint8 (vs := List.replicate 128 (.int .u8 0)) rfl fun w3 g3 hg3 hE3 B3 => ?_
        have hl2 := hE2.le
        refine st_sector g_T_A128uint8 hm B3 List.length_replicate fun w4 hE4 B4 => ?_
        have E4 : Ex [] w2 w4 := hE3.new hE4 (by omega)
        have B14 := (B1.ex hE2 (by simp)).ex E4 (by simp)
        rw [un_not]
        refine or_i (r := !decide (m = s)) (fun _ k2 hk2 => ?_) ?_
        · rw [ld_sector g_T_A128uint8 hm B4, ld_sector g_T_A128uint8 hs B14, ne_128 hm hs]
          exact hk2
        · refine wIf_i _ (fun hc => ?_) (fun hc => ?_)
          · refine hbad ?_ w4 (hE1.trans (hE2.trans E4))
            unfold sealOp
            rw [if_neg (by omega), if_neg]
            intro h
            obtain ⟨h1, h2⟩ := hiff.2 h
            rw [h1, h2] at hc
            simp at hc
          · have h12 : ok = true ∧ m = s := by
              cases ok
              · simp at hc
              · simpa using hc
            rw [ix_sec (i := 2) a_T_A128uint8 (by omega) (by omega), ld_one o_T_uint8 ((B14.cell 2).trans (getD_eq (i := 2) (by omega)))]
            refine hk _ _ ?_ v w4 (hE1.trans (hE2.trans E4)) (((hO.ex0 hE2').ex0 E4).base (by omega))
            unfold sealOp
            rw [if_neg (by omega), if_pos (hiff.1 h12)]
      refine ref02_Make hO.slg (getD_lt hb 2) (bodyS_lt hb) (by omega) (fun hc w2 hE2 => ?_) (fun h0 hl2 w2 hE2 => ?_)
      · refine fin false zeroS w2 zeroS_length (hE.trans hE2) hE2 ?_
        constructor
        · intro h; cases h.1
        · intro h
          unfold sealMk at h
          rw [if_pos hc] at h
          cases h
      · refine fin true _ w2 (sealS_length hl2) (hE.trans hE2) hE2 ?_
        unfold sealMk
        rw [if_neg (by omega)]
        simp
end
end Go.Dn
end
section
/-! Fields in bytes, plain. -/
set_option linter.unusedVariables false
set_option linter.unusedSimpArgs false
namespace Go.Dn
/-- May a number stand in so many bytes? -/
def okN (wd : Nat) (n : Int) : Bool := decide (0 ≤ n) && decide (n.toNat < 256 ^ wd)
def encF : List Nat → List Int → List Nat
  | wd :: ws, n :: ns => low n.toNat wd ++ encF ws ns
  | _, _ => []
def okNs : List Nat → List Int → Bool
  | wd :: ws, n :: ns => okN wd n && okNs ws ns
  | _, _ => true
/-- What a form does to a state, number by number. -/
def runS {σ : Type} (stp : σ → Nat → Int → σ) : σ → List Nat → List Int → σ
  | st, wd :: ws, n :: ns => runS stp (stp st wd n) ws ns
  | st, _, _ => st
def runV {σ : Type} (stp : σ → Nat → Int → σ) (val : σ → Nat → Int → Int) : σ → List Nat → List Int → List Int
  | st, wd :: ws, n :: ns => val st wd n :: runV stp val (stp st wd n) ws ns
  | _, _, _ => []
theorem runV_length {σ : Type} (stp : σ → Nat → Int → σ) (val : σ → Nat → Int → Int) : ∀ (ws : List Nat) (ns : List Int) (st : σ), ws.length = ns.length → (runV stp val st ws ns).length = ns.length
  | [], [], _, _ => rfl
  | _ :: ws, n :: ns, st, h => by simp only [runV, List.length_cons]; rw [runV_length stp val ws ns _ (by simpa using h)]
  | [], _ :: _, _, h => by simp at h
  | _ :: _, [], _, h => by simp at h
theorem runS_append {σ : Type} (stp : σ → Nat → Int → σ) : ∀ (ws : List Nat) (ns : List Int) (st : σ) (ws' : List Nat) (ns' : List Int), ws.length = ns.length → runS stp st (ws ++ ws') (ns ++ ns') = runS stp (runS stp st ws ns) ws' ns'
  | [], [], _, _, _, _ => rfl
  | _ :: ws, n :: ns, st, _, _, h => by simp only [List.cons_append, runS]; exact runS_append stp ws ns _ _ _ (by simpa using h)
  | [], _ :: _, _, _, _, h => by simp at h
  | _ :: _, [], _, _, _, h => by simp at h
theorem runV_append {σ : Type} (stp : σ → Nat → Int → σ) (val : σ → Nat → Int → Int) : ∀ (ws : List Nat) (ns : List Int) (st : σ) (ws' : List Nat) (ns' : List Int), ws.length = ns.length → runV stp val st (ws ++ ws') (ns ++ ns') = runV stp val st ws ns ++ runV stp val (runS stp st ws ns) ws' ns'
  | [], [], _, _, _, _ => rfl
  | _ :: ws, n :: ns, st, _, _, h => by simp only [List.cons_append, runV, runS]; rw [runV_append stp val ws ns _ _ _ (by simpa using h)]
  | [], _ :: _, _, _, _, h => by simp at h
  | _ :: _, [], _, _, _, h => by simp at h

/-! A form that writes: what stands there, and whether something had no room. -/
def wstp (st : List Nat × Bool) (wd : Nat) (n : Int) : List Nat × Bool :=
  (st.1 ++ (if n.toNat < 256 ^ wd then low n.toNat wd else List.replicate wd 0), st.2 || !okN wd n)
def wval (_ : List Nat × Bool) (_ : Nat) (n : Int) : Int := n
theorem runV_w : ∀ (ws : List Nat) (ns : List Int) (st : List Nat × Bool), ws.length = ns.length → runV wstp wval st ws ns = ns
  | [], [], _, _ => rfl
  | _ :: ws, n :: ns, st, h => by simp only [runV, wval]; rw [runV_w ws ns _ (by simpa using h)]
  | [], _ :: _, _, h => by simp at h
  | _ :: _, [], _, h => by simp at h
theorem runS_w_bad : ∀ (ws : List Nat) (ns : List Int) (st : List Nat × Bool), (runS wstp st ws ns).2 = (st.2 || !okNs ws ns)
  | [], _, st => by simp [runS, okNs]
  | _ :: _, [], st => by simp [runS, okNs]
  | wd :: ws, n :: ns, st => by
    simp only [runS, okNs]
    rw [runS_w_bad ws ns]
    simp only [wstp]
    cases st.2 <;> cases okN wd n <;> cases okNs ws ns <;> rfl
theorem runS_w_ok : ∀ (ws : List Nat) (ns : List Int) (st : List Nat × Bool), okNs ws ns = true → (runS wstp st ws ns).1 = st.1 ++ encF ws ns
  | [], _, st, _ => by simp [runS, encF]
  | _ :: _, [], st, _ => by simp [runS, encF]
  | wd :: ws, n :: ns, st, h => by
    simp only [okNs, Bool.and_eq_true] at h
    simp only [runS, encF]
    rw [runS_w_ok ws ns _ h.2]
    simp only [wstp]
    have := h.1
    unfold okN at this
    simp only [Bool.and_eq_true, decide_eq_true_eq] at this
    rw [if_pos this.2, List.append_assoc]
theorem runS_w_len : ∀ (ws : List Nat) (ns : List Int) (st : List Nat × Bool), ws.length = ns.length → (runS wstp st ws ns).1.length = st.1.length + ws.sum
  | [], [], st, _ => by simp [runS]
  | wd :: ws, n :: ns, st, h => by
    simp only [runS]
    rw [runS_w_len ws ns _ (by simpa using h)]
    simp only [wstp, List.length_append, List.sum_cons]
    split <;> simp [low_length] <;> omega
  | [], _ :: _, _, h => by simp at h
  | _ :: _, [], _, h => by simp at h
theorem runS_w_lt : ∀ (ws : List Nat) (ns : List Int) (st : List Nat × Bool), (∀ b ∈ st.1, b < 256) → ∀ b ∈ (runS wstp st ws ns).1, b < 256
  | [], _, st, h => by simpa [runS] using h
  | _ :: _, [], st, h => by simpa [runS] using h
  | wd :: ws, n :: ns, st, h => by
    simp only [runS]
    refine runS_w_lt ws ns _ fun b hb => ?_
    simp only [wstp, List.mem_append] at hb
    rcases hb with hb | hb
    · exact h b hb
    · split at hb
      · exact low_lt _ _ b hb
      · rw [List.mem_replicate] at hb; omega
theorem encF_length : ∀ (ws : List Nat) (ns : List Int), ws.length = ns.length → (encF ws ns).length = ws.sum
  | [], [], _ => rfl
  | wd :: ws, n :: ns, h => by simp only [encF, List.length_append, low_length, List.sum_cons]; rw [encF_length ws ns (by simpa using h)]
  | [], _ :: _, h => by simp at h
  | _ :: _, [], h => by simp at h
theorem encF_lt : ∀ (ws : List Nat) (ns : List Int), ∀ b ∈ encF ws ns, b < 256
  | [], _ => by simp [encF]
  | _ :: _, [] => by simp [encF]
  | wd :: ws, n :: ns => by
    intro b hb
    simp only [encF, List.mem_append] at hb
    rcases hb with hb | hb
    · exact low_lt _ _ b hb
    · exact encF_lt ws ns b hb
/-! A form that reads: where it stands, and whether it came to the end. -/
def rstp (body : List Nat) (st : Nat × Bool) (wd : Nat) (_ : Int) : Nat × Bool := (st.1 + wd, st.2 || !decide (st.1 + wd ≤ body.length))
def rval (body : List Nat) (st : Nat × Bool) (wd : Nat) (_ : Int) : Int := if st.1 + wd ≤ body.length then (numOf ((body.drop st.1).take wd) : Nat) else 0
/-- The numbers of bytes. -/
def decF : List Nat → List Nat → List Int
  | wd :: ws, b => ((numOf (b.take wd) : Nat) : Int) :: decF ws (b.drop wd)
  | [], _ => []
theorem decF_length (ws : List Nat) (b : List Nat) : (decF ws b).length = ws.length := by
  induction ws generalizing b with
  | nil => rfl
  | cons wd ws ih => simp [decF, ih]
theorem runS_r (body : List Nat) : ∀ (ws : List Nat) (ns : List Int) (st : Nat × Bool), ws.length = ns.length → (runS (rstp body) st ws ns).1 = st.1 + ws.sum ∧ ((runS (rstp body) st ws ns).2 = true ↔ st.2 = true ∨ (ws ≠ [] ∧ body.length < st.1 + ws.sum))
  | [], [], st, _ => by simp [runS]
  | wd :: ws, n :: ns, st, h => by
    obtain ⟨h1, h2⟩ := runS_r body ws ns (rstp body st wd n) (by simpa using h)
    simp only [runS]
    rw [h1, h2]
    simp only [rstp, List.sum_cons, Bool.or_eq_true, Bool.not_eq_true', decide_eq_false_iff_not]
    refine ⟨by omega, ?_⟩
    have hs : ws = [] → ws.sum = 0 := fun h => by rw [h]; rfl
    constructor
    · rintro ((h | h) | ⟨_, h⟩)
      · exact .inl h
      · exact .inr ⟨by simp, by omega⟩
      · exact .inr ⟨by simp, by omega⟩
    · rintro (h | ⟨_, h⟩)
      · exact .inl (.inl h)
      · by_cases he : ws = []
        · have := hs he; exact .inl (.inr (by omega))
        · exact .inr ⟨he, by omega⟩
  | [], _ :: _, _, h => by simp at h
  | _ :: _, [], _, h => by simp at h
theorem runV_r (body : List Nat) : ∀ (ws : List Nat) (ns : List Int) (st : Nat × Bool), ws.length = ns.length → st.1 + ws.sum ≤ body.length → runV (rstp body) (rval body) st ws ns = decF ws (body.drop st.1)
  | [], [], st, _, _ => rfl
  | wd :: ws, n :: ns, st, h, hl => by
    simp only [List.sum_cons] at hl
    simp only [runV, decF]
    rw [runV_r body ws ns _ (by simpa using h) (by simp only [rstp]; omega)]
    simp only [rstp, rval, List.drop_drop]
    rw [if_pos (by omega)]
  | [], _ :: _, _, h, _ => by simp at h
  | _ :: _, [], _, h, _ => by simp at h
theorem decF_encF : ∀ (ws : List Nat) (ns : List Int) (rest : List Nat), ws.length = ns.length → okNs ws ns = true → decF ws (encF ws ns ++ rest) = ns
  | [], [], _, _, _ => rfl
  | wd :: ws, n :: ns, rest, h, hok => by
    simp only [okNs, Bool.and_eq_true] at hok
    simp only [encF, decF]
    rw [List.append_assoc, List.take_left' (low_length _ _), List.drop_left' (low_length _ _), decF_encF ws ns rest (by simpa using h) hok.2]
    have := hok.1
    unfold okN at this
    simp only [Bool.and_eq_true, decide_eq_true_eq] at this
    rw [numOf_low, Nat.mod_eq_of_lt this.2]
    congr 1
    omega
  | [], _ :: _, _, h, _ => by simp at h
  | _ :: _, [], _, h, _ => by simp at h
theorem encF_decF : ∀ (ws : List Nat) (b : List Nat), (∀ x ∈ b, x < 256) → ws.sum ≤ b.length → encF ws (decF ws b) = b.take ws.sum
  | [], b, _, _ => by simp [encF, decF]
  | wd :: ws, b, hb, hl => by
    simp only [List.sum_cons] at hl
    simp only [encF, decF, List.sum_cons, Int.toNat_natCast]
    have h1 := low_numOf (b.take wd) fun x hx => hb x (List.mem_of_mem_take hx)
    rw [List.length_take, Nat.min_eq_left (by omega)] at h1
    rw [h1, encF_decF ws (b.drop wd) (fun x hx => hb x (List.mem_of_mem_drop hx)) (by rw [List.length_drop]; omega)]
    rw [← List.take_append_drop wd (b.take (wd + ws.sum)), List.take_take, Nat.min_eq_left (by omega), List.drop_take, Nat.add_sub_cancel_left]
theorem okFs_decF : ∀ (ws : List Nat) (b : List Nat), (∀ x ∈ b, x < 256) → ws.sum ≤ b.length → okNs ws (decF ws b) = true
  | [], b, _, _ => rfl
  | wd :: ws, b, hb, hl => by
    simp only [List.sum_cons] at hl
    simp only [okNs, decF, Bool.and_eq_true]
    refine ⟨?_, okFs_decF ws (b.drop wd) (fun x hx => hb x (List.mem_of_mem_drop hx)) (by rw [List.length_drop]; omega)⟩
    unfold okN
    have := numOf_lt (b.take wd) fun x hx => hb x (List.mem_of_mem_take hx)
    rw [List.length_take, Nat.min_eq_left (by omega)] at this
    simp only [Bool.and_eq_true, decide_eq_true_eq, Int.toNat_natCast]
    exact ⟨by omega, this⟩
/-! Records, one behind the other. -/
def encR (ws : List Nat) (rs : List (List Int)) : List Nat := rs.flatMap (encF ws)
def okR (ws : List Nat) (rs : List (List Int)) : Bool := rs.all (okNs ws)
def wid (ws : List Nat) (rs : List (List Int)) : Prop := ∀ r ∈ rs, ws.length = r.length
def runRS {σ : Type} (stp : σ → Nat → Int → σ) (ws : List Nat) (st : σ) (rs : List (List Int)) : σ := rs.foldl (fun st r => runS stp st ws r) st
theorem runRS_snoc {σ : Type} (stp : σ → Nat → Int → σ) (ws : List Nat) (st : σ) (rs : List (List Int)) (r : List Int) : runRS stp ws st (rs ++ [r]) = runS stp (runRS stp ws st rs) ws r := by
  unfold runRS; rw [List.foldl_append]; rfl
def runRV {σ : Type} (stp : σ → Nat → Int → σ) (val : σ → Nat → Int → Int) (ws : List Nat) : σ → List (List Int) → List (List Int)
  | st, r :: rs => runV stp val st ws r :: runRV stp val ws (runS stp st ws r) rs
  | _, [] => []
theorem runRV_snoc {σ : Type} (stp : σ → Nat → Int → σ) (val : σ → Nat → Int → Int) (ws : List Nat) (r : List Int) : ∀ (rs : List (List Int)) (st : σ), runRV stp val ws st (rs ++ [r]) = runRV stp val ws st rs ++ [runV stp val (runRS stp ws st rs) ws r]
  | [], st => rfl
  | x :: rs, st => by simp only [List.cons_append, runRV]; rw [runRV_snoc stp val ws r rs]; rfl
theorem runRV_length {σ : Type} (stp : σ → Nat → Int → σ) (val : σ → Nat → Int → Int) (ws : List Nat) : ∀ (rs : List (List Int)) (st : σ), (runRV stp val ws st rs).length = rs.length
  | [], _ => rfl
  | _ :: rs, st => by simp only [runRV, List.length_cons, runRV_length stp val ws rs]
theorem runRV_w (ws : List Nat) : ∀ (rs : List (List Int)) (st : List Nat × Bool), wid ws rs → runRV wstp wval ws st rs = rs
  | [], _, _ => rfl
  | r :: rs, st, h => by
    simp only [runRV]
    rw [runV_w ws r st (h r (List.mem_cons_self ..)), runRV_w ws rs _ fun x hx => h x (List.mem_cons_of_mem _ hx)]
theorem runRS_w_bad (ws : List Nat) : ∀ (rs : List (List Int)) (st : List Nat × Bool), (runRS wstp ws st rs).2 = (st.2 || !okR ws rs)
  | [], st => by simp [runRS, okR]
  | r :: rs, st => by
    show (runRS wstp ws (runS wstp st ws r) rs).2 = _
    rw [runRS_w_bad ws rs, runS_w_bad]
    simp only [okR, List.all_cons]
    cases st.2 <;> cases okNs ws r <;> simp
theorem runRS_w_ok (ws : List Nat) : ∀ (rs : List (List Int)) (st : List Nat × Bool), okR ws rs = true → (runRS wstp ws st rs).1 = st.1 ++ encR ws rs
  | [], st, _ => by simp [runRS, encR]
  | r :: rs, st, h => by
    show (runRS wstp ws (runS wstp st ws r) rs).1 = _
    simp only [okR, List.all_cons, Bool.and_eq_true] at h
    rw [runRS_w_ok ws rs _ h.2, runS_w_ok ws r st h.1, List.append_assoc]
    rfl
theorem encR_length (ws : List Nat) : ∀ (rs : List (List Int)), wid ws rs → (encR ws rs).length = rs.length * ws.sum
  | [], _ => by simp [encR]
  | r :: rs, h => by
    show (encF ws r ++ encR ws rs).length = _
    rw [List.length_append, encF_length ws r (h r (List.mem_cons_self ..)), encR_length ws rs fun x hx => h x (List.mem_cons_of_mem _ hx), List.length_cons, Nat.add_mul, Nat.one_mul]
    omega
theorem encR_lt (ws : List Nat) (rs : List (List Int)) : ∀ b ∈ encR ws rs, b < 256 := by
  intro b hb
  obtain ⟨r, _, h⟩ := List.mem_flatMap.1 hb
  exact encF_lt ws r b h
/-- So many records of bytes. -/
def decR (ws : List Nat) (b : List Nat) : Nat → List (List Int)
  | 0 => []
  | n + 1 => decF ws b :: decR ws (b.drop ws.sum) n
theorem decR_length (ws : List Nat) : ∀ (n : Nat) (b : List Nat), (decR ws b n).length = n
  | 0, _ => rfl
  | n + 1, b => by simp [decR, decR_length ws n]
theorem decR_wid (ws : List Nat) : ∀ (n : Nat) (b : List Nat), wid ws (decR ws b n)
  | 0, _ => by intro r h; simp [decR] at h
  | n + 1, b => by
    intro r h
    simp only [decR, List.mem_cons] at h
    rcases h with rfl | h
    · exact (decF_length ws b).symm
    · exact decR_wid ws n _ r h
theorem decR_snoc (ws : List Nat) : ∀ (n : Nat) (b : List Nat), decR ws b (n + 1) = decR ws b n ++ [decF ws (b.drop (n * ws.sum))]
  | 0, b => by simp [decR]
  | n + 1, b => by
    have h1 : decR ws b (n + 1 + 1) = decF ws b :: decR ws (b.drop ws.sum) (n + 1) := rfl
    have h2 : decR ws b (n + 1) = decF ws b :: decR ws (b.drop ws.sum) n := rfl
    have e : ws.sum + n * ws.sum = (n + 1) * ws.sum := by rw [Nat.succ_mul]; omega
    rw [h1, decR_snoc ws n (b.drop ws.sum), List.drop_drop, h2, e]
    rfl
theorem decR_encR (ws : List Nat) : ∀ (rs : List (List Int)), wid ws rs → okR ws rs = true → decR ws (encR ws rs) rs.length = rs
  | [], _, _ => rfl
  | r :: rs, h, hok => by
    simp only [okR, List.all_cons, Bool.and_eq_true] at hok
    have hl := encF_length ws r (h r (List.mem_cons_self ..))
    show decF ws (encF ws r ++ encR ws rs) :: decR ws ((encF ws r ++ encR ws rs).drop ws.sum) rs.length = _
    rw [decF_encF ws r _ (h r (List.mem_cons_self ..)) hok.1, List.drop_left' hl, decR_encR ws rs (fun x hx => h x (List.mem_cons_of_mem _ hx)) hok.2]
end Go.Dn
end
section
/-! Forms: the writer and the reader of package codec. -/
set_option maxRecDepth 10000
set_option linter.unusedVariables false
set_option linter.unusedSimpArgs false
namespace Go.Dn
open Go
attribute [local semireducible] wInvoke wNil wCall wNext in
theorem inv_eq {P : Program} {t : TypeId} {v r : Value} {m : String} {f : FuncId} {args : List Value} {w : World} {K : Value → World → Prop} (h : ∀ w, (method (P.types.size + Made.depth) t v m).run P w = .ok (f, r) w) :
    wInvoke P (.iface t v) m args w K = wCall P f (r :: args) w K := by
  unfold wInvoke wCall wNext callMethod
  simp only [program, Sem.run_bind, Sem.run, Result.andThen_ok, h]
  have e : (#[r] ++ ({ toList := args } : Array Value)) = { toList := r :: args } := by apply Array.toList_inj.1; simp
  rw [e]
attribute [local semireducible] wNil in
theorem nil_meth {P : Program} {t : TypeId} {v : Value} {m : String} {cap : List Value} {w : World} {K : Value → World → Prop} (h : ∀ w, (nilAhead (P.types.size + Made.depth) t v m).run P w = .ok (some false) w) :
    wNil P (.func (.method m) ⟨[.iface t v]⟩ ⟨cap⟩) w K = K (.func (.method m) ⟨[.iface t v]⟩ ⟨cap⟩) w := by
  refine pureW_eq (fun w' => ?_) w K
  simp only [nilS, List.getElem?_toArray, List.getElem?_cons_zero, program, Sem.run_bind, Sem.run, Result.andThen_ok, h]
  rfl
attribute [local semireducible] wFunc in
theorem func_meth {P : Program} (m : String) (first cap : List Value) {w : World} {K : Value → World → Prop} : wFunc P (.method m) first cap w K = K (.func (.method m) ⟨first⟩ ⟨cap⟩) w := rfl
attribute [local semireducible] wIface in
theorem iface_i {P : Program} {t d : TypeId} {v : Value} {w : World} {K : Value → World → Prop} (ht : P.underlying t = some (.pointer d)) : wIface P t v w K = K (.iface t v) w := by
  refine pureW_eq (fun w' => ?_) w K
  unfold Instr.makeInterface
  simp only [Sem.run_bind, und_run ht, Result.andThen_ok]
  rfl
/-- A thing that numbers are handed to, one behind the other. -/
structure Form (f : Value) where
  σ : Type
  S : World → σ → List Nat → Prop
  stp : σ → Nat → Int → σ
  val : σ → Nat → Int → Int
  more : σ → Bool
  sz : σ → Nat
  sz_stp : ∀ s wd n, sz (stp s wd n) = sz s + wd
  ex : ∀ {T w w' s fp}, S w s fp → Ex T w w' → (∀ x ∈ T, x ∉ fp) → S w' s fp
  bd : ∀ {w s fp}, S w s fp → ∀ x ∈ fp, x < w.heap.size
  /-- its methods may be asked for -/
  ask : ∀ (m : String), m ∈ ["drumlin/codec.wide", "drumlin/codec.int", "drumlin/codec.word"] → ∀ (w : World) (K : Value → World → Prop), K (.func (.method m) ⟨[f]⟩ ⟨[]⟩) w → wNil P (.func (.method m) ⟨[f]⟩ ⟨[]⟩) w K
  wide : ∀ {w s fp b o t cs wd n} {K : Value → World → Prop}, S w s fp → Blk w b t cs → b ∉ fp → cs[o]? = some (.int .u64 n) → 0 ≤ n → n < 18446744073709551616 → 1 ≤ wd → wd ≤ 8 → sz s ≤ 1000000 →
    (∀ w' fp', Ex (b :: fp) w w' → S w' (stp s wd n) fp' → (∀ x ∈ fp', x ∈ fp ∨ w.heap.size ≤ x) → Blk w' b t (cs.set o (.int .u64 (val s wd n))) → K (.tuple #[]) w') → wInvoke P f "drumlin/codec.wide" [.int .i64 (wd : Nat), .pointer (some ⟨b, o, none⟩)] w K
  int : ∀ {w s fp b o t cs wd n} {K : Value → World → Prop}, S w s fp → Blk w b t cs → b ∉ fp → cs[o]? = some (.int .i64 n) → -9223372036854775808 ≤ n → n ≤ 9223372036854775807 → 1 ≤ wd → wd ≤ 4 → sz s ≤ 1000000 →
    (∀ w' fp', Ex (b :: fp) w w' → S w' (stp s wd n) fp' → (∀ x ∈ fp', x ∈ fp ∨ w.heap.size ≤ x) → Blk w' b t (cs.set o (.int .i64 (val s wd n))) → K (.tuple #[]) w') → wInvoke P f "drumlin/codec.int" [.int .i64 (wd : Nat), .pointer (some ⟨b, o, none⟩)] w K
  word : ∀ {w s fp b o t cs wd n} {K : Value → World → Prop}, S w s fp → Blk w b t cs → b ∉ fp → cs[o]? = some (.int .u32 n) → 0 ≤ n → n < 4294967296 → 1 ≤ wd → wd ≤ 4 → sz s ≤ 1000000 →
    (∀ w' fp', Ex (b :: fp) w w' → S w' (stp s wd n) fp' → (∀ x ∈ fp', x ∈ fp ∨ w.heap.size ≤ x) → Blk w' b t (cs.set o (.int .u32 (val s wd n))) → K (.tuple #[]) w') → wInvoke P f "drumlin/codec.word" [.int .i64 (wd : Nat), .pointer (some ⟨b, o, none⟩)] w K
  moreC : ∀ {w s fp} {K : Value → World → Prop}, S w s fp → (∀ w', Ex [] w w' → K (.bool (more s)) w') → wInvoke P f "drumlin/codec.more" [] w K
/-! The writer. -/
def WrS (h : Nat) (w : World) (s : List Nat × Bool) (fp : List Nat) : Prop :=
  ∃ v, Blk w h T_codec_writer [v, .bool s.2] ∧ Own w 0 T_uint8 1 v (bvs s.1) ∧ (∀ b ∈ s.1, b < 256) ∧ fp = h :: v.ownBlock.toList
theorem WrS.ex {T : List Nat} {w w' : World} {h : Nat} {s : List Nat × Bool} {fp : List Nat} (H : WrS h w s fp) (hx : Ex T w w') (hT : ∀ x ∈ T, x ∉ fp) : WrS h w' s fp := by
  obtain ⟨v, hb, ho, hl, rfl⟩ := H
  refine ⟨v, hb.ex hx fun hm => hT _ hm (by simp), ho.ex hx fun g hg hm => hT _ hm (by simp [hg]), hl, rfl⟩
theorem WrS.bd {w : World} {h : Nat} {s : List Nat × Bool} {fp : List Nat} (H : WrS h w s fp) : ∀ x ∈ fp, x < w.heap.size := by
  obtain ⟨v, hb, ho, hl, rfl⟩ := H
  intro x hx
  rcases List.mem_cons.1 hx with rfl | hx
  · exact hb.lt
  · cases hv : v.ownBlock with
    | none => rw [hv] at hx; simp at hx
    | some g => rw [hv] at hx; simp at hx; subst hx; exact (ho.blk hv).2.1
theorem meth_writer_wide (a : Addr) (w : World) : (method (P.types.size + Made.depth) T_pcodec_writer (.pointer (some a)) "drumlin/codec.wide").run P w = .ok (n_codec_writer_wide, .pointer (some a)) w := by kernel_rfl
theorem meth_writer_int (a : Addr) (w : World) : (method (P.types.size + Made.depth) T_pcodec_writer (.pointer (some a)) "drumlin/codec.int").run P w = .ok (n_codec_writer_int, .pointer (some a)) w := by kernel_rfl
theorem meth_writer_word (a : Addr) (w : World) : (method (P.types.size + Made.depth) T_pcodec_writer (.pointer (some a)) "drumlin/codec.word").run P w = .ok (n_codec_writer_word, .pointer (some a)) w := by kernel_rfl
theorem meth_writer_more (a : Addr) (w : World) : (method (P.types.size + Made.depth) T_pcodec_writer (.pointer (some a)) "drumlin/codec.more").run P w = .ok (n_codec_writer_more, .pointer (some a)) w := by kernel_rfl
theorem ahead_writer_wide (a : Addr) (w : World) : (nilAhead (P.types.size + Made.depth) T_pcodec_writer (.pointer (some a)) "drumlin/codec.wide").run P w = .ok (some false) w := by kernel_rfl
theorem ahead_writer_int (a : Addr) (w : World) : (nilAhead (P.types.size + Made.depth) T_pcodec_writer (.pointer (some a)) "drumlin/codec.int").run P w = .ok (some false) w := by kernel_rfl
theorem ahead_writer_word (a : Addr) (w : World) : (nilAhead (P.types.size + Made.depth) T_pcodec_writer (.pointer (some a)) "drumlin/codec.word").run P w = .ok (some false) w := by kernel_rfl
theorem meth_reader_wide (a : Addr) (w : World) : (method (P.types.size + Made.depth) T_pcodec_reader (.pointer (some a)) "drumlin/codec.wide").run P w = .ok (n_codec_reader_wide, .pointer (some a)) w := by kernel_rfl
theorem meth_reader_int (a : Addr) (w : World) : (method (P.types.size + Made.depth) T_pcodec_reader (.pointer (some a)) "drumlin/codec.int").run P w = .ok (n_codec_reader_int, .pointer (some a)) w := by kernel_rfl
theorem meth_reader_word (a : Addr) (w : World) : (method (P.types.size + Made.depth) T_pcodec_reader (.pointer (some a)) "drumlin/codec.word").run P w = .ok (n_codec_reader_word, .pointer (some a)) w := by kernel_rfl
theorem meth_reader_more (a : Addr) (w : World) : (method (P.types.size + Made.depth) T_pcodec_reader (.pointer (some a)) "drumlin/codec.more").run P w = .ok (n_codec_reader_more, .pointer (some a)) w := by kernel_rfl
theorem ahead_reader_wide (a : Addr) (w : World) : (nilAhead (P.types.size + Made.depth) T_pcodec_reader (.pointer (some a)) "drumlin/codec.wide").run P w = .ok (some false) w := by kernel_rfl
theorem ahead_reader_int (a : Addr) (w : World) : (nilAhead (P.types.size + Made.depth) T_pcodec_reader (.pointer (some a)) "drumlin/codec.int").run P w = .ok (some false) w := by kernel_rfl
theorem ahead_reader_word (a : Addr) (w : World) : (nilAhead (P.types.size + Made.depth) T_pcodec_reader (.pointer (some a)) "drumlin/codec.word").run P w = .ok (some false) w := by kernel_rfl
section
variable {w : World} {K : Value → World → Prop}
theorem flat_u8 (n : Nat) : (List.replicate n [Value.int .u8 0]).flatten = bvs (List.replicate n 0) := by
  rw [rep_bvs]
  induction n with
  | zero => rfl
  | succ n ih => rw [List.replicate_succ, List.replicate_succ, List.flatten_cons, ih]; rfl
theorem make_u8 {n : Nat} (hn : n ≤ 1000000) (hk : ∀ w' g, g = w.heap.size → Ex [] w w' → Blk w' g T_uint8 (bvs (List.replicate n 0)) → K (.slice (some ⟨g, 0, none⟩) n n) w') : wMake P T_Luint8 (.int .i64 (n : Int)) (.int .i64 (n : Int)) w K := by
  have hi : (P.info? T_uint8).map (fun i => (i.zero, i.size, i.bytes)) = some (some (.int .u8 0), 1, 1) := by kernel_rfl
  cases hI : P.info? T_uint8 with
  | none => rw [hI] at hi; cases hi
  | some i =>
    rw [hI] at hi
    simp only [Option.map_some, Option.some.injEq, Prod.mk.injEq] at hi
    refine make_i (n := n) (bytes := 1) (zs := [.int .u8 0]) u_T_Luint8 hI hi.1 rfl (by simp) hi.2.1 hi.2.2 (by simp; omega) (by omega) fun w1 g1 hg1 hE1 B1 => hk w1 g1 hg1 hE1 ?_
    rw [flat_u8] at B1; exact B1
theorem codec_writer_wide {h b o wd : Nat} {s : List Nat × Bool} {fp : List Nat} {t : TypeId} {cs : List Value} {n : Int} {k : Value → World → Prop} (H : WrS h w s fp) (B : Blk w b t cs) (hb : b ∉ fp) (hn : cs[o]? = some (.int .u64 n)) (h0 : 0 ≤ n) (h1 : n < 18446744073709551616) (hw : 1 ≤ wd) (hw8 : wd ≤ 8)
    (hsz : s.1.length ≤ 1000000) (hk : ∀ w' fp', Ex fp w w' → WrS h w' (wstp s wd n) fp' → (∀ x ∈ fp', x ∈ fp ∨ w.heap.size ≤ x) → k (.tuple #[]) w') : wCall P n_codec_writer_wide [ptr h, .int .i64 (wd : Nat), .pointer (some ⟨b, o, none⟩)] w k := by
  refine call_codec_writer_wide _ _ _ ?_
  unfold F_codec_writer_wide
  obtain ⟨v, hB, hO, hl, rfl⟩ := H
  obtain ⟨x, rfl⟩ : ∃ x : Nat, n = x := ⟨n.toNat, by omega⟩
  refine make_u8 (by omega) fun w1 g1 hg1 hE1 B1 => ?_
  have hhb : h ≠ b := fun e => hb (by simp [e])
  have hg1h : g1 ≠ h := by have := hB.lt; omega
  refine j0_of (fun w' => Ex [h] w w' ∧ Blk w' h T_codec_writer [v, .bool (s.2 || !okN wd x)] ∧ Blk w' g1 T_uint8 (bvs (if x < 256 ^ wd then low x wd else List.replicate wd 0))) (fun k1 hk1 => ?_) ?_
  · simp only [nil_ptr]
    rw [ld_one o_T_uint64 (((B.ex hE1 (by simp)).cell o).trans hn)]
    refine num_Put (o := 0) (cs := bvs (List.replicate wd 0)) B1 (by simp [bvs]) (by omega) (by omega) (by omega) (fun hbad => ?_) (fun hok w2 hE2 B2 => ?_)
    · rw [bin_neq, wIf_dt (by omega)]
      simp only [fA_T_codec_writer_1]
      have hx : ¬ x < 256 ^ wd := fun hx => hbad ⟨by omega, by omega, by omega, by omega, by simpa using hx⟩
      have hB1 := hB.ex hE1 (by simp)
      refine st_one o_T_bool rfl hB1 (by simp) fun w3 hE3 B3 => ?_
      refine hk1 w3 ⟨hE1.nil.trans hE3, ?_, ?_⟩
      · have : okN wd x = false := by
          unfold okN
          rw [Int.toNat_natCast, decide_eq_false hx, Bool.and_false]
        rw [this]
        simpa using B3
      · rw [if_neg hx]
        exact B1.ex hE3 (by simp; omega)
    · rw [bin_neq, wIf_df (by omega)]
      have hx : x < 256 ^ wd := by have := hok.2.2.2.2; simpa using this
      refine hk1 w2 ⟨(hE1.new hE2 (by omega)).nil, ?_, ?_⟩
      · have : okN wd x = true := by
          unfold okN
          rw [Int.toNat_natCast, decide_eq_true hx]
          simp
        rw [this]
        simpa using (hB.ex hE1 (by simp)).ex hE2 (by simp; omega)
      · rw [if_pos hx]
        have e : splice (bvs (List.replicate wd 0)) (0 + (0 : Int).toNat) (bvs (low x ((wd : Nat) : Int).toNat)) = bvs (low x wd) := by
          rw [show (0 : Nat) + (0 : Int).toNat = 0 from rfl, Int.toNat_natCast, splice_front (n := wd) (by rw [bvs_length, low_length]) (by simp [bvs]), List.drop_of_length_le (by simp [bvs]), List.append_nil]
        rw [e] at B2
        exact B2
  · rintro J w2 ⟨hE2, hB2, hG2⟩
    generalize hys : (if x < 256 ^ wd then low x wd else List.replicate wd 0) = ys at hG2
    have hyl : ys.length = wd := by rw [← hys]; split <;> simp [low_length]
    have hyb : ∀ b ∈ ys, b < 256 := by
      rw [← hys]; split
      · exact low_lt _ _
      · intro b hb; rw [List.mem_replicate] at hb; omega
    have hvh : ∀ g, v.ownBlock = some g → g ∉ [h] := fun g hg => by have := hO.off hB (by decide) g hg; simpa using this
    have hO2 := hO.ex hE2 hvh
    simp only [nil_ptr, fA_T_codec_writer_0]
    rw [ld_one o_T_Luint8 (hB2.cell 0)]
    have hle := hE2.le
    refine app_T_Luint8 (n := s.1.length) (m := wd) hO2 (SlG.of_cs hG2.all (by rw [bvs_length, hyl]; omega) (Nat.le_refl _)) (by rw [bvs_length]; omega) (by rw [bvs_length, hyl]; omega) (bvs_isC _) (by omega) (Nat.zero_le _) fun v' w3 hO3 hE3 hv' => ?_
    rw [← bvs_append] at hO3
    have hne : h ∉ v.ownBlock.toList := by
      intro hm
      cases hv : v.ownBlock with
      | none => rw [hv] at hm; simp at hm
      | some g => rw [hv] at hm; simp at hm; exact hvh g hv (by simp [hm])
    have hB3 := hB2.ex hE3 hne
    refine st_one (x := v') o_T_Luint8 ?_ hB3 (by simp) fun w4 hE4 B4 => ?_
    · obtain ⟨A, c, hs'⟩ := hO3.slice (by omega) (n := (s.1 ++ ys).length) (by rw [bvs_length]; omega)
      rw [hs']; rfl
    have hv'h : ∀ g, v'.ownBlock = some g → g ∉ [h] := fun g hg => by have := hO3.off hB3 (by decide) g hg; simpa using this
    refine hk w4 (h :: v'.ownBlock.toList) ?_ ⟨v', ?_, ?_, ?_, rfl⟩ ?_
    · refine ((hE2.mono (by simp)).step hE3 fun y hy => .inl (by simp [hy])).trans (hE4.mono (by simp))
    · show Blk w4 h T_codec_writer [v', .bool (s.2 || !okN wd x)]
      simpa using B4
    · show Own w4 0 T_uint8 1 v' (bvs (s.1 ++ (if (x : Int).toNat < 256 ^ wd then low (x : Int).toNat wd else List.replicate wd 0)))
      rw [Int.toNat_natCast, hys]
      exact hO3.ex hE4 hv'h
    · intro b hb'
      have hb' : b ∈ s.1 ++ (if (x : Int).toNat < 256 ^ wd then low (x : Int).toNat wd else List.replicate wd 0) := hb'
      rw [Int.toNat_natCast, hys] at hb'
      rcases List.mem_append.1 hb' with hb' | hb'
      · exact hl b hb'
      · exact hyb b hb'
    · intro y hy
      rcases List.mem_cons.1 hy with rfl | hy
      · exact .inl (by simp)
      · rcases hv' with hv' | hv'
        · rw [hv'] at hy; exact .inl (by simp [hy])
        · rw [hv'] at hy; simp at hy; exact .inr (by omega)
end
end Go.Dn
end
section
/-! Forms, on: the reader; both as forms. -/
set_option maxRecDepth 10000
set_option linter.unusedVariables false
set_option linter.unusedSimpArgs false
namespace Go.Dn
open Go
def RdS (h : Nat) (body : List Nat) (w : World) (s : Nat × Bool) (fp : List Nat) : Prop :=
  ∃ bv, Blk w h T_codec_reader [bv, .int .i64 (s.1 : Int), .bool s.2] ∧ SlG w 1 bv (bvs body) ∧ (∀ b ∈ body, b < 256) ∧ body.length ≤ 1000000 ∧ (∀ g, bv.ownBlock = some g → g ≠ h ∧ g < w.heap.size) ∧ fp = h :: bv.ownBlock.toList
theorem RdS.ex {T : List Nat} {w w' : World} {h : Nat} {body : List Nat} {s : Nat × Bool} {fp : List Nat} (H : RdS h body w s fp) (hx : Ex T w w') (hT : ∀ x ∈ T, x ∉ fp) : RdS h body w' s fp := by
  obtain ⟨v, hb, ho, hl, hn, hne, rfl⟩ := H
  have := hx.le
  refine ⟨v, hb.ex hx fun hm => hT _ hm (by simp), ho.ex hx fun g hg hm => hT _ hm (by simp [hg]), hl, hn, fun g hg => ⟨(hne g hg).1, by have := (hne g hg).2; omega⟩, rfl⟩
theorem RdS.bd {w : World} {h : Nat} {body : List Nat} {s : Nat × Bool} {fp : List Nat} (H : RdS h body w s fp) : ∀ x ∈ fp, x < w.heap.size := by
  obtain ⟨v, hb, ho, hl, hn, hne, rfl⟩ := H
  intro x hx
  rcases List.mem_cons.1 hx with rfl | hx
  · exact hb.lt
  · cases hv : v.ownBlock with
    | none => rw [hv] at hx; simp at hx
    | some g => rw [hv] at hx; simp at hx; subst hx; exact (hne _ hv).2
section
variable {w : World} {K : Value → World → Prop}
theorem codec_reader_wide {h b o wd : Nat} {body : List Nat} {s : Nat × Bool} {fp : List Nat} {t : TypeId} {cs : List Value} {n : Int} {k : Value → World → Prop} (H : RdS h body w s fp) (B : Blk w b t cs) (hb : b ∉ fp) (hn : cs[o]? = some (.int .u64 n)) (hw : 1 ≤ wd) (hw8 : wd ≤ 8)
    (hsz : s.1 ≤ 1000000) (hk : ∀ w', Ex (b :: fp) w w' → RdS h body w' (rstp body s wd n) fp → Blk w' b t (cs.set o (.int .u64 (rval body s wd n))) → k (.tuple #[]) w') : wCall P n_codec_reader_wide [ptr h, .int .i64 (wd : Nat), .pointer (some ⟨b, o, none⟩)] w k := by
  refine call_codec_reader_wide _ _ _ ?_
  unfold F_codec_reader_wide
  obtain ⟨v, hB, hS, hl, hbl, hne, rfl⟩ := H
  have hbh : b ≠ h := fun e => hb (by simp [e])
  have hbv : ∀ g, v.ownBlock = some g → g ≠ b := fun g hg e => hb (by simp [hg, e])
  refine draw_i fun w1 hE1 _ => ?_
  have B1 := B.ex hE1 (by simp)
  have hB1 := hB.ex hE1 (by simp)
  have hS1 := hS.ex0 hE1
  simp only [nil_ptr, fA_T_codec_reader_0, fA_T_codec_reader_1, fA_T_codec_reader_2, Nat.zero_add]
  rw [ld_one o_T_Luint8 (hB1.cell 0), ld_one o_T_int (hB1.cell 1)]
  have ho := (List.getElem?_eq_some_iff.1 hn).1
  have fin : ∀ (x : Nat) (e : Int), ((x : Int) = rval body s wd n) → ((!decide (s.1 + wd ≤ body.length)) = decide (e ≠ 0)) →
      wExtract P (.tuple #[.int .u64 (x : Int), .int .i64 e]) 0 w1 fun t19 w => wExtract P (.tuple #[.int .u64 (x : Int), .int .i64 e]) 1 w fun t20 w =>
        wStore P T_uint64 (.pointer (some ⟨b, o, none⟩)) t19 w fun w => wLoad P T_bool (.pointer (some ⟨h, 2, none⟩)) w fun t28 w =>
        wGrp t28 false (fun k31 => wBin P .neq T_api_Errno t20 (.int .i64 0) w fun t31 w => k31 t31 w) w fun _ t31 w => wPick t28 (.bool true) t31 w fun t32 w =>
        wStore P T_bool (.pointer (some ⟨h, 2, none⟩)) t32 w fun w => wLoad P T_int (.pointer (some ⟨h, 1, none⟩)) w fun t38 w => wBin P .add T_int t38 (.int .i64 (wd : Nat)) w fun t40 w =>
        wStore P T_int (.pointer (some ⟨h, 1, none⟩)) t40 w fun w => k (.tuple #[]) w := by
    intro x e hx he
    rw [ext_0, ext_1]
    refine st_one o_T_uint64 rfl B1 ho fun w2 hE2 B2 => ?_
    have hB2 := hB1.ex hE2 (by simpa using hbh.symm)
    have hS2 := hS1.ex hE2 fun g hg => by simpa using hbv g hg
    rw [ld_one o_T_bool (hB2.cell 2)]
    refine or_i (r := decide (e ≠ 0)) (fun _ k' hk' => by rw [bin_neq]; exact hk') ?_
    refine st_one o_T_bool rfl hB2 (by simp) fun w3 hE3 B3 => ?_
    rw [ld_one o_T_int (B3.cell 1), bin_add (by omega)]
    refine st_one o_T_int rfl B3 (by simp) fun w4 hE4 B4 => ?_
    have hvh : ∀ g, v.ownBlock = some g → g ∉ [h] := fun g hg => by have := (hne g hg).1; simpa using this
    have l1 := hE1.le
    have l2 := hE2.le
    have l3 := hE3.le
    have l4 := hE4.le
    refine hk w4 ?_ ⟨v, ?_, (hS2.ex hE3 hvh).ex hE4 hvh, hl, hbl, fun g hg => ⟨(hne g hg).1, by have := (hne g hg).2; omega⟩, rfl⟩ ?_
    · exact ((hE1.nil.trans (hE2.mono (by simp))).trans (hE3.mono (by simp))).trans (hE4.mono (by simp))
    · show Blk w4 h T_codec_reader [v, .int .i64 ((s.1 + wd : Nat) : Int), .bool (s.2 || !decide (s.1 + wd ≤ body.length))]
      rw [he]
      simpa using B4
    · rw [← hx]
      exact (B2.ex hE3 (by simpa using hbh)).ex hE4 (by simpa using hbh)
  obtain ⟨A, m, c, rfl, hlen, hmc, hr⟩ := hS1
  have hm : body.length = m := by rw [bvs_length] at hlen; omega
  refine num_Get (bs := body) ⟨A, m, c, rfl, hlen, hmc, hr⟩ hl hm (by omega) (by omega) (fun hbad => ?_) (fun hok => ?_)
  · have hlt : ¬ s.1 + wd ≤ body.length := fun h' => hbad ⟨by omega, by omega, by omega, by omega⟩
    refine fin 0 1 ?_ ?_
    · unfold rval; rw [if_neg hlt]; rfl
    · simp; omega
  · have hlt : s.1 + wd ≤ body.length := by have := hok.2.2.2; omega
    simp only [Int.toNat_natCast]
    refine fin _ 0 ?_ ?_
    · unfold rval; rw [if_pos hlt]
    · simp; omega
theorem pow256_4 {wd : Nat} (h : wd ≤ 4) : 256 ^ wd ≤ 4294967296 := Nat.le_trans (Nat.pow_le_pow_right (by decide) h) (by decide)
theorem rval_lt {body : List Nat} (hl : ∀ b ∈ body, b < 256) (s : Nat × Bool) (wd : Nat) (n : Int) : 0 ≤ rval body s wd n ∧ rval body s wd n < (256 ^ wd : Nat) := by
  unfold rval
  split
  · have := numOf_lt ((body.drop s.1).take wd) fun b hb => hl b (List.mem_of_mem_drop (List.mem_of_mem_take hb))
    rw [List.length_take, List.length_drop, Nat.min_eq_left (by omega)] at this
    omega
  · have : 0 < 256 ^ wd := Nat.pow_pos (by decide)
    omega
theorem codec_reader_int {h b o wd : Nat} {body : List Nat} {s : Nat × Bool} {fp : List Nat} {t : TypeId} {cs : List Value} {n : Int} {k : Value → World → Prop} (H : RdS h body w s fp) (B : Blk w b t cs) (hb : b ∉ fp) (hn : cs[o]? = some (.int .i64 n)) (hw : 1 ≤ wd) (hw4 : wd ≤ 4)
    (hsz : s.1 ≤ 1000000) (hk : ∀ w', Ex (b :: fp) w w' → RdS h body w' (rstp body s wd n) fp → Blk w' b t (cs.set o (.int .i64 (rval body s wd n))) → k (.tuple #[]) w') : wCall P n_codec_reader_int [ptr h, .int .i64 (wd : Nat), .pointer (some ⟨b, o, none⟩)] w k := by
  refine call_codec_reader_int _ _ _ ?_
  unfold F_codec_reader_int
  refine alloc_i z_T_uint64 (vs := [.int .u64 0]) rfl fun w1 g1 hg1 hE1 B1 => ?_
  have hbd := H.bd
  have hlt := B.lt
  have H1 := H.ex hE1 (by simp)
  have hl : ∀ b ∈ body, b < 256 := by obtain ⟨_, _, _, hl, _⟩ := H; exact hl
  refine codec_reader_wide H1 B1 (fun hm => by have := hbd _ hm; omega) rfl hw (by omega) hsz fun w2 hE2 H2 B2 => ?_
  have hB2 := (B.ex hE1 (by simp)).ex hE2 (by simp; exact ⟨by omega, hb⟩)
  rw [ld_one o_T_uint64 (B2.cell 0 : _ = some (.int .u64 (rval body s wd n)))]
  have hr := rval_lt hl s wd n
  have hp := pow256_4 hw4
  have e0 : rval body s wd 0 = rval body s wd n := rfl
  rw [conv_i i_T_uint64 i_T_int, IntWalk.i64_in _ (by omega), nil_ptr]
  refine st_one o_T_int rfl hB2 (List.getElem?_eq_some_iff.1 hn).1 fun w3 hE3 B3 => ?_
  refine hk w3 ?_ (H2.ex hE3 (by simpa using hb)) B3
  exact ((hE1.nil.step hE2 (by simp; exact ⟨by omega, fun x hx => .inl (.inr hx)⟩)).trans (hE3.mono (by simp)))
theorem codec_reader_word {h b o wd : Nat} {body : List Nat} {s : Nat × Bool} {fp : List Nat} {t : TypeId} {cs : List Value} {n : Int} {k : Value → World → Prop} (H : RdS h body w s fp) (B : Blk w b t cs) (hb : b ∉ fp) (hn : cs[o]? = some (.int .u32 n)) (hw : 1 ≤ wd) (hw4 : wd ≤ 4)
    (hsz : s.1 ≤ 1000000) (hk : ∀ w', Ex (b :: fp) w w' → RdS h body w' (rstp body s wd n) fp → Blk w' b t (cs.set o (.int .u32 (rval body s wd n))) → k (.tuple #[]) w') : wCall P n_codec_reader_word [ptr h, .int .i64 (wd : Nat), .pointer (some ⟨b, o, none⟩)] w k := by
  refine call_codec_reader_word _ _ _ ?_
  unfold F_codec_reader_word
  refine alloc_i z_T_uint64 (vs := [.int .u64 0]) rfl fun w1 g1 hg1 hE1 B1 => ?_
  have hbd := H.bd
  have hlt := B.lt
  have H1 := H.ex hE1 (by simp)
  have hl : ∀ b ∈ body, b < 256 := by obtain ⟨_, _, _, hl, _⟩ := H; exact hl
  refine codec_reader_wide H1 B1 (fun hm => by have := hbd _ hm; omega) rfl hw (by omega) hsz fun w2 hE2 H2 B2 => ?_
  have hB2 := (B.ex hE1 (by simp)).ex hE2 (by simp; exact ⟨by omega, hb⟩)
  rw [ld_one o_T_uint64 (B2.cell 0 : _ = some (.int .u64 (rval body s wd n)))]
  have hr := rval_lt hl s wd n
  have hp := pow256_4 hw4
  have ew : IntKind.wrap .u32 (rval body s wd n) = rval body s wd n := IntWalk.u32_in _ (by omega)
  rw [conv_i i_T_uint64 i_T_uint32, ew, nil_ptr]
  refine st_one o_T_uint32 rfl hB2 (List.getElem?_eq_some_iff.1 hn).1 fun w3 hE3 B3 => ?_
  refine hk w3 ?_ (H2.ex hE3 (by simpa using hb)) B3
  exact ((hE1.nil.step hE2 (by simp; exact ⟨by omega, fun x hx => .inl (.inr hx)⟩)).trans (hE3.mono (by simp)))
theorem codec_reader_more {h : Nat} {body : List Nat} {s : Nat × Bool} {fp : List Nat} {k : Value → World → Prop} (H : RdS h body w s fp) (hk : ∀ w', Ex [] w w' → k (.bool (!s.2 && decide (s.1 < body.length))) w') : wCall P n_codec_reader_more [ptr h] w k := by
  refine call_codec_reader_more _ ?_
  unfold F_codec_reader_more
  refine draw_i fun w1 hE1 _ => ?_
  obtain ⟨v, hB, hS, hl, hbl, hne, rfl⟩ := H.ex hE1 (by simp)
  simp only [nil_ptr, fA_T_codec_reader_0, fA_T_codec_reader_1, fA_T_codec_reader_2, Nat.zero_add]
  rw [ld_one o_T_bool (hB.cell 2), un_not]
  refine and_i (r := decide (s.1 < body.length)) (fun _ k' hk' => ?_) (hk w1 hE1)
  rw [ld_one o_T_int (hB.cell 1), ld_one o_T_Luint8 (hB.cell 0), hS.len_i u_T_Luint8 (by omega) (n := body.length) (by rw [bvs_length]; omega), bin_lss]
  have : decide ((s.1 : Int) < (body.length : Int)) = decide (s.1 < body.length) := by simp
  rw [this]
  exact hk'
theorem codec_writer_int {h b o wd : Nat} {s : List Nat × Bool} {fp : List Nat} {t : TypeId} {cs : List Value} {n : Int} {k : Value → World → Prop} (H : WrS h w s fp) (B : Blk w b t cs) (hb : b ∉ fp) (hn : cs[o]? = some (.int .i64 n)) (h1 : n ≤ 9223372036854775807) (hw : 1 ≤ wd) (hw8 : wd ≤ 8)
    (hsz : s.1.length ≤ 1000000) (hk : ∀ w' fp', Ex fp w w' → WrS h w' (wstp s wd n) fp' → (∀ x ∈ fp', x ∈ fp ∨ w.heap.size ≤ x) → k (.tuple #[]) w') : wCall P n_codec_writer_int [ptr h, .int .i64 (wd : Nat), .pointer (some ⟨b, o, none⟩)] w k := by
  refine call_codec_writer_int _ _ _ ?_
  unfold F_codec_writer_int
  simp only [nil_ptr, fA_T_codec_writer_1, Nat.zero_add]
  have hbd := H.bd
  rw [ld_one o_T_int ((B.cell o).trans hn), max_i, conv_i i_T_int i_T_uint64]
  have e1 : IntKind.wrap .u64 (max n 0) = ((n.toNat : Nat) : Int) := by rw [IntWalk.u64_in _ (by omega)]; omega
  rw [e1]
  refine alloc_i z_T_uint64 (vs := [.int .u64 0]) rfl fun w1 g1 hg1 hE1 B1 => ?_
  refine st_one o_T_uint64 rfl B1 (by simp) fun w2 hE2 B2 => ?_
  have B2 : Blk w2 g1 T_uint64 [.int .u64 ((n.toNat : Nat) : Int)] := B2
  have E2 : Ex [] w w2 := hE1.new hE2 (by omega)
  have Bb := B.ex E2 (by simp)
  obtain ⟨v, hB, hO, hl, hfp⟩ := H.ex E2 (by simp)
  have hhf : h ∈ fp := by rw [hfp]; simp
  have hhb : h ≠ b := fun e => hb (by rw [hfp]; simp [e])
  rw [ld_one o_T_bool (hB.cell 1)]
  refine or_i (r := decide (n < 0)) (fun _ k' hk' => ?_) ?_
  · rw [ld_one o_T_int ((Bb.cell o).trans hn), bin_lss]
    exact hk'
  refine st_one o_T_bool rfl hB (by simp) fun w3 hE3 B3 => ?_
  have B3 : Blk w3 h T_codec_writer [v, .bool (s.2 || decide (n < 0))] := B3
  have hvh : ∀ g, v.ownBlock = some g → g ∉ [h] := fun g hg => by have := hO.off hB (by decide) g hg; simpa using this
  have H3 : WrS h w3 (s.1, s.2 || decide (n < 0)) fp := ⟨v, B3, hO.ex hE3 hvh, hl, hfp⟩
  have hg1h : g1 ≠ h := by have := hbd h hhf; omega
  have G3 := B2.ex hE3 (by simpa using hg1h)
  refine codec_writer_wide (n := ((n.toNat : Nat) : Int)) H3 G3 (fun hm => by have := hbd _ hm; omega) rfl (by omega) (by omega) hw hw8 hsz fun w4 fp' hE4 H4 hfp' => ?_
  have l2 := E2.le
  have l3 := hE3.le
  refine hk w4 fp' ((E2.nil.trans (hE3.mono fun x hx _ => by simp at hx; subst hx; exact hhf)).trans hE4) ?_ fun x hx => (hfp' x hx).imp_right (by omega)
  have e2 : wstp (s.1, s.2 || decide (n < 0)) wd ((n.toNat : Nat) : Int) = wstp s wd n := by
    unfold wstp okN
    simp only [Int.toNat_natCast]
    congr 1
    have : decide ((0 : Int) ≤ ((n.toNat : Nat) : Int)) = true := decide_eq_true (by omega)
    rw [this]
    by_cases h0 : n < 0
    · have : decide (0 ≤ n) = false := decide_eq_false (by omega)
      rw [this, decide_eq_true h0]
      simp
    · have : decide (0 ≤ n) = true := decide_eq_true (by omega)
      rw [this, decide_eq_false h0]
      simp
  rw [e2] at H4
  exact H4
theorem codec_writer_word {h b o wd : Nat} {s : List Nat × Bool} {fp : List Nat} {t : TypeId} {cs : List Value} {n : Int} {k : Value → World → Prop} (H : WrS h w s fp) (B : Blk w b t cs) (hb : b ∉ fp) (hn : cs[o]? = some (.int .u32 n)) (h0 : 0 ≤ n) (h1 : n < 4294967296) (hw : 1 ≤ wd) (hw8 : wd ≤ 8)
    (hsz : s.1.length ≤ 1000000) (hk : ∀ w' fp', Ex fp w w' → WrS h w' (wstp s wd n) fp' → (∀ x ∈ fp', x ∈ fp ∨ w.heap.size ≤ x) → k (.tuple #[]) w') : wCall P n_codec_writer_word [ptr h, .int .i64 (wd : Nat), .pointer (some ⟨b, o, none⟩)] w k := by
  refine call_codec_writer_word _ _ _ ?_
  unfold F_codec_writer_word
  have hbd := H.bd
  rw [nil_ptr, ld_one o_T_uint32 ((B.cell o).trans hn), conv_i i_T_uint32 i_T_uint64, IntWalk.u64_in _ (by omega)]
  refine alloc_i z_T_uint64 (vs := [.int .u64 0]) rfl fun w1 g1 hg1 hE1 B1 => ?_
  refine st_one o_T_uint64 rfl B1 (by simp) fun w2 hE2 B2 => ?_
  have B2 : Blk w2 g1 T_uint64 [.int .u64 n] := B2
  have E2 : Ex [] w w2 := hE1.new hE2 (by omega)
  have H2 := H.ex E2 (by simp)
  refine codec_writer_wide H2 B2 (fun hm => by have := hbd _ hm; omega) rfl (by omega) (by omega) hw hw8 hsz fun w4 fp' hE4 H4 hfp' => ?_
  have l2 := E2.le
  exact hk w4 fp' (E2.nil.trans hE4) H4 fun x hx => (hfp' x hx).imp_right (by omega)
end
/-- The writer as a form. -/
def wform (h : Nat) : Form (.iface T_pcodec_writer (ptr h)) where
  σ := List Nat × Bool
  S := WrS h
  stp := wstp
  val := wval
  more := fun _ => false
  sz := fun s => s.1.length
  sz_stp := fun s wd n => by
    unfold wstp
    simp only [List.length_append]
    split <;> simp [low_length]
  ex := fun H hx hT => H.ex hx hT
  bd := fun H => H.bd
  ask := fun m hm w K hk => by
    simp only [List.mem_cons, List.not_mem_nil, or_false] at hm
    rcases hm with rfl | rfl | rfl
    · rw [nil_meth (ahead_writer_wide _)]; exact hk
    · rw [nil_meth (ahead_writer_int _)]; exact hk
    · rw [nil_meth (ahead_writer_word _)]; exact hk
  wide := fun H B hb hn h0 h1 hw hw8 hsz hk => by
    rw [inv_eq (meth_writer_wide _)]
    refine codec_writer_wide H B hb hn h0 h1 hw hw8 hsz fun w' fp' hE H' hfp => hk w' fp' (hE.mono (by simp +contextual)) H' hfp ?_
    show Blk w' _ _ (List.set _ _ (.int .u64 _))
    rw [wval, set_same hn]
    exact B.ex hE hb
  int := fun H B hb hn h0 h1 hw hw8 hsz hk => by
    rw [inv_eq (meth_writer_int _)]
    refine codec_writer_int H B hb hn h1 hw (by omega) hsz fun w' fp' hE H' hfp => hk w' fp' (hE.mono (by simp +contextual)) H' hfp ?_
    show Blk w' _ _ (List.set _ _ (.int .i64 _))
    rw [wval, set_same hn]
    exact B.ex hE hb
  word := fun H B hb hn h0 h1 hw hw8 hsz hk => by
    rw [inv_eq (meth_writer_word _)]
    refine codec_writer_word H B hb hn h0 h1 hw (by omega) hsz fun w' fp' hE H' hfp => hk w' fp' (hE.mono (by simp +contextual)) H' hfp ?_
    show Blk w' _ _ (List.set _ _ (.int .u32 _))
    rw [wval, set_same hn]
    exact B.ex hE hb
  moreC := fun H hk => by
    rw [inv_eq (meth_writer_more _)]
    refine call_codec_writer_more _ ?_
    unfold F_codec_writer_more
    exact hk _ (Ex.refl _ _)
/-- The reader as a form. -/
def rform (h : Nat) (body : List Nat) : Form (.iface T_pcodec_reader (ptr h)) where
  σ := Nat × Bool
  S := RdS h body
  stp := rstp body
  val := rval body
  more := fun s => !s.2 && decide (s.1 < body.length)
  sz := fun s => s.1
  sz_stp := fun s wd n => rfl
  ex := fun H hx hT => H.ex hx hT
  bd := fun H => H.bd
  ask := fun m hm w K hk => by
    simp only [List.mem_cons, List.not_mem_nil, or_false] at hm
    rcases hm with rfl | rfl | rfl
    · rw [nil_meth (ahead_reader_wide _)]; exact hk
    · rw [nil_meth (ahead_reader_int _)]; exact hk
    · rw [nil_meth (ahead_reader_word _)]; exact hk
  wide := fun H B hb hn h0 h1 hw hw8 hsz hk => by
    rw [inv_eq (meth_reader_wide _)]
    exact codec_reader_wide H B hb hn hw hw8 hsz fun w' hE H' B' => hk w' _ hE H' (fun x hx => .inl hx) B'
  int := fun H B hb hn h0 h1 hw hw8 hsz hk => by
    rw [inv_eq (meth_reader_int _)]
    exact codec_reader_int H B hb hn hw hw8 hsz fun w' hE H' B' => hk w' _ hE H' (fun x hx => .inl hx) B'
  word := fun H B hb hn h0 h1 hw hw8 hsz hk => by
    rw [inv_eq (meth_reader_word _)]
    exact codec_reader_word H B hb hn hw hw8 hsz fun w' hE H' B' => hk w' _ hE H' (fun x hx => .inl hx) B'
  moreC := fun H hk => by
    rw [inv_eq (meth_reader_more _)]
    exact codec_reader_more H hk
end Go.Dn
end
