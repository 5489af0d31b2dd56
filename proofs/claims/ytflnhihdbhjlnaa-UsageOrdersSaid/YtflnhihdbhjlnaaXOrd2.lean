import Derived.Test.YtflnhihdbhjlnaaXOrd1
import Ieee.Arith
import GoSem.Core.Float
import Derived.Laws.Cover3
section
/-! Facts on types, printed by mkg.py. -/
set_option maxRecDepth 100000
set_option linter.unusedVariables false
namespace Go.Dn
open Go Go.Proofs
theorem o_T___ : oneT P T___ = true := by kernel_rfl
theorem o_T_int64 : oneT P T_int64 = true := by kernel_rfl
theorem z_T_int64 : zeroT P T_int64 = some (.int .i64 0) := by kernel_rfl
theorem i_T_int64 : P.underlying T_int64 = some (.int .i64) := by kernel_rfl
theorem o_T_int : oneT P T_int = true := by kernel_rfl
theorem z_T_int : zeroT P T_int = some (.int .i64 0) := by kernel_rfl
theorem i_T_int : P.underlying T_int = some (.int .i64) := by kernel_rfl
theorem o_T_bool : oneT P T_bool = true := by kernel_rfl
theorem z_T_bool : zeroT P T_bool = some (.bool false) := by kernel_rfl
theorem b_T_bool : P.underlying T_bool = some .bool := by kernel_rfl
theorem o_T_uint8 : oneT P T_uint8 = true := by kernel_rfl
theorem z_T_uint8 : zeroT P T_uint8 = some (.int .u8 0) := by kernel_rfl
theorem i_T_uint8 : P.underlying T_uint8 = some (.int .u8) := by kernel_rfl
theorem o_T_string : oneT P T_string = true := by kernel_rfl
theorem z_T_string : zeroT P T_string = some (.string ByteArray.empty) := by kernel_rfl
theorem o_T_Llaw03_Act : oneT P T_Llaw03_Act = true := by kernel_rfl
theorem z_T_Llaw03_Act : zeroT P T_Llaw03_Act = some (.slice none 0 0) := by kernel_rfl
theorem u_T_Llaw03_Act : P.underlying T_Llaw03_Act = some (.slice T_law03_Act) := by kernel_rfl
theorem s_T_Llaw03_Act : slT P T_Llaw03_Act = some 4 := by kernel_rfl
theorem app_T_Llaw03_Act {w : World} {K : Value → World → Prop} {base : Nat} {v x : Value} {xs ys : List Value} {n m : Nat} (ho : Own w base T_law03_Act 4 v xs) (hy : SlG w 4 x ys) (hn : xs.length = n * 4) (hm : ys.length = m * 4) (hc : ∀ u ∈ ys, isC u = true)
    (hb : (n + m) * 64 ≤ 140737488355328) (hba : base ≤ w.heap.size) (hk : ∀ v' w', Own w' base T_law03_Act 4 v' (xs ++ ys) → Ex v.ownBlock.toList w w' → (v'.ownBlock = v.ownBlock ∨ v'.ownBlock = some w.heap.size) → K v' w') : wBuiltin P .append #[T_Llaw03_Act, T_Llaw03_Act] [v, x] w K := by
  have h : (P.info? T_law03_Act).map (fun i => (i.zero, i.size, i.bytes)) = some (some (.agg ⟨[.int .i64 0, .int .i64 0, .slice none 0 0, .slice none 0 0]⟩), 4, 64) := by kernel_rfl
  cases hi : P.info? T_law03_Act with
  | none => rw [hi] at h; cases h
  | some i =>
    rw [hi] at h
    simp only [Option.map_some, Option.some.injEq, Prod.mk.injEq] at h
    exact app_i u_T_Llaw03_Act hi h.1 h.2.1 h.2.2 (by kernel_rfl) (by omega) ho hy hn hm hc hb (by omega) hba hk
theorem o_T_pdisk_Disk : oneT P T_pdisk_Disk = true := by kernel_rfl
theorem z_T_pdisk_Disk : zeroT P T_pdisk_Disk = some (.pointer none) := by kernel_rfl
theorem o_T_LA128uint8 : oneT P T_LA128uint8 = true := by kernel_rfl
theorem z_T_LA128uint8 : zeroT P T_LA128uint8 = some (.slice none 0 0) := by kernel_rfl
theorem u_T_LA128uint8 : P.underlying T_LA128uint8 = some (.slice T_A128uint8) := by kernel_rfl
theorem s_T_LA128uint8 : slT P T_LA128uint8 = some 128 := by kernel_rfl
theorem app_T_LA128uint8 {w : World} {K : Value → World → Prop} {base : Nat} {v x : Value} {xs ys : List Value} {n m : Nat} (ho : Own w base T_A128uint8 128 v xs) (hy : SlG w 128 x ys) (hn : xs.length = n * 128) (hm : ys.length = m * 128) (hc : ∀ u ∈ ys, isC u = true)
    (hb : (n + m) * 128 ≤ 140737488355328) (hba : base ≤ w.heap.size) (hk : ∀ v' w', Own w' base T_A128uint8 128 v' (xs ++ ys) → Ex v.ownBlock.toList w w' → (v'.ownBlock = v.ownBlock ∨ v'.ownBlock = some w.heap.size) → K v' w') : wBuiltin P .append #[T_LA128uint8, T_LA128uint8] [v, x] w K := by
  have h : (P.info? T_A128uint8).map (fun i => (i.zero, i.size, i.bytes)) = some (some (.agg ⟨List.replicate 128 (.int .u8 0)⟩), 128, 128) := by kernel_rfl
  cases hi : P.info? T_A128uint8 with
  | none => rw [hi] at h; cases h
  | some i =>
    rw [hi] at h
    simp only [Option.map_some, Option.some.injEq, Prod.mk.injEq] at h
    exact app_i u_T_LA128uint8 hi h.1 h.2.1 h.2.2 (by kernel_rfl) (by omega) ho hy hn hm hc hb (by omega) hba hk
theorem o_T_Lref03_Write : oneT P T_Lref03_Write = true := by kernel_rfl
theorem z_T_Lref03_Write : zeroT P T_Lref03_Write = some (.slice none 0 0) := by kernel_rfl
theorem u_T_Lref03_Write : P.underlying T_Lref03_Write = some (.slice T_ref03_Write) := by kernel_rfl
theorem s_T_Lref03_Write : slT P T_Lref03_Write = some 129 := by kernel_rfl
theorem app_T_Lref03_Write {w : World} {K : Value → World → Prop} {base : Nat} {v x : Value} {xs ys : List Value} {n m : Nat} (ho : Own w base T_ref03_Write 129 v xs) (hy : SlG w 129 x ys) (hn : xs.length = n * 129) (hm : ys.length = m * 129) (hc : ∀ u ∈ ys, isC u = true)
    (hb : (n + m) * 136 ≤ 140737488355328) (hba : base ≤ w.heap.size) (hk : ∀ v' w', Own w' base T_ref03_Write 129 v' (xs ++ ys) → Ex v.ownBlock.toList w w' → (v'.ownBlock = v.ownBlock ∨ v'.ownBlock = some w.heap.size) → K v' w') : wBuiltin P .append #[T_Lref03_Write, T_Lref03_Write] [v, x] w K := by
  have h : (P.info? T_ref03_Write).map (fun i => (i.zero, i.size, i.bytes)) = some (some (.agg ⟨[.int .i64 0] ++ List.replicate 128 (.int .u8 0)⟩), 129, 136) := by kernel_rfl
  cases hi : P.info? T_ref03_Write with
  | none => rw [hi] at h; cases h
  | some i =>
    rw [hi] at h
    simp only [Option.map_some, Option.some.injEq, Prod.mk.injEq] at h
    exact app_i u_T_Lref03_Write hi h.1 h.2.1 h.2.2 (by kernel_rfl) (by omega) ho hy hn hm hc hb (by omega) hba hk
theorem e_T_ref03_Disk : P.eqGuardType P.depth T_ref03_Disk = false := by kernel_rfl
theorem g_T_ref03_Disk : aggT P T_ref03_Disk 5 = true := by kernel_rfl
theorem z_T_ref03_Disk : zeroT P T_ref03_Disk = some (.agg ⟨[.slice none 0 0, .slice none 0 0, .bool false, .int .i64 0, .int .i64 0]⟩) := by kernel_rfl
theorem o_T_Luint8 : oneT P T_Luint8 = true := by kernel_rfl
theorem z_T_Luint8 : zeroT P T_Luint8 = some (.slice none 0 0) := by kernel_rfl
theorem u_T_Luint8 : P.underlying T_Luint8 = some (.slice T_uint8) := by kernel_rfl
theorem s_T_Luint8 : slT P T_Luint8 = some 1 := by kernel_rfl
theorem app_T_Luint8 {w : World} {K : Value → World → Prop} {base : Nat} {v x : Value} {xs ys : List Value} {n m : Nat} (ho : Own w base T_uint8 1 v xs) (hy : SlG w 1 x ys) (hn : xs.length = n * 1) (hm : ys.length = m * 1) (hc : ∀ u ∈ ys, isC u = true)
    (hb : (n + m) * 1 ≤ 140737488355328) (hba : base ≤ w.heap.size) (hk : ∀ v' w', Own w' base T_uint8 1 v' (xs ++ ys) → Ex v.ownBlock.toList w w' → (v'.ownBlock = v.ownBlock ∨ v'.ownBlock = some w.heap.size) → K v' w') : wBuiltin P .append #[T_Luint8, T_Luint8] [v, x] w K := by
  have h : (P.info? T_uint8).map (fun i => (i.zero, i.size, i.bytes)) = some (some (.int .u8 0), 1, 1) := by kernel_rfl
  cases hi : P.info? T_uint8 with
  | none => rw [hi] at h; cases h
  | some i =>
    rw [hi] at h
    simp only [Option.map_some, Option.some.injEq, Prod.mk.injEq] at h
    exact app_i u_T_Luint8 hi h.1 h.2.1 h.2.2 (by kernel_rfl) (by omega) ho hy hn hm hc hb (by omega) hba hk
theorem o_T_Lbool : oneT P T_Lbool = true := by kernel_rfl
theorem z_T_Lbool : zeroT P T_Lbool = some (.slice none 0 0) := by kernel_rfl
theorem u_T_Lbool : P.underlying T_Lbool = some (.slice T_bool) := by kernel_rfl
theorem s_T_Lbool : slT P T_Lbool = some 1 := by kernel_rfl
theorem app_T_Lbool {w : World} {K : Value → World → Prop} {base : Nat} {v x : Value} {xs ys : List Value} {n m : Nat} (ho : Own w base T_bool 1 v xs) (hy : SlG w 1 x ys) (hn : xs.length = n * 1) (hm : ys.length = m * 1) (hc : ∀ u ∈ ys, isC u = true)
    (hb : (n + m) * 1 ≤ 140737488355328) (hba : base ≤ w.heap.size) (hk : ∀ v' w', Own w' base T_bool 1 v' (xs ++ ys) → Ex v.ownBlock.toList w w' → (v'.ownBlock = v.ownBlock ∨ v'.ownBlock = some w.heap.size) → K v' w') : wBuiltin P .append #[T_Lbool, T_Lbool] [v, x] w K := by
  have h : (P.info? T_bool).map (fun i => (i.zero, i.size, i.bytes)) = some (some (.bool false), 1, 1) := by kernel_rfl
  cases hi : P.info? T_bool with
  | none => rw [hi] at h; cases h
  | some i =>
    rw [hi] at h
    simp only [Option.map_some, Option.some.injEq, Prod.mk.injEq] at h
    exact app_i u_T_Lbool hi h.1 h.2.1 h.2.2 (by kernel_rfl) (by omega) ho hy hn hm hc hb (by omega) hba hk
theorem e_T_law03_Act : P.eqGuardType P.depth T_law03_Act = false := by kernel_rfl
theorem g_T_law03_Act : aggT P T_law03_Act 4 = true := by kernel_rfl
theorem z_T_law03_Act : zeroT P T_law03_Act = some (.agg ⟨[.int .i64 0, .int .i64 0, .slice none 0 0, .slice none 0 0]⟩) := by kernel_rfl
theorem e_T_A128uint8 : P.eqGuardType P.depth T_A128uint8 = false := by kernel_rfl
theorem g_T_A128uint8 : aggT P T_A128uint8 128 = true := by kernel_rfl
theorem z_T_A128uint8 : zeroT P T_A128uint8 = some (.agg ⟨List.replicate 128 (.int .u8 0)⟩) := by kernel_rfl
theorem v_T_A128uint8 : P.underlying T_A128uint8 = some (.array 128 T_uint8) := by kernel_rfl
theorem a_T_A128uint8 : arT P T_A128uint8 = some (128, 1) := by kernel_rfl
theorem e_T_ref03_Write : P.eqGuardType P.depth T_ref03_Write = false := by kernel_rfl
theorem g_T_ref03_Write : aggT P T_ref03_Write 129 = true := by kernel_rfl
theorem z_T_ref03_Write : zeroT P T_ref03_Write = some (.agg ⟨[.int .i64 0] ++ List.replicate 128 (.int .u8 0)⟩) := by kernel_rfl
theorem o_T_Lref05_Use : oneT P T_Lref05_Use = true := by kernel_rfl
theorem z_T_Lref05_Use : zeroT P T_Lref05_Use = some (.slice none 0 0) := by kernel_rfl
theorem u_T_Lref05_Use : P.underlying T_Lref05_Use = some (.slice T_ref05_Use) := by kernel_rfl
theorem s_T_Lref05_Use : slT P T_Lref05_Use = some 3 := by kernel_rfl
theorem app_T_Lref05_Use {w : World} {K : Value → World → Prop} {base : Nat} {v x : Value} {xs ys : List Value} {n m : Nat} (ho : Own w base T_ref05_Use 3 v xs) (hy : SlG w 3 x ys) (hn : xs.length = n * 3) (hm : ys.length = m * 3) (hc : ∀ u ∈ ys, isC u = true)
    (hb : (n + m) * 24 ≤ 140737488355328) (hba : base ≤ w.heap.size) (hk : ∀ v' w', Own w' base T_ref05_Use 3 v' (xs ++ ys) → Ex v.ownBlock.toList w w' → (v'.ownBlock = v.ownBlock ∨ v'.ownBlock = some w.heap.size) → K v' w') : wBuiltin P .append #[T_Lref05_Use, T_Lref05_Use] [v, x] w K := by
  have h : (P.info? T_ref05_Use).map (fun i => (i.zero, i.size, i.bytes)) = some (some (.agg ⟨[.int .i64 0, .int .i64 0, .int .u32 0]⟩), 3, 24) := by kernel_rfl
  cases hi : P.info? T_ref05_Use with
  | none => rw [hi] at h; cases h
  | some i =>
    rw [hi] at h
    simp only [Option.map_some, Option.some.injEq, Prod.mk.injEq] at h
    exact app_i u_T_Lref05_Use hi h.1 h.2.1 h.2.2 (by kernel_rfl) (by omega) ho hy hn hm hc hb (by omega) hba hk
theorem o_T_Lcodec_Use : oneT P T_Lcodec_Use = true := by kernel_rfl
theorem z_T_Lcodec_Use : zeroT P T_Lcodec_Use = some (.slice none 0 0) := by kernel_rfl
theorem u_T_Lcodec_Use : P.underlying T_Lcodec_Use = some (.slice T_codec_Use) := by kernel_rfl
theorem s_T_Lcodec_Use : slT P T_Lcodec_Use = some 3 := by kernel_rfl
theorem app_T_Lcodec_Use {w : World} {K : Value → World → Prop} {base : Nat} {v x : Value} {xs ys : List Value} {n m : Nat} (ho : Own w base T_codec_Use 3 v xs) (hy : SlG w 3 x ys) (hn : xs.length = n * 3) (hm : ys.length = m * 3) (hc : ∀ u ∈ ys, isC u = true)
    (hb : (n + m) * 24 ≤ 140737488355328) (hba : base ≤ w.heap.size) (hk : ∀ v' w', Own w' base T_codec_Use 3 v' (xs ++ ys) → Ex v.ownBlock.toList w w' → (v'.ownBlock = v.ownBlock ∨ v'.ownBlock = some w.heap.size) → K v' w') : wBuiltin P .append #[T_Lcodec_Use, T_Lcodec_Use] [v, x] w K := by
  have h : (P.info? T_codec_Use).map (fun i => (i.zero, i.size, i.bytes)) = some (some (.agg ⟨[.int .i64 0, .int .i64 0, .int .u32 0]⟩), 3, 24) := by kernel_rfl
  cases hi : P.info? T_codec_Use with
  | none => rw [hi] at h; cases h
  | some i =>
    rw [hi] at h
    simp only [Option.map_some, Option.some.injEq, Prod.mk.injEq] at h
    exact app_i u_T_Lcodec_Use hi h.1 h.2.1 h.2.2 (by kernel_rfl) (by omega) ho hy hn hm hc hb (by omega) hba hk
theorem o_T_uint32 : oneT P T_uint32 = true := by kernel_rfl
theorem z_T_uint32 : zeroT P T_uint32 = some (.int .u32 0) := by kernel_rfl
theorem i_T_uint32 : P.underlying T_uint32 = some (.int .u32) := by kernel_rfl
theorem e_T_ref05_Use : P.eqGuardType P.depth T_ref05_Use = false := by kernel_rfl
theorem g_T_ref05_Use : aggT P T_ref05_Use 3 = true := by kernel_rfl
theorem z_T_ref05_Use : zeroT P T_ref05_Use = some (.agg ⟨[.int .i64 0, .int .i64 0, .int .u32 0]⟩) := by kernel_rfl
theorem e_T_codec_Use : P.eqGuardType P.depth T_codec_Use = false := by kernel_rfl
theorem g_T_codec_Use : aggT P T_codec_Use 3 = true := by kernel_rfl
theorem z_T_codec_Use : zeroT P T_codec_Use = some (.agg ⟨[.int .i64 0, .int .i64 0, .int .u32 0]⟩) := by kernel_rfl
theorem o_T_Lfloat64 : oneT P T_Lfloat64 = true := by kernel_rfl
theorem z_T_Lfloat64 : zeroT P T_Lfloat64 = some (.slice none 0 0) := by kernel_rfl
theorem u_T_Lfloat64 : P.underlying T_Lfloat64 = some (.slice T_float64) := by kernel_rfl
theorem s_T_Lfloat64 : slT P T_Lfloat64 = some 1 := by kernel_rfl
theorem app_T_Lfloat64 {w : World} {K : Value → World → Prop} {base : Nat} {v x : Value} {xs ys : List Value} {n m : Nat} (ho : Own w base T_float64 1 v xs) (hy : SlG w 1 x ys) (hn : xs.length = n * 1) (hm : ys.length = m * 1) (hc : ∀ u ∈ ys, isC u = true)
    (hb : (n + m) * 8 ≤ 140737488355328) (hba : base ≤ w.heap.size) (hk : ∀ v' w', Own w' base T_float64 1 v' (xs ++ ys) → Ex v.ownBlock.toList w w' → (v'.ownBlock = v.ownBlock ∨ v'.ownBlock = some w.heap.size) → K v' w') : wBuiltin P .append #[T_Lfloat64, T_Lfloat64] [v, x] w K := by
  have h : (P.info? T_float64).map (fun i => (i.zero, i.size, i.bytes)) = some (some (.float .f64 0), 1, 8) := by kernel_rfl
  cases hi : P.info? T_float64 with
  | none => rw [hi] at h; cases h
  | some i =>
    rw [hi] at h
    simp only [Option.map_some, Option.some.injEq, Prod.mk.injEq] at h
    exact app_i u_T_Lfloat64 hi h.1 h.2.1 h.2.2 (by kernel_rfl) (by omega) ho hy hn hm hc hb (by omega) hba hk
theorem o_T_float64 : oneT P T_float64 = true := by kernel_rfl
theorem z_T_float64 : zeroT P T_float64 = some (.float .f64 0) := by kernel_rfl
theorem o_T_Llaw10_Act : oneT P T_Llaw10_Act = true := by kernel_rfl
theorem z_T_Llaw10_Act : zeroT P T_Llaw10_Act = some (.slice none 0 0) := by kernel_rfl
theorem u_T_Llaw10_Act : P.underlying T_Llaw10_Act = some (.slice T_law10_Act) := by kernel_rfl
theorem s_T_Llaw10_Act : slT P T_Llaw10_Act = some 7 := by kernel_rfl
theorem app_T_Llaw10_Act {w : World} {K : Value → World → Prop} {base : Nat} {v x : Value} {xs ys : List Value} {n m : Nat} (ho : Own w base T_law10_Act 7 v xs) (hy : SlG w 7 x ys) (hn : xs.length = n * 7) (hm : ys.length = m * 7) (hc : ∀ u ∈ ys, isC u = true)
    (hb : (n + m) * 56 ≤ 140737488355328) (hba : base ≤ w.heap.size) (hk : ∀ v' w', Own w' base T_law10_Act 7 v' (xs ++ ys) → Ex v.ownBlock.toList w w' → (v'.ownBlock = v.ownBlock ∨ v'.ownBlock = some w.heap.size) → K v' w') : wBuiltin P .append #[T_Llaw10_Act, T_Llaw10_Act] [v, x] w K := by
  have h : (P.info? T_law10_Act).map (fun i => (i.zero, i.size, i.bytes)) = some (some (.agg ⟨[.int .i64 0, .int .i64 0, .int .i64 0, .int .i64 0, .int .u32 0, .int .i64 0, .int .i64 0]⟩), 7, 56) := by kernel_rfl
  cases hi : P.info? T_law10_Act with
  | none => rw [hi] at h; cases h
  | some i =>
    rw [hi] at h
    simp only [Option.map_some, Option.some.injEq, Prod.mk.injEq] at h
    exact app_i u_T_Llaw10_Act hi h.1 h.2.1 h.2.2 (by kernel_rfl) (by omega) ho hy hn hm hc hb (by omega) hba hk
theorem o_T_Lint : oneT P T_Lint = true := by kernel_rfl
theorem z_T_Lint : zeroT P T_Lint = some (.slice none 0 0) := by kernel_rfl
theorem u_T_Lint : P.underlying T_Lint = some (.slice T_int) := by kernel_rfl
theorem s_T_Lint : slT P T_Lint = some 1 := by kernel_rfl
theorem app_T_Lint {w : World} {K : Value → World → Prop} {base : Nat} {v x : Value} {xs ys : List Value} {n m : Nat} (ho : Own w base T_int 1 v xs) (hy : SlG w 1 x ys) (hn : xs.length = n * 1) (hm : ys.length = m * 1) (hc : ∀ u ∈ ys, isC u = true)
    (hb : (n + m) * 8 ≤ 140737488355328) (hba : base ≤ w.heap.size) (hk : ∀ v' w', Own w' base T_int 1 v' (xs ++ ys) → Ex v.ownBlock.toList w w' → (v'.ownBlock = v.ownBlock ∨ v'.ownBlock = some w.heap.size) → K v' w') : wBuiltin P .append #[T_Lint, T_Lint] [v, x] w K := by
  have h : (P.info? T_int).map (fun i => (i.zero, i.size, i.bytes)) = some (some (.int .i64 0), 1, 8) := by kernel_rfl
  cases hi : P.info? T_int with
  | none => rw [hi] at h; cases h
  | some i =>
    rw [hi] at h
    simp only [Option.map_some, Option.some.injEq, Prod.mk.injEq] at h
    exact app_i u_T_Lint hi h.1 h.2.1 h.2.2 (by kernel_rfl) (by omega) ho hy hn hm hc hb (by omega) hba hk
theorem o_T_pimap_Map : oneT P T_pimap_Map = true := by kernel_rfl
theorem z_T_pimap_Map : zeroT P T_pimap_Map = some (.pointer none) := by kernel_rfl
theorem o_T_pusage_Table : oneT P T_pusage_Table = true := by kernel_rfl
theorem z_T_pusage_Table : zeroT P T_pusage_Table = some (.pointer none) := by kernel_rfl
theorem o_T_mapAintint : oneT P T_mapAintint = true := by kernel_rfl
theorem z_T_mapAintint : zeroT P T_mapAintint = some (.map none) := by kernel_rfl
theorem e_T_ref05_Slot : P.eqGuardType P.depth T_ref05_Slot = false := by kernel_rfl
theorem g_T_ref05_Slot : aggT P T_ref05_Slot 4 = true := by kernel_rfl
theorem z_T_ref05_Slot : zeroT P T_ref05_Slot = some (.agg ⟨[.int .i64 0, .int .u32 0, .int .i64 0, .int .i64 0]⟩) := by kernel_rfl
theorem e_T_law10_Act : P.eqGuardType P.depth T_law10_Act = false := by kernel_rfl
theorem g_T_law10_Act : aggT P T_law10_Act 7 = true := by kernel_rfl
theorem z_T_law10_Act : zeroT P T_law10_Act = some (.agg ⟨[.int .i64 0, .int .i64 0, .int .i64 0, .int .i64 0, .int .u32 0, .int .i64 0, .int .i64 0]⟩) := by kernel_rfl
theorem o_T_api_Errno : oneT P T_api_Errno = true := by kernel_rfl
theorem z_T_api_Errno : zeroT P T_api_Errno = some (.int .i64 0) := by kernel_rfl
theorem i_T_api_Errno : P.underlying T_api_Errno = some (.int .i64) := by kernel_rfl
theorem e_T_codec_Slot : P.eqGuardType P.depth T_codec_Slot = false := by kernel_rfl
theorem g_T_codec_Slot : aggT P T_codec_Slot 4 = true := by kernel_rfl
theorem z_T_codec_Slot : zeroT P T_codec_Slot = some (.agg ⟨[.int .i64 0, .int .u32 0, .int .i64 0, .int .i64 0]⟩) := by kernel_rfl
theorem o_T_Lapi_Sector : oneT P T_Lapi_Sector = true := by kernel_rfl
theorem z_T_Lapi_Sector : zeroT P T_Lapi_Sector = some (.slice none 0 0) := by kernel_rfl
theorem u_T_Lapi_Sector : P.underlying T_Lapi_Sector = some (.slice T_api_Sector) := by kernel_rfl
theorem s_T_Lapi_Sector : slT P T_Lapi_Sector = some 128 := by kernel_rfl
theorem app_T_Lapi_Sector {w : World} {K : Value → World → Prop} {base : Nat} {v x : Value} {xs ys : List Value} {n m : Nat} (ho : Own w base T_api_Sector 128 v xs) (hy : SlG w 128 x ys) (hn : xs.length = n * 128) (hm : ys.length = m * 128) (hc : ∀ u ∈ ys, isC u = true)
    (hb : (n + m) * 128 ≤ 140737488355328) (hba : base ≤ w.heap.size) (hk : ∀ v' w', Own w' base T_api_Sector 128 v' (xs ++ ys) → Ex v.ownBlock.toList w w' → (v'.ownBlock = v.ownBlock ∨ v'.ownBlock = some w.heap.size) → K v' w') : wBuiltin P .append #[T_Lapi_Sector, T_Lapi_Sector] [v, x] w K := by
  have h : (P.info? T_api_Sector).map (fun i => (i.zero, i.size, i.bytes)) = some (some (.agg ⟨List.replicate 128 (.int .u8 0)⟩), 128, 128) := by kernel_rfl
  cases hi : P.info? T_api_Sector with
  | none => rw [hi] at h; cases h
  | some i =>
    rw [hi] at h
    simp only [Option.map_some, Option.some.injEq, Prod.mk.injEq] at h
    exact app_i u_T_Lapi_Sector hi h.1 h.2.1 h.2.2 (by kernel_rfl) (by omega) ho hy hn hm hc hb (by omega) hba hk
theorem e_T_api_Sector : P.eqGuardType P.depth T_api_Sector = false := by kernel_rfl
theorem g_T_api_Sector : aggT P T_api_Sector 128 = true := by kernel_rfl
theorem z_T_api_Sector : zeroT P T_api_Sector = some (.agg ⟨List.replicate 128 (.int .u8 0)⟩) := by kernel_rfl
theorem v_T_api_Sector : P.underlying T_api_Sector = some (.array 128 T_uint8) := by kernel_rfl
theorem a_T_api_Sector : arT P T_api_Sector = some (128, 1) := by kernel_rfl
theorem e_T_A8int : P.eqGuardType P.depth T_A8int = false := by kernel_rfl
theorem g_T_A8int : aggT P T_A8int 8 = true := by kernel_rfl
theorem z_T_A8int : zeroT P T_A8int = some (.agg ⟨List.replicate 8 (.int .i64 0)⟩) := by kernel_rfl
theorem v_T_A8int : P.underlying T_A8int = some (.array 8 T_int) := by kernel_rfl
theorem a_T_A8int : arT P T_A8int = some (8, 1) := by kernel_rfl
theorem e_T_ref05_Inode : P.eqGuardType P.depth T_ref05_Inode = false := by kernel_rfl
theorem g_T_ref05_Inode : aggT P T_ref05_Inode 15 = true := by kernel_rfl
theorem z_T_ref05_Inode : zeroT P T_ref05_Inode = some (.agg ⟨[.int .u32 0, .int .u32 0, .int .i64 0, .int .i64 0, .int .u32 0] ++ List.replicate 10 (.int .i64 0)⟩) := by kernel_rfl
theorem e_T_codec_Inode : P.eqGuardType P.depth T_codec_Inode = false := by kernel_rfl
theorem g_T_codec_Inode : aggT P T_codec_Inode 15 = true := by kernel_rfl
theorem z_T_codec_Inode : zeroT P T_codec_Inode = some (.agg ⟨[.int .u32 0, .int .u32 0, .int .i64 0, .int .i64 0, .int .u32 0] ++ List.replicate 10 (.int .i64 0)⟩) := by kernel_rfl
theorem o_T_uint64 : oneT P T_uint64 = true := by kernel_rfl
theorem z_T_uint64 : zeroT P T_uint64 = some (.int .u64 0) := by kernel_rfl
theorem i_T_uint64 : P.underlying T_uint64 = some (.int .u64) := by kernel_rfl
theorem e_T_ref05_Header : P.eqGuardType P.depth T_ref05_Header = false := by kernel_rfl
theorem g_T_ref05_Header : aggT P T_ref05_Header 6 = true := by kernel_rfl
theorem z_T_ref05_Header : zeroT P T_ref05_Header = some (.agg ⟨[.int .u64 0, .int .u64 0, .int .i64 0, .int .i64 0, .int .i64 0, .int .u32 0]⟩) := by kernel_rfl
theorem e_T_codec_Header : P.eqGuardType P.depth T_codec_Header = false := by kernel_rfl
theorem g_T_codec_Header : aggT P T_codec_Header 6 = true := by kernel_rfl
theorem z_T_codec_Header : zeroT P T_codec_Header = some (.agg ⟨[.int .u64 0, .int .u64 0, .int .i64 0, .int .i64 0, .int .i64 0, .int .u32 0]⟩) := by kernel_rfl
theorem e_T_A32int : P.eqGuardType P.depth T_A32int = false := by kernel_rfl
theorem g_T_A32int : aggT P T_A32int 32 = true := by kernel_rfl
theorem z_T_A32int : zeroT P T_A32int = some (.agg ⟨List.replicate 32 (.int .i64 0)⟩) := by kernel_rfl
theorem v_T_A32int : P.underlying T_A32int = some (.array 32 T_int) := by kernel_rfl
theorem a_T_A32int : arT P T_A32int = some (32, 1) := by kernel_rfl
theorem o_T_Lref05_Slot : oneT P T_Lref05_Slot = true := by kernel_rfl
theorem z_T_Lref05_Slot : zeroT P T_Lref05_Slot = some (.slice none 0 0) := by kernel_rfl
theorem u_T_Lref05_Slot : P.underlying T_Lref05_Slot = some (.slice T_ref05_Slot) := by kernel_rfl
theorem s_T_Lref05_Slot : slT P T_Lref05_Slot = some 4 := by kernel_rfl
theorem app_T_Lref05_Slot {w : World} {K : Value → World → Prop} {base : Nat} {v x : Value} {xs ys : List Value} {n m : Nat} (ho : Own w base T_ref05_Slot 4 v xs) (hy : SlG w 4 x ys) (hn : xs.length = n * 4) (hm : ys.length = m * 4) (hc : ∀ u ∈ ys, isC u = true)
    (hb : (n + m) * 32 ≤ 140737488355328) (hba : base ≤ w.heap.size) (hk : ∀ v' w', Own w' base T_ref05_Slot 4 v' (xs ++ ys) → Ex v.ownBlock.toList w w' → (v'.ownBlock = v.ownBlock ∨ v'.ownBlock = some w.heap.size) → K v' w') : wBuiltin P .append #[T_Lref05_Slot, T_Lref05_Slot] [v, x] w K := by
  have h : (P.info? T_ref05_Slot).map (fun i => (i.zero, i.size, i.bytes)) = some (some (.agg ⟨[.int .i64 0, .int .u32 0, .int .i64 0, .int .i64 0]⟩), 4, 32) := by kernel_rfl
  cases hi : P.info? T_ref05_Slot with
  | none => rw [hi] at h; cases h
  | some i =>
    rw [hi] at h
    simp only [Option.map_some, Option.some.injEq, Prod.mk.injEq] at h
    exact app_i u_T_Lref05_Slot hi h.1 h.2.1 h.2.2 (by kernel_rfl) (by omega) ho hy hn hm hc hb (by omega) hba hk
theorem o_T_Lcodec_Slot : oneT P T_Lcodec_Slot = true := by kernel_rfl
theorem z_T_Lcodec_Slot : zeroT P T_Lcodec_Slot = some (.slice none 0 0) := by kernel_rfl
theorem u_T_Lcodec_Slot : P.underlying T_Lcodec_Slot = some (.slice T_codec_Slot) := by kernel_rfl
theorem s_T_Lcodec_Slot : slT P T_Lcodec_Slot = some 4 := by kernel_rfl
theorem app_T_Lcodec_Slot {w : World} {K : Value → World → Prop} {base : Nat} {v x : Value} {xs ys : List Value} {n m : Nat} (ho : Own w base T_codec_Slot 4 v xs) (hy : SlG w 4 x ys) (hn : xs.length = n * 4) (hm : ys.length = m * 4) (hc : ∀ u ∈ ys, isC u = true)
    (hb : (n + m) * 32 ≤ 140737488355328) (hba : base ≤ w.heap.size) (hk : ∀ v' w', Own w' base T_codec_Slot 4 v' (xs ++ ys) → Ex v.ownBlock.toList w w' → (v'.ownBlock = v.ownBlock ∨ v'.ownBlock = some w.heap.size) → K v' w') : wBuiltin P .append #[T_Lcodec_Slot, T_Lcodec_Slot] [v, x] w K := by
  have h : (P.info? T_codec_Slot).map (fun i => (i.zero, i.size, i.bytes)) = some (some (.agg ⟨[.int .i64 0, .int .u32 0, .int .i64 0, .int .i64 0]⟩), 4, 32) := by kernel_rfl
  cases hi : P.info? T_codec_Slot with
  | none => rw [hi] at h; cases h
  | some i =>
    rw [hi] at h
    simp only [Option.map_some, Option.some.injEq, Prod.mk.injEq] at h
    exact app_i u_T_Lcodec_Slot hi h.1 h.2.1 h.2.2 (by kernel_rfl) (by omega) ho hy hn hm hc hb (by omega) hba hk
theorem o_T_Lref05_Record : oneT P T_Lref05_Record = true := by kernel_rfl
theorem z_T_Lref05_Record : zeroT P T_Lref05_Record = some (.slice none 0 0) := by kernel_rfl
theorem u_T_Lref05_Record : P.underlying T_Lref05_Record = some (.slice T_ref05_Record) := by kernel_rfl
theorem s_T_Lref05_Record : slT P T_Lref05_Record = some 4 := by kernel_rfl
theorem app_T_Lref05_Record {w : World} {K : Value → World → Prop} {base : Nat} {v x : Value} {xs ys : List Value} {n m : Nat} (ho : Own w base T_ref05_Record 4 v xs) (hy : SlG w 4 x ys) (hn : xs.length = n * 4) (hm : ys.length = m * 4) (hc : ∀ u ∈ ys, isC u = true)
    (hb : (n + m) * 24 ≤ 140737488355328) (hba : base ≤ w.heap.size) (hk : ∀ v' w', Own w' base T_ref05_Record 4 v' (xs ++ ys) → Ex v.ownBlock.toList w w' → (v'.ownBlock = v.ownBlock ∨ v'.ownBlock = some w.heap.size) → K v' w') : wBuiltin P .append #[T_Lref05_Record, T_Lref05_Record] [v, x] w K := by
  have h : (P.info? T_ref05_Record).map (fun i => (i.zero, i.size, i.bytes)) = some (some (.agg ⟨[.int .u32 0, .int .u32 0, .int .i64 0, .int .i64 0]⟩), 4, 24) := by kernel_rfl
  cases hi : P.info? T_ref05_Record with
  | none => rw [hi] at h; cases h
  | some i =>
    rw [hi] at h
    simp only [Option.map_some, Option.some.injEq, Prod.mk.injEq] at h
    exact app_i u_T_Lref05_Record hi h.1 h.2.1 h.2.2 (by kernel_rfl) (by omega) ho hy hn hm hc hb (by omega) hba hk
theorem o_T_Lcodec_Record : oneT P T_Lcodec_Record = true := by kernel_rfl
theorem z_T_Lcodec_Record : zeroT P T_Lcodec_Record = some (.slice none 0 0) := by kernel_rfl
theorem u_T_Lcodec_Record : P.underlying T_Lcodec_Record = some (.slice T_codec_Record) := by kernel_rfl
theorem s_T_Lcodec_Record : slT P T_Lcodec_Record = some 4 := by kernel_rfl
theorem app_T_Lcodec_Record {w : World} {K : Value → World → Prop} {base : Nat} {v x : Value} {xs ys : List Value} {n m : Nat} (ho : Own w base T_codec_Record 4 v xs) (hy : SlG w 4 x ys) (hn : xs.length = n * 4) (hm : ys.length = m * 4) (hc : ∀ u ∈ ys, isC u = true)
    (hb : (n + m) * 24 ≤ 140737488355328) (hba : base ≤ w.heap.size) (hk : ∀ v' w', Own w' base T_codec_Record 4 v' (xs ++ ys) → Ex v.ownBlock.toList w w' → (v'.ownBlock = v.ownBlock ∨ v'.ownBlock = some w.heap.size) → K v' w') : wBuiltin P .append #[T_Lcodec_Record, T_Lcodec_Record] [v, x] w K := by
  have h : (P.info? T_codec_Record).map (fun i => (i.zero, i.size, i.bytes)) = some (some (.agg ⟨[.int .u32 0, .int .u32 0, .int .i64 0, .int .i64 0]⟩), 4, 24) := by kernel_rfl
  cases hi : P.info? T_codec_Record with
  | none => rw [hi] at h; cases h
  | some i =>
    rw [hi] at h
    simp only [Option.map_some, Option.some.injEq, Prod.mk.injEq] at h
    exact app_i u_T_Lcodec_Record hi h.1 h.2.1 h.2.2 (by kernel_rfl) (by omega) ho hy hn hm hc hb (by omega) hba hk
theorem e_T_ref05_Record : P.eqGuardType P.depth T_ref05_Record = false := by kernel_rfl
theorem g_T_ref05_Record : aggT P T_ref05_Record 4 = true := by kernel_rfl
theorem z_T_ref05_Record : zeroT P T_ref05_Record = some (.agg ⟨[.int .u32 0, .int .u32 0, .int .i64 0, .int .i64 0]⟩) := by kernel_rfl
theorem e_T_codec_Record : P.eqGuardType P.depth T_codec_Record = false := by kernel_rfl
theorem g_T_codec_Record : aggT P T_codec_Record 4 = true := by kernel_rfl
theorem z_T_codec_Record : zeroT P T_codec_Record = some (.agg ⟨[.int .u32 0, .int .u32 0, .int .i64 0, .int .i64 0]⟩) := by kernel_rfl
theorem o_T_Lref05_Entry : oneT P T_Lref05_Entry = true := by kernel_rfl
theorem z_T_Lref05_Entry : zeroT P T_Lref05_Entry = some (.slice none 0 0) := by kernel_rfl
theorem u_T_Lref05_Entry : P.underlying T_Lref05_Entry = some (.slice T_ref05_Entry) := by kernel_rfl
theorem s_T_Lref05_Entry : slT P T_Lref05_Entry = some 4 := by kernel_rfl
theorem app_T_Lref05_Entry {w : World} {K : Value → World → Prop} {base : Nat} {v x : Value} {xs ys : List Value} {n m : Nat} (ho : Own w base T_ref05_Entry 4 v xs) (hy : SlG w 4 x ys) (hn : xs.length = n * 4) (hm : ys.length = m * 4) (hc : ∀ u ∈ ys, isC u = true)
    (hb : (n + m) * 24 ≤ 140737488355328) (hba : base ≤ w.heap.size) (hk : ∀ v' w', Own w' base T_ref05_Entry 4 v' (xs ++ ys) → Ex v.ownBlock.toList w w' → (v'.ownBlock = v.ownBlock ∨ v'.ownBlock = some w.heap.size) → K v' w') : wBuiltin P .append #[T_Lref05_Entry, T_Lref05_Entry] [v, x] w K := by
  have h : (P.info? T_ref05_Entry).map (fun i => (i.zero, i.size, i.bytes)) = some (some (.agg ⟨[.int .i64 0, .int .u32 0, .int .u32 0, .int .i64 0]⟩), 4, 24) := by kernel_rfl
  cases hi : P.info? T_ref05_Entry with
  | none => rw [hi] at h; cases h
  | some i =>
    rw [hi] at h
    simp only [Option.map_some, Option.some.injEq, Prod.mk.injEq] at h
    exact app_i u_T_Lref05_Entry hi h.1 h.2.1 h.2.2 (by kernel_rfl) (by omega) ho hy hn hm hc hb (by omega) hba hk
theorem e_T_ref05_Summary : P.eqGuardType P.depth T_ref05_Summary = false := by kernel_rfl
theorem g_T_ref05_Summary : aggT P T_ref05_Summary 6 = true := by kernel_rfl
theorem z_T_ref05_Summary : zeroT P T_ref05_Summary = some (.agg ⟨[.int .u64 0, .int .u64 0, .bool false, .int .i64 0, .int .u32 0, .slice none 0 0]⟩) := by kernel_rfl
theorem o_T_Lcodec_Entry : oneT P T_Lcodec_Entry = true := by kernel_rfl
theorem z_T_Lcodec_Entry : zeroT P T_Lcodec_Entry = some (.slice none 0 0) := by kernel_rfl
theorem u_T_Lcodec_Entry : P.underlying T_Lcodec_Entry = some (.slice T_codec_Entry) := by kernel_rfl
theorem s_T_Lcodec_Entry : slT P T_Lcodec_Entry = some 4 := by kernel_rfl
theorem app_T_Lcodec_Entry {w : World} {K : Value → World → Prop} {base : Nat} {v x : Value} {xs ys : List Value} {n m : Nat} (ho : Own w base T_codec_Entry 4 v xs) (hy : SlG w 4 x ys) (hn : xs.length = n * 4) (hm : ys.length = m * 4) (hc : ∀ u ∈ ys, isC u = true)
    (hb : (n + m) * 24 ≤ 140737488355328) (hba : base ≤ w.heap.size) (hk : ∀ v' w', Own w' base T_codec_Entry 4 v' (xs ++ ys) → Ex v.ownBlock.toList w w' → (v'.ownBlock = v.ownBlock ∨ v'.ownBlock = some w.heap.size) → K v' w') : wBuiltin P .append #[T_Lcodec_Entry, T_Lcodec_Entry] [v, x] w K := by
  have h : (P.info? T_codec_Entry).map (fun i => (i.zero, i.size, i.bytes)) = some (some (.agg ⟨[.int .i64 0, .int .u32 0, .int .u32 0, .int .i64 0]⟩), 4, 24) := by kernel_rfl
  cases hi : P.info? T_codec_Entry with
  | none => rw [hi] at h; cases h
  | some i =>
    rw [hi] at h
    simp only [Option.map_some, Option.some.injEq, Prod.mk.injEq] at h
    exact app_i u_T_Lcodec_Entry hi h.1 h.2.1 h.2.2 (by kernel_rfl) (by omega) ho hy hn hm hc hb (by omega) hba hk
theorem e_T_codec_Summary : P.eqGuardType P.depth T_codec_Summary = false := by kernel_rfl
theorem g_T_codec_Summary : aggT P T_codec_Summary 6 = true := by kernel_rfl
theorem z_T_codec_Summary : zeroT P T_codec_Summary = some (.agg ⟨[.int .u64 0, .int .u64 0, .bool false, .int .i64 0, .int .u32 0, .slice none 0 0]⟩) := by kernel_rfl
theorem e_T_ref09_Table : P.eqGuardType P.depth T_ref09_Table = false := by kernel_rfl
theorem g_T_ref09_Table : aggT P T_ref09_Table 2 = true := by kernel_rfl
theorem z_T_ref09_Table : zeroT P T_ref09_Table = some (.agg ⟨[.int .i64 0, .slice none 0 0]⟩) := by kernel_rfl
theorem o_T_Llaw09_Act : oneT P T_Llaw09_Act = true := by kernel_rfl
theorem z_T_Llaw09_Act : zeroT P T_Llaw09_Act = some (.slice none 0 0) := by kernel_rfl
theorem u_T_Llaw09_Act : P.underlying T_Llaw09_Act = some (.slice T_law09_Act) := by kernel_rfl
theorem s_T_Llaw09_Act : slT P T_Llaw09_Act = some 4 := by kernel_rfl
theorem app_T_Llaw09_Act {w : World} {K : Value → World → Prop} {base : Nat} {v x : Value} {xs ys : List Value} {n m : Nat} (ho : Own w base T_law09_Act 4 v xs) (hy : SlG w 4 x ys) (hn : xs.length = n * 4) (hm : ys.length = m * 4) (hc : ∀ u ∈ ys, isC u = true)
    (hb : (n + m) * 32 ≤ 140737488355328) (hba : base ≤ w.heap.size) (hk : ∀ v' w', Own w' base T_law09_Act 4 v' (xs ++ ys) → Ex v.ownBlock.toList w w' → (v'.ownBlock = v.ownBlock ∨ v'.ownBlock = some w.heap.size) → K v' w') : wBuiltin P .append #[T_Llaw09_Act, T_Llaw09_Act] [v, x] w K := by
  have h : (P.info? T_law09_Act).map (fun i => (i.zero, i.size, i.bytes)) = some (some (.agg ⟨[.int .i64 0, .int .i64 0, .int .i64 0, .int .u32 0]⟩), 4, 32) := by kernel_rfl
  cases hi : P.info? T_law09_Act with
  | none => rw [hi] at h; cases h
  | some i =>
    rw [hi] at h
    simp only [Option.map_some, Option.some.injEq, Prod.mk.injEq] at h
    exact app_i u_T_Llaw09_Act hi h.1 h.2.1 h.2.2 (by kernel_rfl) (by omega) ho hy hn hm hc hb (by omega) hba hk
theorem e_T_law09_Act : P.eqGuardType P.depth T_law09_Act = false := by kernel_rfl
theorem g_T_law09_Act : aggT P T_law09_Act 4 = true := by kernel_rfl
theorem z_T_law09_Act : zeroT P T_law09_Act = some (.agg ⟨[.int .i64 0, .int .i64 0, .int .i64 0, .int .u32 0]⟩) := by kernel_rfl
theorem o_T_Luint64 : oneT P T_Luint64 = true := by kernel_rfl
theorem z_T_Luint64 : zeroT P T_Luint64 = some (.slice none 0 0) := by kernel_rfl
theorem u_T_Luint64 : P.underlying T_Luint64 = some (.slice T_uint64) := by kernel_rfl
theorem s_T_Luint64 : slT P T_Luint64 = some 1 := by kernel_rfl
theorem app_T_Luint64 {w : World} {K : Value → World → Prop} {base : Nat} {v x : Value} {xs ys : List Value} {n m : Nat} (ho : Own w base T_uint64 1 v xs) (hy : SlG w 1 x ys) (hn : xs.length = n * 1) (hm : ys.length = m * 1) (hc : ∀ u ∈ ys, isC u = true)
    (hb : (n + m) * 8 ≤ 140737488355328) (hba : base ≤ w.heap.size) (hk : ∀ v' w', Own w' base T_uint64 1 v' (xs ++ ys) → Ex v.ownBlock.toList w w' → (v'.ownBlock = v.ownBlock ∨ v'.ownBlock = some w.heap.size) → K v' w') : wBuiltin P .append #[T_Luint64, T_Luint64] [v, x] w K := by
  have h : (P.info? T_uint64).map (fun i => (i.zero, i.size, i.bytes)) = some (some (.int .u64 0), 1, 8) := by kernel_rfl
  cases hi : P.info? T_uint64 with
  | none => rw [hi] at h; cases h
  | some i =>
    rw [hi] at h
    simp only [Option.map_some, Option.some.injEq, Prod.mk.injEq] at h
    exact app_i u_T_Luint64 hi h.1 h.2.1 h.2.2 (by kernel_rfl) (by omega) ho hy hn hm hc hb (by omega) hba hk
theorem e_T_ref04_Geom : P.eqGuardType P.depth T_ref04_Geom = false := by kernel_rfl
theorem g_T_ref04_Geom : aggT P T_ref04_Geom 3 = true := by kernel_rfl
theorem z_T_ref04_Geom : zeroT P T_ref04_Geom = some (.agg ⟨[.int .i64 0, .int .i64 0, .int .i64 0]⟩) := by kernel_rfl
theorem e_T_ref11_Place : P.eqGuardType P.depth T_ref11_Place = false := by kernel_rfl
theorem g_T_ref11_Place : aggT P T_ref11_Place 4 = true := by kernel_rfl
theorem z_T_ref11_Place : zeroT P T_ref11_Place = some (.agg ⟨[.int .i64 0, .int .i64 0, .int .i64 0, .int .u64 0]⟩) := by kernel_rfl
theorem e_T_slog_Place : P.eqGuardType P.depth T_slog_Place = false := by kernel_rfl
theorem g_T_slog_Place : aggT P T_slog_Place 4 = true := by kernel_rfl
theorem z_T_slog_Place : zeroT P T_slog_Place = some (.agg ⟨[.int .i64 0, .int .i64 0, .int .i64 0, .int .u64 0]⟩) := by kernel_rfl
theorem e_T_slog_Layout : P.eqGuardType P.depth T_slog_Layout = false := by kernel_rfl
theorem g_T_slog_Layout : aggT P T_slog_Layout 6 = true := by kernel_rfl
theorem z_T_slog_Layout : zeroT P T_slog_Layout = some (.agg ⟨[.slice none 0 0, .int .i64 0, .int .i64 0, .int .i64 0, .int .u64 0, .int .i64 0]⟩) := by kernel_rfl
theorem e_T_geom_Geom : P.eqGuardType P.depth T_geom_Geom = false := by kernel_rfl
theorem g_T_geom_Geom : aggT P T_geom_Geom 3 = true := by kernel_rfl
theorem z_T_geom_Geom : zeroT P T_geom_Geom = some (.agg ⟨[.int .i64 0, .int .i64 0, .int .i64 0]⟩) := by kernel_rfl
theorem o_T_Lref11_Place : oneT P T_Lref11_Place = true := by kernel_rfl
theorem z_T_Lref11_Place : zeroT P T_Lref11_Place = some (.slice none 0 0) := by kernel_rfl
theorem u_T_Lref11_Place : P.underlying T_Lref11_Place = some (.slice T_ref11_Place) := by kernel_rfl
theorem s_T_Lref11_Place : slT P T_Lref11_Place = some 4 := by kernel_rfl
theorem app_T_Lref11_Place {w : World} {K : Value → World → Prop} {base : Nat} {v x : Value} {xs ys : List Value} {n m : Nat} (ho : Own w base T_ref11_Place 4 v xs) (hy : SlG w 4 x ys) (hn : xs.length = n * 4) (hm : ys.length = m * 4) (hc : ∀ u ∈ ys, isC u = true)
    (hb : (n + m) * 32 ≤ 140737488355328) (hba : base ≤ w.heap.size) (hk : ∀ v' w', Own w' base T_ref11_Place 4 v' (xs ++ ys) → Ex v.ownBlock.toList w w' → (v'.ownBlock = v.ownBlock ∨ v'.ownBlock = some w.heap.size) → K v' w') : wBuiltin P .append #[T_Lref11_Place, T_Lref11_Place] [v, x] w K := by
  have h : (P.info? T_ref11_Place).map (fun i => (i.zero, i.size, i.bytes)) = some (some (.agg ⟨[.int .i64 0, .int .i64 0, .int .i64 0, .int .u64 0]⟩), 4, 32) := by kernel_rfl
  cases hi : P.info? T_ref11_Place with
  | none => rw [hi] at h; cases h
  | some i =>
    rw [hi] at h
    simp only [Option.map_some, Option.some.injEq, Prod.mk.injEq] at h
    exact app_i u_T_Lref11_Place hi h.1 h.2.1 h.2.2 (by kernel_rfl) (by omega) ho hy hn hm hc hb (by omega) hba hk
theorem o_T_Llaw11_Step : oneT P T_Llaw11_Step = true := by kernel_rfl
theorem z_T_Llaw11_Step : zeroT P T_Llaw11_Step = some (.slice none 0 0) := by kernel_rfl
theorem u_T_Llaw11_Step : P.underlying T_Llaw11_Step = some (.slice T_law11_Step) := by kernel_rfl
theorem s_T_Llaw11_Step : slT P T_Llaw11_Step = some 5 := by kernel_rfl
theorem app_T_Llaw11_Step {w : World} {K : Value → World → Prop} {base : Nat} {v x : Value} {xs ys : List Value} {n m : Nat} (ho : Own w base T_law11_Step 5 v xs) (hy : SlG w 5 x ys) (hn : xs.length = n * 5) (hm : ys.length = m * 5) (hc : ∀ u ∈ ys, isC u = true)
    (hb : (n + m) * 64 ≤ 140737488355328) (hba : base ≤ w.heap.size) (hk : ∀ v' w', Own w' base T_law11_Step 5 v' (xs ++ ys) → Ex v.ownBlock.toList w w' → (v'.ownBlock = v.ownBlock ∨ v'.ownBlock = some w.heap.size) → K v' w') : wBuiltin P .append #[T_Llaw11_Step, T_Llaw11_Step] [v, x] w K := by
  have h : (P.info? T_law11_Step).map (fun i => (i.zero, i.size, i.bytes)) = some (some (.agg ⟨[.slice none 0 0, .int .u32 0, .bool false, .int .i64 0, .slice none 0 0]⟩), 5, 64) := by kernel_rfl
  cases hi : P.info? T_law11_Step with
  | none => rw [hi] at h; cases h
  | some i =>
    rw [hi] at h
    simp only [Option.map_some, Option.some.injEq, Prod.mk.injEq] at h
    exact app_i u_T_Llaw11_Step hi h.1 h.2.1 h.2.2 (by kernel_rfl) (by omega) ho hy hn hm hc hb (by omega) hba hk
theorem o_T_Lref11_Item : oneT P T_Lref11_Item = true := by kernel_rfl
theorem z_T_Lref11_Item : zeroT P T_Lref11_Item = some (.slice none 0 0) := by kernel_rfl
theorem u_T_Lref11_Item : P.underlying T_Lref11_Item = some (.slice T_ref11_Item) := by kernel_rfl
theorem s_T_Lref11_Item : slT P T_Lref11_Item = some 132 := by kernel_rfl
theorem app_T_Lref11_Item {w : World} {K : Value → World → Prop} {base : Nat} {v x : Value} {xs ys : List Value} {n m : Nat} (ho : Own w base T_ref11_Item 132 v xs) (hy : SlG w 132 x ys) (hn : xs.length = n * 132) (hm : ys.length = m * 132) (hc : ∀ u ∈ ys, isC u = true)
    (hb : (n + m) * 152 ≤ 140737488355328) (hba : base ≤ w.heap.size) (hk : ∀ v' w', Own w' base T_ref11_Item 132 v' (xs ++ ys) → Ex v.ownBlock.toList w w' → (v'.ownBlock = v.ownBlock ∨ v'.ownBlock = some w.heap.size) → K v' w') : wBuiltin P .append #[T_Lref11_Item, T_Lref11_Item] [v, x] w K := by
  have h : (P.info? T_ref11_Item).map (fun i => (i.zero, i.size, i.bytes)) = some (some (.agg ⟨[.int .i64 0, .int .u32 0, .int .u32 0, .int .i64 0] ++ List.replicate 128 (.int .u8 0)⟩), 132, 152) := by kernel_rfl
  cases hi : P.info? T_ref11_Item with
  | none => rw [hi] at h; cases h
  | some i =>
    rw [hi] at h
    simp only [Option.map_some, Option.some.injEq, Prod.mk.injEq] at h
    exact app_i u_T_Lref11_Item hi h.1 h.2.1 h.2.2 (by kernel_rfl) (by omega) ho hy hn hm hc hb (by omega) hba hk
theorem e_T_ref05_Entry : P.eqGuardType P.depth T_ref05_Entry = false := by kernel_rfl
theorem g_T_ref05_Entry : aggT P T_ref05_Entry 4 = true := by kernel_rfl
theorem z_T_ref05_Entry : zeroT P T_ref05_Entry = some (.agg ⟨[.int .i64 0, .int .u32 0, .int .u32 0, .int .i64 0]⟩) := by kernel_rfl
theorem e_T_ref11_Item : P.eqGuardType P.depth T_ref11_Item = false := by kernel_rfl
theorem g_T_ref11_Item : aggT P T_ref11_Item 132 = true := by kernel_rfl
theorem z_T_ref11_Item : zeroT P T_ref11_Item = some (.agg ⟨[.int .i64 0, .int .u32 0, .int .u32 0, .int .i64 0] ++ List.replicate 128 (.int .u8 0)⟩) := by kernel_rfl
theorem o_T_Lslog_Item : oneT P T_Lslog_Item = true := by kernel_rfl
theorem z_T_Lslog_Item : zeroT P T_Lslog_Item = some (.slice none 0 0) := by kernel_rfl
theorem u_T_Lslog_Item : P.underlying T_Lslog_Item = some (.slice T_slog_Item) := by kernel_rfl
theorem s_T_Lslog_Item : slT P T_Lslog_Item = some 132 := by kernel_rfl
theorem app_T_Lslog_Item {w : World} {K : Value → World → Prop} {base : Nat} {v x : Value} {xs ys : List Value} {n m : Nat} (ho : Own w base T_slog_Item 132 v xs) (hy : SlG w 132 x ys) (hn : xs.length = n * 132) (hm : ys.length = m * 132) (hc : ∀ u ∈ ys, isC u = true)
    (hb : (n + m) * 152 ≤ 140737488355328) (hba : base ≤ w.heap.size) (hk : ∀ v' w', Own w' base T_slog_Item 132 v' (xs ++ ys) → Ex v.ownBlock.toList w w' → (v'.ownBlock = v.ownBlock ∨ v'.ownBlock = some w.heap.size) → K v' w') : wBuiltin P .append #[T_Lslog_Item, T_Lslog_Item] [v, x] w K := by
  have h : (P.info? T_slog_Item).map (fun i => (i.zero, i.size, i.bytes)) = some (some (.agg ⟨[.int .i64 0, .int .u32 0, .int .u32 0, .int .i64 0] ++ List.replicate 128 (.int .u8 0)⟩), 132, 152) := by kernel_rfl
  cases hi : P.info? T_slog_Item with
  | none => rw [hi] at h; cases h
  | some i =>
    rw [hi] at h
    simp only [Option.map_some, Option.some.injEq, Prod.mk.injEq] at h
    exact app_i u_T_Lslog_Item hi h.1 h.2.1 h.2.2 (by kernel_rfl) (by omega) ho hy hn hm hc hb (by omega) hba hk
theorem o_T_Lslog_Batch : oneT P T_Lslog_Batch = true := by kernel_rfl
theorem z_T_Lslog_Batch : zeroT P T_Lslog_Batch = some (.slice none 0 0) := by kernel_rfl
theorem u_T_Lslog_Batch : P.underlying T_Lslog_Batch = some (.slice T_slog_Batch) := by kernel_rfl
theorem s_T_Lslog_Batch : slT P T_Lslog_Batch = some 4 := by kernel_rfl
theorem app_T_Lslog_Batch {w : World} {K : Value → World → Prop} {base : Nat} {v x : Value} {xs ys : List Value} {n m : Nat} (ho : Own w base T_slog_Batch 4 v xs) (hy : SlG w 4 x ys) (hn : xs.length = n * 4) (hm : ys.length = m * 4) (hc : ∀ u ∈ ys, isC u = true)
    (hb : (n + m) * 64 ≤ 140737488355328) (hba : base ≤ w.heap.size) (hk : ∀ v' w', Own w' base T_slog_Batch 4 v' (xs ++ ys) → Ex v.ownBlock.toList w w' → (v'.ownBlock = v.ownBlock ∨ v'.ownBlock = some w.heap.size) → K v' w') : wBuiltin P .append #[T_Lslog_Batch, T_Lslog_Batch] [v, x] w K := by
  have h : (P.info? T_slog_Batch).map (fun i => (i.zero, i.size, i.bytes)) = some (some (.agg ⟨[.int .u64 0, .int .u32 0, .slice none 0 0, .slice none 0 0]⟩), 4, 64) := by kernel_rfl
  cases hi : P.info? T_slog_Batch with
  | none => rw [hi] at h; cases h
  | some i =>
    rw [hi] at h
    simp only [Option.map_some, Option.some.injEq, Prod.mk.injEq] at h
    exact app_i u_T_Lslog_Batch hi h.1 h.2.1 h.2.2 (by kernel_rfl) (by omega) ho hy hn hm hc hb (by omega) hba hk
theorem o_T_Lslog_Found : oneT P T_Lslog_Found = true := by kernel_rfl
theorem z_T_Lslog_Found : zeroT P T_Lslog_Found = some (.slice none 0 0) := by kernel_rfl
theorem u_T_Lslog_Found : P.underlying T_Lslog_Found = some (.slice T_slog_Found) := by kernel_rfl
theorem s_T_Lslog_Found : slT P T_Lslog_Found = some 5 := by kernel_rfl
theorem app_T_Lslog_Found {w : World} {K : Value → World → Prop} {base : Nat} {v x : Value} {xs ys : List Value} {n m : Nat} (ho : Own w base T_slog_Found 5 v xs) (hy : SlG w 5 x ys) (hn : xs.length = n * 5) (hm : ys.length = m * 5) (hc : ∀ u ∈ ys, isC u = true)
    (hb : (n + m) * 32 ≤ 140737488355328) (hba : base ≤ w.heap.size) (hk : ∀ v' w', Own w' base T_slog_Found 5 v' (xs ++ ys) → Ex v.ownBlock.toList w w' → (v'.ownBlock = v.ownBlock ∨ v'.ownBlock = some w.heap.size) → K v' w') : wBuiltin P .append #[T_Lslog_Found, T_Lslog_Found] [v, x] w K := by
  have h : (P.info? T_slog_Found).map (fun i => (i.zero, i.size, i.bytes)) = some (some (.agg ⟨[.int .i64 0, .int .u32 0, .int .u32 0, .int .i64 0, .int .i64 0]⟩), 5, 32) := by kernel_rfl
  cases hi : P.info? T_slog_Found with
  | none => rw [hi] at h; cases h
  | some i =>
    rw [hi] at h
    simp only [Option.map_some, Option.some.injEq, Prod.mk.injEq] at h
    exact app_i u_T_Lslog_Found hi h.1 h.2.1 h.2.2 (by kernel_rfl) (by omega) ho hy hn hm hc hb (by omega) hba hk
theorem e_T_slog_Batch : P.eqGuardType P.depth T_slog_Batch = false := by kernel_rfl
theorem g_T_slog_Batch : aggT P T_slog_Batch 4 = true := by kernel_rfl
theorem z_T_slog_Batch : zeroT P T_slog_Batch = some (.agg ⟨[.int .u64 0, .int .u32 0, .slice none 0 0, .slice none 0 0]⟩) := by kernel_rfl
theorem o_T_LLref11_Item : oneT P T_LLref11_Item = true := by kernel_rfl
theorem z_T_LLref11_Item : zeroT P T_LLref11_Item = some (.slice none 0 0) := by kernel_rfl
theorem u_T_LLref11_Item : P.underlying T_LLref11_Item = some (.slice T_Lref11_Item) := by kernel_rfl
theorem s_T_LLref11_Item : slT P T_LLref11_Item = some 1 := by kernel_rfl
theorem app_T_LLref11_Item {w : World} {K : Value → World → Prop} {base : Nat} {v x : Value} {xs ys : List Value} {n m : Nat} (ho : Own w base T_Lref11_Item 1 v xs) (hy : SlG w 1 x ys) (hn : xs.length = n * 1) (hm : ys.length = m * 1) (hc : ∀ u ∈ ys, isC u = true)
    (hb : (n + m) * 24 ≤ 140737488355328) (hba : base ≤ w.heap.size) (hk : ∀ v' w', Own w' base T_Lref11_Item 1 v' (xs ++ ys) → Ex v.ownBlock.toList w w' → (v'.ownBlock = v.ownBlock ∨ v'.ownBlock = some w.heap.size) → K v' w') : wBuiltin P .append #[T_LLref11_Item, T_LLref11_Item] [v, x] w K := by
  have h : (P.info? T_Lref11_Item).map (fun i => (i.zero, i.size, i.bytes)) = some (some (.slice none 0 0), 1, 24) := by kernel_rfl
  cases hi : P.info? T_Lref11_Item with
  | none => rw [hi] at h; cases h
  | some i =>
    rw [hi] at h
    simp only [Option.map_some, Option.some.injEq, Prod.mk.injEq] at h
    exact app_i u_T_LLref11_Item hi h.1 h.2.1 h.2.2 (by kernel_rfl) (by omega) ho hy hn hm hc hb (by omega) hba hk
theorem e_T_law11_Step : P.eqGuardType P.depth T_law11_Step = false := by kernel_rfl
theorem g_T_law11_Step : aggT P T_law11_Step 5 = true := by kernel_rfl
theorem z_T_law11_Step : zeroT P T_law11_Step = some (.agg ⟨[.slice none 0 0, .int .u32 0, .bool false, .int .i64 0, .slice none 0 0]⟩) := by kernel_rfl
theorem e_T_codec_Entry : P.eqGuardType P.depth T_codec_Entry = false := by kernel_rfl
theorem g_T_codec_Entry : aggT P T_codec_Entry 4 = true := by kernel_rfl
theorem z_T_codec_Entry : zeroT P T_codec_Entry = some (.agg ⟨[.int .i64 0, .int .u32 0, .int .u32 0, .int .i64 0]⟩) := by kernel_rfl
theorem e_T_slog_Found : P.eqGuardType P.depth T_slog_Found = false := by kernel_rfl
theorem g_T_slog_Found : aggT P T_slog_Found 5 = true := by kernel_rfl
theorem z_T_slog_Found : zeroT P T_slog_Found = some (.agg ⟨[.int .i64 0, .int .u32 0, .int .u32 0, .int .i64 0, .int .i64 0]⟩) := by kernel_rfl
theorem e_T_disk_state : P.eqGuardType P.depth T_disk_state = false := by kernel_rfl
theorem g_T_disk_state : aggT P T_disk_state 2 = true := by kernel_rfl
theorem z_T_disk_state : zeroT P T_disk_state = some (.agg ⟨[.bool false, .int .i64 0]⟩) := by kernel_rfl
theorem o_T_Ldisk_write : oneT P T_Ldisk_write = true := by kernel_rfl
theorem z_T_Ldisk_write : zeroT P T_Ldisk_write = some (.slice none 0 0) := by kernel_rfl
theorem u_T_Ldisk_write : P.underlying T_Ldisk_write = some (.slice T_disk_write) := by kernel_rfl
theorem s_T_Ldisk_write : slT P T_Ldisk_write = some 129 := by kernel_rfl
theorem app_T_Ldisk_write {w : World} {K : Value → World → Prop} {base : Nat} {v x : Value} {xs ys : List Value} {n m : Nat} (ho : Own w base T_disk_write 129 v xs) (hy : SlG w 129 x ys) (hn : xs.length = n * 129) (hm : ys.length = m * 129) (hc : ∀ u ∈ ys, isC u = true)
    (hb : (n + m) * 136 ≤ 140737488355328) (hba : base ≤ w.heap.size) (hk : ∀ v' w', Own w' base T_disk_write 129 v' (xs ++ ys) → Ex v.ownBlock.toList w w' → (v'.ownBlock = v.ownBlock ∨ v'.ownBlock = some w.heap.size) → K v' w') : wBuiltin P .append #[T_Ldisk_write, T_Ldisk_write] [v, x] w K := by
  have h : (P.info? T_disk_write).map (fun i => (i.zero, i.size, i.bytes)) = some (some (.agg ⟨[.int .i64 0] ++ List.replicate 128 (.int .u8 0)⟩), 129, 136) := by kernel_rfl
  cases hi : P.info? T_disk_write with
  | none => rw [hi] at h; cases h
  | some i =>
    rw [hi] at h
    simp only [Option.map_some, Option.some.injEq, Prod.mk.injEq] at h
    exact app_i u_T_Ldisk_write hi h.1 h.2.1 h.2.2 (by kernel_rfl) (by omega) ho hy hn hm hc hb (by omega) hba hk
theorem e_T_disk_Disk : P.eqGuardType P.depth T_disk_Disk = false := by kernel_rfl
theorem g_T_disk_Disk : aggT P T_disk_Disk 5 = true := by kernel_rfl
theorem z_T_disk_Disk : zeroT P T_disk_Disk = some (.agg ⟨[.bool false, .int .i64 0, .slice none 0 0, .slice none 0 0, .int .i64 0]⟩) := by kernel_rfl
theorem e_T_disk_write : P.eqGuardType P.depth T_disk_write = false := by kernel_rfl
theorem g_T_disk_write : aggT P T_disk_write 129 = true := by kernel_rfl
theorem z_T_disk_write : zeroT P T_disk_write = some (.agg ⟨[.int .i64 0] ++ List.replicate 128 (.int .u8 0)⟩) := by kernel_rfl
theorem o_T_func_codec_Use__bool : oneT P T_func_codec_Use__bool = true := by kernel_rfl
theorem z_T_func_codec_Use__bool : zeroT P T_func_codec_Use__bool = some (.nilFunc) := by kernel_rfl
theorem e_T_imap_Map : P.eqGuardType P.depth T_imap_Map = false := by kernel_rfl
theorem g_T_imap_Map : aggT P T_imap_Map 1 = true := by kernel_rfl
theorem z_T_imap_Map : zeroT P T_imap_Map = some (.agg ⟨[.slice none 0 0]⟩) := by kernel_rfl
theorem e_T_usage_Table : P.eqGuardType P.depth T_usage_Table = false := by kernel_rfl
theorem g_T_usage_Table : aggT P T_usage_Table 2 = true := by kernel_rfl
theorem z_T_usage_Table : zeroT P T_usage_Table = some (.agg ⟨[.int .i64 0, .slice none 0 0]⟩) := by kernel_rfl
theorem o_T_func_codec_Slot__bool : oneT P T_func_codec_Slot__bool = true := by kernel_rfl
theorem z_T_func_codec_Slot__bool : zeroT P T_func_codec_Slot__bool = some (.nilFunc) := by kernel_rfl
theorem o_T_func_int___uint64__uint64_ : oneT P T_func_int___uint64__uint64_ = true := by kernel_rfl
theorem z_T_func_int___uint64__uint64_ : zeroT P T_func_int___uint64__uint64_ = some (.nilFunc) := by kernel_rfl
theorem o_T_Lref05_Field : oneT P T_Lref05_Field = true := by kernel_rfl
theorem z_T_Lref05_Field : zeroT P T_Lref05_Field = some (.slice none 0 0) := by kernel_rfl
theorem u_T_Lref05_Field : P.underlying T_Lref05_Field = some (.slice T_ref05_Field) := by kernel_rfl
theorem s_T_Lref05_Field : slT P T_Lref05_Field = some 2 := by kernel_rfl
theorem app_T_Lref05_Field {w : World} {K : Value → World → Prop} {base : Nat} {v x : Value} {xs ys : List Value} {n m : Nat} (ho : Own w base T_ref05_Field 2 v xs) (hy : SlG w 2 x ys) (hn : xs.length = n * 2) (hm : ys.length = m * 2) (hc : ∀ u ∈ ys, isC u = true)
    (hb : (n + m) * 16 ≤ 140737488355328) (hba : base ≤ w.heap.size) (hk : ∀ v' w', Own w' base T_ref05_Field 2 v' (xs ++ ys) → Ex v.ownBlock.toList w w' → (v'.ownBlock = v.ownBlock ∨ v'.ownBlock = some w.heap.size) → K v' w') : wBuiltin P .append #[T_Lref05_Field, T_Lref05_Field] [v, x] w K := by
  have h : (P.info? T_ref05_Field).map (fun i => (i.zero, i.size, i.bytes)) = some (some (.agg ⟨[.int .i64 0, .int .i64 0]⟩), 2, 16) := by kernel_rfl
  cases hi : P.info? T_ref05_Field with
  | none => rw [hi] at h; cases h
  | some i =>
    rw [hi] at h
    simp only [Option.map_some, Option.some.injEq, Prod.mk.injEq] at h
    exact app_i u_T_Lref05_Field hi h.1 h.2.1 h.2.2 (by kernel_rfl) (by omega) ho hy hn hm hc hb (by omega) hba hk
theorem o_T_Lint64 : oneT P T_Lint64 = true := by kernel_rfl
theorem z_T_Lint64 : zeroT P T_Lint64 = some (.slice none 0 0) := by kernel_rfl
theorem u_T_Lint64 : P.underlying T_Lint64 = some (.slice T_int64) := by kernel_rfl
theorem s_T_Lint64 : slT P T_Lint64 = some 1 := by kernel_rfl
theorem app_T_Lint64 {w : World} {K : Value → World → Prop} {base : Nat} {v x : Value} {xs ys : List Value} {n m : Nat} (ho : Own w base T_int64 1 v xs) (hy : SlG w 1 x ys) (hn : xs.length = n * 1) (hm : ys.length = m * 1) (hc : ∀ u ∈ ys, isC u = true)
    (hb : (n + m) * 8 ≤ 140737488355328) (hba : base ≤ w.heap.size) (hk : ∀ v' w', Own w' base T_int64 1 v' (xs ++ ys) → Ex v.ownBlock.toList w w' → (v'.ownBlock = v.ownBlock ∨ v'.ownBlock = some w.heap.size) → K v' w') : wBuiltin P .append #[T_Lint64, T_Lint64] [v, x] w K := by
  have h : (P.info? T_int64).map (fun i => (i.zero, i.size, i.bytes)) = some (some (.int .i64 0), 1, 8) := by kernel_rfl
  cases hi : P.info? T_int64 with
  | none => rw [hi] at h; cases h
  | some i =>
    rw [hi] at h
    simp only [Option.map_some, Option.some.injEq, Prod.mk.injEq] at h
    exact app_i u_T_Lint64 hi h.1 h.2.1 h.2.2 (by kernel_rfl) (by omega) ho hy hn hm hc hb (by omega) hba hk
theorem e_T_num_Writer : P.eqGuardType P.depth T_num_Writer = false := by kernel_rfl
theorem g_T_num_Writer : aggT P T_num_Writer 130 = true := by kernel_rfl
theorem z_T_num_Writer : zeroT P T_num_Writer = some (.agg ⟨List.replicate 128 (.int .u8 0) ++ [.int .i64 0, .int .i64 0]⟩) := by kernel_rfl
theorem e_T_ref05_Field : P.eqGuardType P.depth T_ref05_Field = false := by kernel_rfl
theorem g_T_ref05_Field : aggT P T_ref05_Field 2 = true := by kernel_rfl
theorem z_T_ref05_Field : zeroT P T_ref05_Field = some (.agg ⟨[.int .i64 0, .int .i64 0]⟩) := by kernel_rfl
theorem e_T_slog_Item : P.eqGuardType P.depth T_slog_Item = false := by kernel_rfl
theorem g_T_slog_Item : aggT P T_slog_Item 132 = true := by kernel_rfl
theorem z_T_slog_Item : zeroT P T_slog_Item = some (.agg ⟨[.int .i64 0, .int .u32 0, .int .u32 0, .int .i64 0] ++ List.replicate 128 (.int .u8 0)⟩) := by kernel_rfl
theorem o_T_Lref04_Part : oneT P T_Lref04_Part = true := by kernel_rfl
theorem z_T_Lref04_Part : zeroT P T_Lref04_Part = some (.slice none 0 0) := by kernel_rfl
theorem u_T_Lref04_Part : P.underlying T_Lref04_Part = some (.slice T_ref04_Part) := by kernel_rfl
theorem s_T_Lref04_Part : slT P T_Lref04_Part = some 6 := by kernel_rfl
theorem app_T_Lref04_Part {w : World} {K : Value → World → Prop} {base : Nat} {v x : Value} {xs ys : List Value} {n m : Nat} (ho : Own w base T_ref04_Part 6 v xs) (hy : SlG w 6 x ys) (hn : xs.length = n * 6) (hm : ys.length = m * 6) (hc : ∀ u ∈ ys, isC u = true)
    (hb : (n + m) * 48 ≤ 140737488355328) (hba : base ≤ w.heap.size) (hk : ∀ v' w', Own w' base T_ref04_Part 6 v' (xs ++ ys) → Ex v.ownBlock.toList w w' → (v'.ownBlock = v.ownBlock ∨ v'.ownBlock = some w.heap.size) → K v' w') : wBuiltin P .append #[T_Lref04_Part, T_Lref04_Part] [v, x] w K := by
  have h : (P.info? T_ref04_Part).map (fun i => (i.zero, i.size, i.bytes)) = some (some (.agg ⟨[.int .i64 0, .int .i64 0, .int .i64 0, .int .i64 0, .int .i64 0, .int .i64 0]⟩), 6, 48) := by kernel_rfl
  cases hi : P.info? T_ref04_Part with
  | none => rw [hi] at h; cases h
  | some i =>
    rw [hi] at h
    simp only [Option.map_some, Option.some.injEq, Prod.mk.injEq] at h
    exact app_i u_T_Lref04_Part hi h.1 h.2.1 h.2.2 (by kernel_rfl) (by omega) ho hy hn hm hc hb (by omega) hba hk
theorem o_T_Lslog_group : oneT P T_Lslog_group = true := by kernel_rfl
theorem z_T_Lslog_group : zeroT P T_Lslog_group = some (.slice none 0 0) := by kernel_rfl
theorem u_T_Lslog_group : P.underlying T_Lslog_group = some (.slice T_slog_group) := by kernel_rfl
theorem s_T_Lslog_group : slT P T_Lslog_group = some 131 := by kernel_rfl
theorem app_T_Lslog_group {w : World} {K : Value → World → Prop} {base : Nat} {v x : Value} {xs ys : List Value} {n m : Nat} (ho : Own w base T_slog_group 131 v xs) (hy : SlG w 131 x ys) (hn : xs.length = n * 131) (hm : ys.length = m * 131) (hc : ∀ u ∈ ys, isC u = true)
    (hb : (n + m) * 184 ≤ 140737488355328) (hba : base ≤ w.heap.size) (hk : ∀ v' w', Own w' base T_slog_group 131 v' (xs ++ ys) → Ex v.ownBlock.toList w w' → (v'.ownBlock = v.ownBlock ∨ v'.ownBlock = some w.heap.size) → K v' w') : wBuiltin P .append #[T_Lslog_group, T_Lslog_group] [v, x] w K := by
  have h : (P.info? T_slog_group).map (fun i => (i.zero, i.size, i.bytes)) = some (some (.agg ⟨[.int .i64 0] ++ List.replicate 128 (.int .u8 0) ++ [.slice none 0 0, .slice none 0 0]⟩), 131, 184) := by kernel_rfl
  cases hi : P.info? T_slog_group with
  | none => rw [hi] at h; cases h
  | some i =>
    rw [hi] at h
    simp only [Option.map_some, Option.some.injEq, Prod.mk.injEq] at h
    exact app_i u_T_Lslog_group hi h.1 h.2.1 h.2.2 (by kernel_rfl) (by omega) ho hy hn hm hc hb (by omega) hba hk
theorem e_T_slog_writer : P.eqGuardType P.depth T_slog_writer = false := by kernel_rfl
theorem g_T_slog_writer : aggT P T_slog_writer 2 = true := by kernel_rfl
theorem z_T_slog_writer : zeroT P T_slog_writer = some (.agg ⟨[.pointer none, .int .i64 0]⟩) := by kernel_rfl
theorem e_T_slog_group : P.eqGuardType P.depth T_slog_group = false := by kernel_rfl
theorem g_T_slog_group : aggT P T_slog_group 131 = true := by kernel_rfl
theorem z_T_slog_group : zeroT P T_slog_group = some (.agg ⟨[.int .i64 0] ++ List.replicate 128 (.int .u8 0) ++ [.slice none 0 0, .slice none 0 0]⟩) := by kernel_rfl
theorem o_T_pcodec_writer : oneT P T_pcodec_writer = true := by kernel_rfl
theorem z_T_pcodec_writer : zeroT P T_pcodec_writer = some (.pointer none) := by kernel_rfl
theorem e_T_codec_writer : P.eqGuardType P.depth T_codec_writer = false := by kernel_rfl
theorem g_T_codec_writer : aggT P T_codec_writer 2 = true := by kernel_rfl
theorem z_T_codec_writer : zeroT P T_codec_writer = some (.agg ⟨[.slice none 0 0, .bool false]⟩) := by kernel_rfl
theorem o_T_pcodec_reader : oneT P T_pcodec_reader = true := by kernel_rfl
theorem z_T_pcodec_reader : zeroT P T_pcodec_reader = some (.pointer none) := by kernel_rfl
theorem e_T_codec_reader : P.eqGuardType P.depth T_codec_reader = false := by kernel_rfl
theorem g_T_codec_reader : aggT P T_codec_reader 3 = true := by kernel_rfl
theorem z_T_codec_reader : zeroT P T_codec_reader = some (.agg ⟨[.slice none 0 0, .int .i64 0, .bool false]⟩) := by kernel_rfl
theorem e_T_num_Reader : P.eqGuardType P.depth T_num_Reader = false := by kernel_rfl
theorem g_T_num_Reader : aggT P T_num_Reader 130 = true := by kernel_rfl
theorem z_T_num_Reader : zeroT P T_num_Reader = some (.agg ⟨List.replicate 128 (.int .u8 0) ++ [.int .i64 0, .int .i64 0]⟩) := by kernel_rfl
theorem o_T_func_codec_Record__bool : oneT P T_func_codec_Record__bool = true := by kernel_rfl
theorem z_T_func_codec_Record__bool : zeroT P T_func_codec_Record__bool = some (.nilFunc) := by kernel_rfl
theorem o_T_func_codec_Entry__bool : oneT P T_func_codec_Entry__bool = true := by kernel_rfl
theorem z_T_func_codec_Entry__bool : zeroT P T_func_codec_Entry__bool = some (.nilFunc) := by kernel_rfl
theorem e_T_ref04_Part : P.eqGuardType P.depth T_ref04_Part = false := by kernel_rfl
theorem g_T_ref04_Part : aggT P T_ref04_Part 6 = true := by kernel_rfl
theorem z_T_ref04_Part : zeroT P T_ref04_Part = some (.agg ⟨[.int .i64 0, .int .i64 0, .int .i64 0, .int .i64 0, .int .i64 0, .int .i64 0]⟩) := by kernel_rfl
theorem o_T_uint : oneT P T_uint = true := by kernel_rfl
theorem z_T_uint : zeroT P T_uint = some (.int .u64 0) := by kernel_rfl
theorem i_T_uint : P.underlying T_uint = some (.int .u64) := by kernel_rfl
theorem f_T_ref03_Disk_0 : fldT P T_ref03_Disk 0 = some 0 := by kernel_rfl
theorem fA_T_ref03_Disk_0 (b o : Nat) (w : World) (K : Value → World → Prop) : wFieldA P T_ref03_Disk (.pointer (some ⟨b, o, none⟩)) 0 w K = K (.pointer (some ⟨b, o, none⟩)) w := fieldA_i f_T_ref03_Disk_0
theorem f_T_ref03_Disk_1 : fldT P T_ref03_Disk 1 = some 1 := by kernel_rfl
theorem fA_T_ref03_Disk_1 (b o : Nat) (w : World) (K : Value → World → Prop) : wFieldA P T_ref03_Disk (.pointer (some ⟨b, o, none⟩)) 1 w K = K (.pointer (some ⟨b, o + 1, none⟩)) w := fieldA_i f_T_ref03_Disk_1
theorem f_T_ref03_Disk_2 : fldT P T_ref03_Disk 2 = some 2 := by kernel_rfl
theorem fA_T_ref03_Disk_2 (b o : Nat) (w : World) (K : Value → World → Prop) : wFieldA P T_ref03_Disk (.pointer (some ⟨b, o, none⟩)) 2 w K = K (.pointer (some ⟨b, o + 2, none⟩)) w := fieldA_i f_T_ref03_Disk_2
theorem f_T_ref03_Disk_3 : fldT P T_ref03_Disk 3 = some 3 := by kernel_rfl
theorem fA_T_ref03_Disk_3 (b o : Nat) (w : World) (K : Value → World → Prop) : wFieldA P T_ref03_Disk (.pointer (some ⟨b, o, none⟩)) 3 w K = K (.pointer (some ⟨b, o + 3, none⟩)) w := fieldA_i f_T_ref03_Disk_3
theorem f_T_ref03_Disk_4 : fldT P T_ref03_Disk 4 = some 4 := by kernel_rfl
theorem fA_T_ref03_Disk_4 (b o : Nat) (w : World) (K : Value → World → Prop) : wFieldA P T_ref03_Disk (.pointer (some ⟨b, o, none⟩)) 4 w K = K (.pointer (some ⟨b, o + 4, none⟩)) w := fieldA_i f_T_ref03_Disk_4
theorem f_T_law03_Act_0 : fldT P T_law03_Act 0 = some 0 := by kernel_rfl
theorem fA_T_law03_Act_0 (b o : Nat) (w : World) (K : Value → World → Prop) : wFieldA P T_law03_Act (.pointer (some ⟨b, o, none⟩)) 0 w K = K (.pointer (some ⟨b, o, none⟩)) w := fieldA_i f_T_law03_Act_0
theorem f_T_law03_Act_1 : fldT P T_law03_Act 1 = some 1 := by kernel_rfl
theorem fA_T_law03_Act_1 (b o : Nat) (w : World) (K : Value → World → Prop) : wFieldA P T_law03_Act (.pointer (some ⟨b, o, none⟩)) 1 w K = K (.pointer (some ⟨b, o + 1, none⟩)) w := fieldA_i f_T_law03_Act_1
theorem f_T_law03_Act_2 : fldT P T_law03_Act 2 = some 2 := by kernel_rfl
theorem fA_T_law03_Act_2 (b o : Nat) (w : World) (K : Value → World → Prop) : wFieldA P T_law03_Act (.pointer (some ⟨b, o, none⟩)) 2 w K = K (.pointer (some ⟨b, o + 2, none⟩)) w := fieldA_i f_T_law03_Act_2
theorem f_T_law03_Act_3 : fldT P T_law03_Act 3 = some 3 := by kernel_rfl
theorem fA_T_law03_Act_3 (b o : Nat) (w : World) (K : Value → World → Prop) : wFieldA P T_law03_Act (.pointer (some ⟨b, o, none⟩)) 3 w K = K (.pointer (some ⟨b, o + 3, none⟩)) w := fieldA_i f_T_law03_Act_3
theorem f_T_ref03_Write_0 : fldT P T_ref03_Write 0 = some 0 := by kernel_rfl
theorem fA_T_ref03_Write_0 (b o : Nat) (w : World) (K : Value → World → Prop) : wFieldA P T_ref03_Write (.pointer (some ⟨b, o, none⟩)) 0 w K = K (.pointer (some ⟨b, o, none⟩)) w := fieldA_i f_T_ref03_Write_0
theorem f_T_ref03_Write_1 : fldT P T_ref03_Write 1 = some 1 := by kernel_rfl
theorem fA_T_ref03_Write_1 (b o : Nat) (w : World) (K : Value → World → Prop) : wFieldA P T_ref03_Write (.pointer (some ⟨b, o, none⟩)) 1 w K = K (.pointer (some ⟨b, o + 1, none⟩)) w := fieldA_i f_T_ref03_Write_1
theorem f_T_ref05_Use_0 : fldT P T_ref05_Use 0 = some 0 := by kernel_rfl
theorem fA_T_ref05_Use_0 (b o : Nat) (w : World) (K : Value → World → Prop) : wFieldA P T_ref05_Use (.pointer (some ⟨b, o, none⟩)) 0 w K = K (.pointer (some ⟨b, o, none⟩)) w := fieldA_i f_T_ref05_Use_0
theorem f_T_ref05_Use_1 : fldT P T_ref05_Use 1 = some 1 := by kernel_rfl
theorem fA_T_ref05_Use_1 (b o : Nat) (w : World) (K : Value → World → Prop) : wFieldA P T_ref05_Use (.pointer (some ⟨b, o, none⟩)) 1 w K = K (.pointer (some ⟨b, o + 1, none⟩)) w := fieldA_i f_T_ref05_Use_1
theorem f_T_ref05_Use_2 : fldT P T_ref05_Use 2 = some 2 := by kernel_rfl
theorem fA_T_ref05_Use_2 (b o : Nat) (w : World) (K : Value → World → Prop) : wFieldA P T_ref05_Use (.pointer (some ⟨b, o, none⟩)) 2 w K = K (.pointer (some ⟨b, o + 2, none⟩)) w := fieldA_i f_T_ref05_Use_2
theorem f_T_codec_Use_0 : fldT P T_codec_Use 0 = some 0 := by kernel_rfl
theorem fA_T_codec_Use_0 (b o : Nat) (w : World) (K : Value → World → Prop) : wFieldA P T_codec_Use (.pointer (some ⟨b, o, none⟩)) 0 w K = K (.pointer (some ⟨b, o, none⟩)) w := fieldA_i f_T_codec_Use_0
theorem f_T_codec_Use_1 : fldT P T_codec_Use 1 = some 1 := by kernel_rfl
theorem fA_T_codec_Use_1 (b o : Nat) (w : World) (K : Value → World → Prop) : wFieldA P T_codec_Use (.pointer (some ⟨b, o, none⟩)) 1 w K = K (.pointer (some ⟨b, o + 1, none⟩)) w := fieldA_i f_T_codec_Use_1
theorem f_T_codec_Use_2 : fldT P T_codec_Use 2 = some 2 := by kernel_rfl
theorem fA_T_codec_Use_2 (b o : Nat) (w : World) (K : Value → World → Prop) : wFieldA P T_codec_Use (.pointer (some ⟨b, o, none⟩)) 2 w K = K (.pointer (some ⟨b, o + 2, none⟩)) w := fieldA_i f_T_codec_Use_2
theorem f_T_ref05_Slot_0 : fldT P T_ref05_Slot 0 = some 0 := by kernel_rfl
theorem fA_T_ref05_Slot_0 (b o : Nat) (w : World) (K : Value → World → Prop) : wFieldA P T_ref05_Slot (.pointer (some ⟨b, o, none⟩)) 0 w K = K (.pointer (some ⟨b, o, none⟩)) w := fieldA_i f_T_ref05_Slot_0
theorem f_T_ref05_Slot_1 : fldT P T_ref05_Slot 1 = some 1 := by kernel_rfl
theorem fA_T_ref05_Slot_1 (b o : Nat) (w : World) (K : Value → World → Prop) : wFieldA P T_ref05_Slot (.pointer (some ⟨b, o, none⟩)) 1 w K = K (.pointer (some ⟨b, o + 1, none⟩)) w := fieldA_i f_T_ref05_Slot_1
theorem f_T_ref05_Slot_2 : fldT P T_ref05_Slot 2 = some 2 := by kernel_rfl
theorem fA_T_ref05_Slot_2 (b o : Nat) (w : World) (K : Value → World → Prop) : wFieldA P T_ref05_Slot (.pointer (some ⟨b, o, none⟩)) 2 w K = K (.pointer (some ⟨b, o + 2, none⟩)) w := fieldA_i f_T_ref05_Slot_2
theorem f_T_ref05_Slot_3 : fldT P T_ref05_Slot 3 = some 3 := by kernel_rfl
theorem fA_T_ref05_Slot_3 (b o : Nat) (w : World) (K : Value → World → Prop) : wFieldA P T_ref05_Slot (.pointer (some ⟨b, o, none⟩)) 3 w K = K (.pointer (some ⟨b, o + 3, none⟩)) w := fieldA_i f_T_ref05_Slot_3
theorem f_T_law10_Act_0 : fldT P T_law10_Act 0 = some 0 := by kernel_rfl
theorem fA_T_law10_Act_0 (b o : Nat) (w : World) (K : Value → World → Prop) : wFieldA P T_law10_Act (.pointer (some ⟨b, o, none⟩)) 0 w K = K (.pointer (some ⟨b, o, none⟩)) w := fieldA_i f_T_law10_Act_0
theorem f_T_law10_Act_1 : fldT P T_law10_Act 1 = some 1 := by kernel_rfl
theorem fA_T_law10_Act_1 (b o : Nat) (w : World) (K : Value → World → Prop) : wFieldA P T_law10_Act (.pointer (some ⟨b, o, none⟩)) 1 w K = K (.pointer (some ⟨b, o + 1, none⟩)) w := fieldA_i f_T_law10_Act_1
theorem f_T_law10_Act_2 : fldT P T_law10_Act 2 = some 2 := by kernel_rfl
theorem fA_T_law10_Act_2 (b o : Nat) (w : World) (K : Value → World → Prop) : wFieldA P T_law10_Act (.pointer (some ⟨b, o, none⟩)) 2 w K = K (.pointer (some ⟨b, o + 2, none⟩)) w := fieldA_i f_T_law10_Act_2
theorem f_T_codec_Slot_0 : fldT P T_codec_Slot 0 = some 0 := by kernel_rfl
theorem fA_T_codec_Slot_0 (b o : Nat) (w : World) (K : Value → World → Prop) : wFieldA P T_codec_Slot (.pointer (some ⟨b, o, none⟩)) 0 w K = K (.pointer (some ⟨b, o, none⟩)) w := fieldA_i f_T_codec_Slot_0
theorem f_T_codec_Slot_1 : fldT P T_codec_Slot 1 = some 1 := by kernel_rfl
theorem fA_T_codec_Slot_1 (b o : Nat) (w : World) (K : Value → World → Prop) : wFieldA P T_codec_Slot (.pointer (some ⟨b, o, none⟩)) 1 w K = K (.pointer (some ⟨b, o + 1, none⟩)) w := fieldA_i f_T_codec_Slot_1
theorem f_T_codec_Slot_2 : fldT P T_codec_Slot 2 = some 2 := by kernel_rfl
theorem fA_T_codec_Slot_2 (b o : Nat) (w : World) (K : Value → World → Prop) : wFieldA P T_codec_Slot (.pointer (some ⟨b, o, none⟩)) 2 w K = K (.pointer (some ⟨b, o + 2, none⟩)) w := fieldA_i f_T_codec_Slot_2
theorem f_T_codec_Slot_3 : fldT P T_codec_Slot 3 = some 3 := by kernel_rfl
theorem fA_T_codec_Slot_3 (b o : Nat) (w : World) (K : Value → World → Prop) : wFieldA P T_codec_Slot (.pointer (some ⟨b, o, none⟩)) 3 w K = K (.pointer (some ⟨b, o + 3, none⟩)) w := fieldA_i f_T_codec_Slot_3
theorem f_T_ref05_Inode_0 : fldT P T_ref05_Inode 0 = some 0 := by kernel_rfl
theorem fA_T_ref05_Inode_0 (b o : Nat) (w : World) (K : Value → World → Prop) : wFieldA P T_ref05_Inode (.pointer (some ⟨b, o, none⟩)) 0 w K = K (.pointer (some ⟨b, o, none⟩)) w := fieldA_i f_T_ref05_Inode_0
theorem f_T_ref05_Inode_1 : fldT P T_ref05_Inode 1 = some 1 := by kernel_rfl
theorem fA_T_ref05_Inode_1 (b o : Nat) (w : World) (K : Value → World → Prop) : wFieldA P T_ref05_Inode (.pointer (some ⟨b, o, none⟩)) 1 w K = K (.pointer (some ⟨b, o + 1, none⟩)) w := fieldA_i f_T_ref05_Inode_1
theorem f_T_ref05_Inode_2 : fldT P T_ref05_Inode 2 = some 2 := by kernel_rfl
theorem fA_T_ref05_Inode_2 (b o : Nat) (w : World) (K : Value → World → Prop) : wFieldA P T_ref05_Inode (.pointer (some ⟨b, o, none⟩)) 2 w K = K (.pointer (some ⟨b, o + 2, none⟩)) w := fieldA_i f_T_ref05_Inode_2
theorem f_T_ref05_Inode_3 : fldT P T_ref05_Inode 3 = some 3 := by kernel_rfl
theorem fA_T_ref05_Inode_3 (b o : Nat) (w : World) (K : Value → World → Prop) : wFieldA P T_ref05_Inode (.pointer (some ⟨b, o, none⟩)) 3 w K = K (.pointer (some ⟨b, o + 3, none⟩)) w := fieldA_i f_T_ref05_Inode_3
theorem f_T_ref05_Inode_4 : fldT P T_ref05_Inode 4 = some 4 := by kernel_rfl
theorem fA_T_ref05_Inode_4 (b o : Nat) (w : World) (K : Value → World → Prop) : wFieldA P T_ref05_Inode (.pointer (some ⟨b, o, none⟩)) 4 w K = K (.pointer (some ⟨b, o + 4, none⟩)) w := fieldA_i f_T_ref05_Inode_4
theorem f_T_ref05_Inode_5 : fldT P T_ref05_Inode 5 = some 5 := by kernel_rfl
theorem fA_T_ref05_Inode_5 (b o : Nat) (w : World) (K : Value → World → Prop) : wFieldA P T_ref05_Inode (.pointer (some ⟨b, o, none⟩)) 5 w K = K (.pointer (some ⟨b, o + 5, none⟩)) w := fieldA_i f_T_ref05_Inode_5
theorem f_T_ref05_Inode_6 : fldT P T_ref05_Inode 6 = some 13 := by kernel_rfl
theorem fA_T_ref05_Inode_6 (b o : Nat) (w : World) (K : Value → World → Prop) : wFieldA P T_ref05_Inode (.pointer (some ⟨b, o, none⟩)) 6 w K = K (.pointer (some ⟨b, o + 13, none⟩)) w := fieldA_i f_T_ref05_Inode_6
theorem f_T_ref05_Inode_7 : fldT P T_ref05_Inode 7 = some 14 := by kernel_rfl
theorem fA_T_ref05_Inode_7 (b o : Nat) (w : World) (K : Value → World → Prop) : wFieldA P T_ref05_Inode (.pointer (some ⟨b, o, none⟩)) 7 w K = K (.pointer (some ⟨b, o + 14, none⟩)) w := fieldA_i f_T_ref05_Inode_7
theorem f_T_codec_Inode_0 : fldT P T_codec_Inode 0 = some 0 := by kernel_rfl
theorem fA_T_codec_Inode_0 (b o : Nat) (w : World) (K : Value → World → Prop) : wFieldA P T_codec_Inode (.pointer (some ⟨b, o, none⟩)) 0 w K = K (.pointer (some ⟨b, o, none⟩)) w := fieldA_i f_T_codec_Inode_0
theorem f_T_codec_Inode_1 : fldT P T_codec_Inode 1 = some 1 := by kernel_rfl
theorem fA_T_codec_Inode_1 (b o : Nat) (w : World) (K : Value → World → Prop) : wFieldA P T_codec_Inode (.pointer (some ⟨b, o, none⟩)) 1 w K = K (.pointer (some ⟨b, o + 1, none⟩)) w := fieldA_i f_T_codec_Inode_1
theorem f_T_codec_Inode_2 : fldT P T_codec_Inode 2 = some 2 := by kernel_rfl
theorem fA_T_codec_Inode_2 (b o : Nat) (w : World) (K : Value → World → Prop) : wFieldA P T_codec_Inode (.pointer (some ⟨b, o, none⟩)) 2 w K = K (.pointer (some ⟨b, o + 2, none⟩)) w := fieldA_i f_T_codec_Inode_2
theorem f_T_codec_Inode_3 : fldT P T_codec_Inode 3 = some 3 := by kernel_rfl
theorem fA_T_codec_Inode_3 (b o : Nat) (w : World) (K : Value → World → Prop) : wFieldA P T_codec_Inode (.pointer (some ⟨b, o, none⟩)) 3 w K = K (.pointer (some ⟨b, o + 3, none⟩)) w := fieldA_i f_T_codec_Inode_3
theorem f_T_codec_Inode_4 : fldT P T_codec_Inode 4 = some 4 := by kernel_rfl
theorem fA_T_codec_Inode_4 (b o : Nat) (w : World) (K : Value → World → Prop) : wFieldA P T_codec_Inode (.pointer (some ⟨b, o, none⟩)) 4 w K = K (.pointer (some ⟨b, o + 4, none⟩)) w := fieldA_i f_T_codec_Inode_4
theorem f_T_codec_Inode_5 : fldT P T_codec_Inode 5 = some 5 := by kernel_rfl
theorem fA_T_codec_Inode_5 (b o : Nat) (w : World) (K : Value → World → Prop) : wFieldA P T_codec_Inode (.pointer (some ⟨b, o, none⟩)) 5 w K = K (.pointer (some ⟨b, o + 5, none⟩)) w := fieldA_i f_T_codec_Inode_5
theorem f_T_codec_Inode_6 : fldT P T_codec_Inode 6 = some 13 := by kernel_rfl
theorem fA_T_codec_Inode_6 (b o : Nat) (w : World) (K : Value → World → Prop) : wFieldA P T_codec_Inode (.pointer (some ⟨b, o, none⟩)) 6 w K = K (.pointer (some ⟨b, o + 13, none⟩)) w := fieldA_i f_T_codec_Inode_6
theorem f_T_codec_Inode_7 : fldT P T_codec_Inode 7 = some 14 := by kernel_rfl
theorem fA_T_codec_Inode_7 (b o : Nat) (w : World) (K : Value → World → Prop) : wFieldA P T_codec_Inode (.pointer (some ⟨b, o, none⟩)) 7 w K = K (.pointer (some ⟨b, o + 14, none⟩)) w := fieldA_i f_T_codec_Inode_7
theorem f_T_ref05_Header_0 : fldT P T_ref05_Header 0 = some 0 := by kernel_rfl
theorem fA_T_ref05_Header_0 (b o : Nat) (w : World) (K : Value → World → Prop) : wFieldA P T_ref05_Header (.pointer (some ⟨b, o, none⟩)) 0 w K = K (.pointer (some ⟨b, o, none⟩)) w := fieldA_i f_T_ref05_Header_0
theorem f_T_ref05_Header_1 : fldT P T_ref05_Header 1 = some 1 := by kernel_rfl
theorem fA_T_ref05_Header_1 (b o : Nat) (w : World) (K : Value → World → Prop) : wFieldA P T_ref05_Header (.pointer (some ⟨b, o, none⟩)) 1 w K = K (.pointer (some ⟨b, o + 1, none⟩)) w := fieldA_i f_T_ref05_Header_1
theorem f_T_ref05_Header_2 : fldT P T_ref05_Header 2 = some 2 := by kernel_rfl
theorem fA_T_ref05_Header_2 (b o : Nat) (w : World) (K : Value → World → Prop) : wFieldA P T_ref05_Header (.pointer (some ⟨b, o, none⟩)) 2 w K = K (.pointer (some ⟨b, o + 2, none⟩)) w := fieldA_i f_T_ref05_Header_2
theorem f_T_ref05_Header_3 : fldT P T_ref05_Header 3 = some 3 := by kernel_rfl
theorem fA_T_ref05_Header_3 (b o : Nat) (w : World) (K : Value → World → Prop) : wFieldA P T_ref05_Header (.pointer (some ⟨b, o, none⟩)) 3 w K = K (.pointer (some ⟨b, o + 3, none⟩)) w := fieldA_i f_T_ref05_Header_3
theorem f_T_ref05_Header_4 : fldT P T_ref05_Header 4 = some 4 := by kernel_rfl
theorem fA_T_ref05_Header_4 (b o : Nat) (w : World) (K : Value → World → Prop) : wFieldA P T_ref05_Header (.pointer (some ⟨b, o, none⟩)) 4 w K = K (.pointer (some ⟨b, o + 4, none⟩)) w := fieldA_i f_T_ref05_Header_4
theorem f_T_ref05_Header_5 : fldT P T_ref05_Header 5 = some 5 := by kernel_rfl
theorem fA_T_ref05_Header_5 (b o : Nat) (w : World) (K : Value → World → Prop) : wFieldA P T_ref05_Header (.pointer (some ⟨b, o, none⟩)) 5 w K = K (.pointer (some ⟨b, o + 5, none⟩)) w := fieldA_i f_T_ref05_Header_5
theorem f_T_codec_Header_0 : fldT P T_codec_Header 0 = some 0 := by kernel_rfl
theorem fA_T_codec_Header_0 (b o : Nat) (w : World) (K : Value → World → Prop) : wFieldA P T_codec_Header (.pointer (some ⟨b, o, none⟩)) 0 w K = K (.pointer (some ⟨b, o, none⟩)) w := fieldA_i f_T_codec_Header_0
theorem f_T_codec_Header_1 : fldT P T_codec_Header 1 = some 1 := by kernel_rfl
theorem fA_T_codec_Header_1 (b o : Nat) (w : World) (K : Value → World → Prop) : wFieldA P T_codec_Header (.pointer (some ⟨b, o, none⟩)) 1 w K = K (.pointer (some ⟨b, o + 1, none⟩)) w := fieldA_i f_T_codec_Header_1
theorem f_T_codec_Header_2 : fldT P T_codec_Header 2 = some 2 := by kernel_rfl
theorem fA_T_codec_Header_2 (b o : Nat) (w : World) (K : Value → World → Prop) : wFieldA P T_codec_Header (.pointer (some ⟨b, o, none⟩)) 2 w K = K (.pointer (some ⟨b, o + 2, none⟩)) w := fieldA_i f_T_codec_Header_2
theorem f_T_codec_Header_3 : fldT P T_codec_Header 3 = some 3 := by kernel_rfl
theorem fA_T_codec_Header_3 (b o : Nat) (w : World) (K : Value → World → Prop) : wFieldA P T_codec_Header (.pointer (some ⟨b, o, none⟩)) 3 w K = K (.pointer (some ⟨b, o + 3, none⟩)) w := fieldA_i f_T_codec_Header_3
theorem f_T_codec_Header_4 : fldT P T_codec_Header 4 = some 4 := by kernel_rfl
theorem fA_T_codec_Header_4 (b o : Nat) (w : World) (K : Value → World → Prop) : wFieldA P T_codec_Header (.pointer (some ⟨b, o, none⟩)) 4 w K = K (.pointer (some ⟨b, o + 4, none⟩)) w := fieldA_i f_T_codec_Header_4
theorem f_T_codec_Header_5 : fldT P T_codec_Header 5 = some 5 := by kernel_rfl
theorem fA_T_codec_Header_5 (b o : Nat) (w : World) (K : Value → World → Prop) : wFieldA P T_codec_Header (.pointer (some ⟨b, o, none⟩)) 5 w K = K (.pointer (some ⟨b, o + 5, none⟩)) w := fieldA_i f_T_codec_Header_5
theorem f_T_ref05_Record_0 : fldT P T_ref05_Record 0 = some 0 := by kernel_rfl
theorem fA_T_ref05_Record_0 (b o : Nat) (w : World) (K : Value → World → Prop) : wFieldA P T_ref05_Record (.pointer (some ⟨b, o, none⟩)) 0 w K = K (.pointer (some ⟨b, o, none⟩)) w := fieldA_i f_T_ref05_Record_0
theorem f_T_ref05_Record_1 : fldT P T_ref05_Record 1 = some 1 := by kernel_rfl
theorem fA_T_ref05_Record_1 (b o : Nat) (w : World) (K : Value → World → Prop) : wFieldA P T_ref05_Record (.pointer (some ⟨b, o, none⟩)) 1 w K = K (.pointer (some ⟨b, o + 1, none⟩)) w := fieldA_i f_T_ref05_Record_1
theorem f_T_ref05_Record_2 : fldT P T_ref05_Record 2 = some 2 := by kernel_rfl
theorem fA_T_ref05_Record_2 (b o : Nat) (w : World) (K : Value → World → Prop) : wFieldA P T_ref05_Record (.pointer (some ⟨b, o, none⟩)) 2 w K = K (.pointer (some ⟨b, o + 2, none⟩)) w := fieldA_i f_T_ref05_Record_2
theorem f_T_ref05_Record_3 : fldT P T_ref05_Record 3 = some 3 := by kernel_rfl
theorem fA_T_ref05_Record_3 (b o : Nat) (w : World) (K : Value → World → Prop) : wFieldA P T_ref05_Record (.pointer (some ⟨b, o, none⟩)) 3 w K = K (.pointer (some ⟨b, o + 3, none⟩)) w := fieldA_i f_T_ref05_Record_3
theorem f_T_codec_Record_0 : fldT P T_codec_Record 0 = some 0 := by kernel_rfl
theorem fA_T_codec_Record_0 (b o : Nat) (w : World) (K : Value → World → Prop) : wFieldA P T_codec_Record (.pointer (some ⟨b, o, none⟩)) 0 w K = K (.pointer (some ⟨b, o, none⟩)) w := fieldA_i f_T_codec_Record_0
theorem f_T_codec_Record_1 : fldT P T_codec_Record 1 = some 1 := by kernel_rfl
theorem fA_T_codec_Record_1 (b o : Nat) (w : World) (K : Value → World → Prop) : wFieldA P T_codec_Record (.pointer (some ⟨b, o, none⟩)) 1 w K = K (.pointer (some ⟨b, o + 1, none⟩)) w := fieldA_i f_T_codec_Record_1
theorem f_T_codec_Record_2 : fldT P T_codec_Record 2 = some 2 := by kernel_rfl
theorem fA_T_codec_Record_2 (b o : Nat) (w : World) (K : Value → World → Prop) : wFieldA P T_codec_Record (.pointer (some ⟨b, o, none⟩)) 2 w K = K (.pointer (some ⟨b, o + 2, none⟩)) w := fieldA_i f_T_codec_Record_2
theorem f_T_codec_Record_3 : fldT P T_codec_Record 3 = some 3 := by kernel_rfl
theorem fA_T_codec_Record_3 (b o : Nat) (w : World) (K : Value → World → Prop) : wFieldA P T_codec_Record (.pointer (some ⟨b, o, none⟩)) 3 w K = K (.pointer (some ⟨b, o + 3, none⟩)) w := fieldA_i f_T_codec_Record_3
theorem f_T_ref05_Summary_0 : fldT P T_ref05_Summary 0 = some 0 := by kernel_rfl
theorem fA_T_ref05_Summary_0 (b o : Nat) (w : World) (K : Value → World → Prop) : wFieldA P T_ref05_Summary (.pointer (some ⟨b, o, none⟩)) 0 w K = K (.pointer (some ⟨b, o, none⟩)) w := fieldA_i f_T_ref05_Summary_0
theorem f_T_ref05_Summary_1 : fldT P T_ref05_Summary 1 = some 1 := by kernel_rfl
theorem fA_T_ref05_Summary_1 (b o : Nat) (w : World) (K : Value → World → Prop) : wFieldA P T_ref05_Summary (.pointer (some ⟨b, o, none⟩)) 1 w K = K (.pointer (some ⟨b, o + 1, none⟩)) w := fieldA_i f_T_ref05_Summary_1
theorem f_T_ref05_Summary_2 : fldT P T_ref05_Summary 2 = some 2 := by kernel_rfl
theorem fA_T_ref05_Summary_2 (b o : Nat) (w : World) (K : Value → World → Prop) : wFieldA P T_ref05_Summary (.pointer (some ⟨b, o, none⟩)) 2 w K = K (.pointer (some ⟨b, o + 2, none⟩)) w := fieldA_i f_T_ref05_Summary_2
theorem f_T_ref05_Summary_3 : fldT P T_ref05_Summary 3 = some 3 := by kernel_rfl
theorem fA_T_ref05_Summary_3 (b o : Nat) (w : World) (K : Value → World → Prop) : wFieldA P T_ref05_Summary (.pointer (some ⟨b, o, none⟩)) 3 w K = K (.pointer (some ⟨b, o + 3, none⟩)) w := fieldA_i f_T_ref05_Summary_3
theorem f_T_ref05_Summary_4 : fldT P T_ref05_Summary 4 = some 4 := by kernel_rfl
theorem fA_T_ref05_Summary_4 (b o : Nat) (w : World) (K : Value → World → Prop) : wFieldA P T_ref05_Summary (.pointer (some ⟨b, o, none⟩)) 4 w K = K (.pointer (some ⟨b, o + 4, none⟩)) w := fieldA_i f_T_ref05_Summary_4
theorem f_T_ref05_Summary_5 : fldT P T_ref05_Summary 5 = some 5 := by kernel_rfl
theorem fA_T_ref05_Summary_5 (b o : Nat) (w : World) (K : Value → World → Prop) : wFieldA P T_ref05_Summary (.pointer (some ⟨b, o, none⟩)) 5 w K = K (.pointer (some ⟨b, o + 5, none⟩)) w := fieldA_i f_T_ref05_Summary_5
theorem f_T_codec_Summary_0 : fldT P T_codec_Summary 0 = some 0 := by kernel_rfl
theorem fA_T_codec_Summary_0 (b o : Nat) (w : World) (K : Value → World → Prop) : wFieldA P T_codec_Summary (.pointer (some ⟨b, o, none⟩)) 0 w K = K (.pointer (some ⟨b, o, none⟩)) w := fieldA_i f_T_codec_Summary_0
theorem f_T_codec_Summary_1 : fldT P T_codec_Summary 1 = some 1 := by kernel_rfl
theorem fA_T_codec_Summary_1 (b o : Nat) (w : World) (K : Value → World → Prop) : wFieldA P T_codec_Summary (.pointer (some ⟨b, o, none⟩)) 1 w K = K (.pointer (some ⟨b, o + 1, none⟩)) w := fieldA_i f_T_codec_Summary_1
theorem f_T_codec_Summary_2 : fldT P T_codec_Summary 2 = some 2 := by kernel_rfl
theorem fA_T_codec_Summary_2 (b o : Nat) (w : World) (K : Value → World → Prop) : wFieldA P T_codec_Summary (.pointer (some ⟨b, o, none⟩)) 2 w K = K (.pointer (some ⟨b, o + 2, none⟩)) w := fieldA_i f_T_codec_Summary_2
theorem f_T_codec_Summary_3 : fldT P T_codec_Summary 3 = some 3 := by kernel_rfl
theorem fA_T_codec_Summary_3 (b o : Nat) (w : World) (K : Value → World → Prop) : wFieldA P T_codec_Summary (.pointer (some ⟨b, o, none⟩)) 3 w K = K (.pointer (some ⟨b, o + 3, none⟩)) w := fieldA_i f_T_codec_Summary_3
theorem f_T_codec_Summary_4 : fldT P T_codec_Summary 4 = some 4 := by kernel_rfl
theorem fA_T_codec_Summary_4 (b o : Nat) (w : World) (K : Value → World → Prop) : wFieldA P T_codec_Summary (.pointer (some ⟨b, o, none⟩)) 4 w K = K (.pointer (some ⟨b, o + 4, none⟩)) w := fieldA_i f_T_codec_Summary_4
theorem f_T_codec_Summary_5 : fldT P T_codec_Summary 5 = some 5 := by kernel_rfl
theorem fA_T_codec_Summary_5 (b o : Nat) (w : World) (K : Value → World → Prop) : wFieldA P T_codec_Summary (.pointer (some ⟨b, o, none⟩)) 5 w K = K (.pointer (some ⟨b, o + 5, none⟩)) w := fieldA_i f_T_codec_Summary_5
theorem f_T_ref09_Table_0 : fldT P T_ref09_Table 0 = some 0 := by kernel_rfl
theorem fA_T_ref09_Table_0 (b o : Nat) (w : World) (K : Value → World → Prop) : wFieldA P T_ref09_Table (.pointer (some ⟨b, o, none⟩)) 0 w K = K (.pointer (some ⟨b, o, none⟩)) w := fieldA_i f_T_ref09_Table_0
theorem f_T_ref09_Table_1 : fldT P T_ref09_Table 1 = some 1 := by kernel_rfl
theorem fA_T_ref09_Table_1 (b o : Nat) (w : World) (K : Value → World → Prop) : wFieldA P T_ref09_Table (.pointer (some ⟨b, o, none⟩)) 1 w K = K (.pointer (some ⟨b, o + 1, none⟩)) w := fieldA_i f_T_ref09_Table_1
theorem f_T_law09_Act_0 : fldT P T_law09_Act 0 = some 0 := by kernel_rfl
theorem fA_T_law09_Act_0 (b o : Nat) (w : World) (K : Value → World → Prop) : wFieldA P T_law09_Act (.pointer (some ⟨b, o, none⟩)) 0 w K = K (.pointer (some ⟨b, o, none⟩)) w := fieldA_i f_T_law09_Act_0
theorem f_T_law09_Act_1 : fldT P T_law09_Act 1 = some 1 := by kernel_rfl
theorem fA_T_law09_Act_1 (b o : Nat) (w : World) (K : Value → World → Prop) : wFieldA P T_law09_Act (.pointer (some ⟨b, o, none⟩)) 1 w K = K (.pointer (some ⟨b, o + 1, none⟩)) w := fieldA_i f_T_law09_Act_1
theorem f_T_law09_Act_2 : fldT P T_law09_Act 2 = some 2 := by kernel_rfl
theorem fA_T_law09_Act_2 (b o : Nat) (w : World) (K : Value → World → Prop) : wFieldA P T_law09_Act (.pointer (some ⟨b, o, none⟩)) 2 w K = K (.pointer (some ⟨b, o + 2, none⟩)) w := fieldA_i f_T_law09_Act_2
theorem f_T_law09_Act_3 : fldT P T_law09_Act 3 = some 3 := by kernel_rfl
theorem fA_T_law09_Act_3 (b o : Nat) (w : World) (K : Value → World → Prop) : wFieldA P T_law09_Act (.pointer (some ⟨b, o, none⟩)) 3 w K = K (.pointer (some ⟨b, o + 3, none⟩)) w := fieldA_i f_T_law09_Act_3
theorem f_T_ref04_Geom_0 : fldT P T_ref04_Geom 0 = some 0 := by kernel_rfl
theorem fA_T_ref04_Geom_0 (b o : Nat) (w : World) (K : Value → World → Prop) : wFieldA P T_ref04_Geom (.pointer (some ⟨b, o, none⟩)) 0 w K = K (.pointer (some ⟨b, o, none⟩)) w := fieldA_i f_T_ref04_Geom_0
theorem f_T_ref04_Geom_1 : fldT P T_ref04_Geom 1 = some 1 := by kernel_rfl
theorem fA_T_ref04_Geom_1 (b o : Nat) (w : World) (K : Value → World → Prop) : wFieldA P T_ref04_Geom (.pointer (some ⟨b, o, none⟩)) 1 w K = K (.pointer (some ⟨b, o + 1, none⟩)) w := fieldA_i f_T_ref04_Geom_1
theorem f_T_ref04_Geom_2 : fldT P T_ref04_Geom 2 = some 2 := by kernel_rfl
theorem fA_T_ref04_Geom_2 (b o : Nat) (w : World) (K : Value → World → Prop) : wFieldA P T_ref04_Geom (.pointer (some ⟨b, o, none⟩)) 2 w K = K (.pointer (some ⟨b, o + 2, none⟩)) w := fieldA_i f_T_ref04_Geom_2
theorem f_T_ref11_Place_0 : fldT P T_ref11_Place 0 = some 0 := by kernel_rfl
theorem fA_T_ref11_Place_0 (b o : Nat) (w : World) (K : Value → World → Prop) : wFieldA P T_ref11_Place (.pointer (some ⟨b, o, none⟩)) 0 w K = K (.pointer (some ⟨b, o, none⟩)) w := fieldA_i f_T_ref11_Place_0
theorem f_T_ref11_Place_1 : fldT P T_ref11_Place 1 = some 1 := by kernel_rfl
theorem fA_T_ref11_Place_1 (b o : Nat) (w : World) (K : Value → World → Prop) : wFieldA P T_ref11_Place (.pointer (some ⟨b, o, none⟩)) 1 w K = K (.pointer (some ⟨b, o + 1, none⟩)) w := fieldA_i f_T_ref11_Place_1
theorem f_T_ref11_Place_2 : fldT P T_ref11_Place 2 = some 2 := by kernel_rfl
theorem fA_T_ref11_Place_2 (b o : Nat) (w : World) (K : Value → World → Prop) : wFieldA P T_ref11_Place (.pointer (some ⟨b, o, none⟩)) 2 w K = K (.pointer (some ⟨b, o + 2, none⟩)) w := fieldA_i f_T_ref11_Place_2
theorem f_T_ref11_Place_3 : fldT P T_ref11_Place 3 = some 3 := by kernel_rfl
theorem fA_T_ref11_Place_3 (b o : Nat) (w : World) (K : Value → World → Prop) : wFieldA P T_ref11_Place (.pointer (some ⟨b, o, none⟩)) 3 w K = K (.pointer (some ⟨b, o + 3, none⟩)) w := fieldA_i f_T_ref11_Place_3
theorem f_T_slog_Place_0 : fldT P T_slog_Place 0 = some 0 := by kernel_rfl
theorem fA_T_slog_Place_0 (b o : Nat) (w : World) (K : Value → World → Prop) : wFieldA P T_slog_Place (.pointer (some ⟨b, o, none⟩)) 0 w K = K (.pointer (some ⟨b, o, none⟩)) w := fieldA_i f_T_slog_Place_0
theorem f_T_slog_Place_1 : fldT P T_slog_Place 1 = some 1 := by kernel_rfl
theorem fA_T_slog_Place_1 (b o : Nat) (w : World) (K : Value → World → Prop) : wFieldA P T_slog_Place (.pointer (some ⟨b, o, none⟩)) 1 w K = K (.pointer (some ⟨b, o + 1, none⟩)) w := fieldA_i f_T_slog_Place_1
theorem f_T_slog_Place_2 : fldT P T_slog_Place 2 = some 2 := by kernel_rfl
theorem fA_T_slog_Place_2 (b o : Nat) (w : World) (K : Value → World → Prop) : wFieldA P T_slog_Place (.pointer (some ⟨b, o, none⟩)) 2 w K = K (.pointer (some ⟨b, o + 2, none⟩)) w := fieldA_i f_T_slog_Place_2
theorem f_T_slog_Place_3 : fldT P T_slog_Place 3 = some 3 := by kernel_rfl
theorem fA_T_slog_Place_3 (b o : Nat) (w : World) (K : Value → World → Prop) : wFieldA P T_slog_Place (.pointer (some ⟨b, o, none⟩)) 3 w K = K (.pointer (some ⟨b, o + 3, none⟩)) w := fieldA_i f_T_slog_Place_3
theorem f_T_slog_Layout_0 : fldT P T_slog_Layout 0 = some 0 := by kernel_rfl
theorem fA_T_slog_Layout_0 (b o : Nat) (w : World) (K : Value → World → Prop) : wFieldA P T_slog_Layout (.pointer (some ⟨b, o, none⟩)) 0 w K = K (.pointer (some ⟨b, o, none⟩)) w := fieldA_i f_T_slog_Layout_0
theorem f_T_slog_Layout_1 : fldT P T_slog_Layout 1 = some 1 := by kernel_rfl
theorem fA_T_slog_Layout_1 (b o : Nat) (w : World) (K : Value → World → Prop) : wFieldA P T_slog_Layout (.pointer (some ⟨b, o, none⟩)) 1 w K = K (.pointer (some ⟨b, o + 1, none⟩)) w := fieldA_i f_T_slog_Layout_1
theorem f_T_slog_Layout_2 : fldT P T_slog_Layout 2 = some 5 := by kernel_rfl
theorem fA_T_slog_Layout_2 (b o : Nat) (w : World) (K : Value → World → Prop) : wFieldA P T_slog_Layout (.pointer (some ⟨b, o, none⟩)) 2 w K = K (.pointer (some ⟨b, o + 5, none⟩)) w := fieldA_i f_T_slog_Layout_2
theorem f_T_geom_Geom_0 : fldT P T_geom_Geom 0 = some 0 := by kernel_rfl
theorem fA_T_geom_Geom_0 (b o : Nat) (w : World) (K : Value → World → Prop) : wFieldA P T_geom_Geom (.pointer (some ⟨b, o, none⟩)) 0 w K = K (.pointer (some ⟨b, o, none⟩)) w := fieldA_i f_T_geom_Geom_0
theorem f_T_geom_Geom_1 : fldT P T_geom_Geom 1 = some 1 := by kernel_rfl
theorem fA_T_geom_Geom_1 (b o : Nat) (w : World) (K : Value → World → Prop) : wFieldA P T_geom_Geom (.pointer (some ⟨b, o, none⟩)) 1 w K = K (.pointer (some ⟨b, o + 1, none⟩)) w := fieldA_i f_T_geom_Geom_1
theorem f_T_geom_Geom_2 : fldT P T_geom_Geom 2 = some 2 := by kernel_rfl
theorem fA_T_geom_Geom_2 (b o : Nat) (w : World) (K : Value → World → Prop) : wFieldA P T_geom_Geom (.pointer (some ⟨b, o, none⟩)) 2 w K = K (.pointer (some ⟨b, o + 2, none⟩)) w := fieldA_i f_T_geom_Geom_2
theorem f_T_ref05_Entry_0 : fldT P T_ref05_Entry 0 = some 0 := by kernel_rfl
theorem fA_T_ref05_Entry_0 (b o : Nat) (w : World) (K : Value → World → Prop) : wFieldA P T_ref05_Entry (.pointer (some ⟨b, o, none⟩)) 0 w K = K (.pointer (some ⟨b, o, none⟩)) w := fieldA_i f_T_ref05_Entry_0
theorem f_T_ref05_Entry_1 : fldT P T_ref05_Entry 1 = some 1 := by kernel_rfl
theorem fA_T_ref05_Entry_1 (b o : Nat) (w : World) (K : Value → World → Prop) : wFieldA P T_ref05_Entry (.pointer (some ⟨b, o, none⟩)) 1 w K = K (.pointer (some ⟨b, o + 1, none⟩)) w := fieldA_i f_T_ref05_Entry_1
theorem f_T_ref05_Entry_2 : fldT P T_ref05_Entry 2 = some 2 := by kernel_rfl
theorem fA_T_ref05_Entry_2 (b o : Nat) (w : World) (K : Value → World → Prop) : wFieldA P T_ref05_Entry (.pointer (some ⟨b, o, none⟩)) 2 w K = K (.pointer (some ⟨b, o + 2, none⟩)) w := fieldA_i f_T_ref05_Entry_2
theorem f_T_ref05_Entry_3 : fldT P T_ref05_Entry 3 = some 3 := by kernel_rfl
theorem fA_T_ref05_Entry_3 (b o : Nat) (w : World) (K : Value → World → Prop) : wFieldA P T_ref05_Entry (.pointer (some ⟨b, o, none⟩)) 3 w K = K (.pointer (some ⟨b, o + 3, none⟩)) w := fieldA_i f_T_ref05_Entry_3
theorem f_T_ref11_Item_0 : fldT P T_ref11_Item 0 = some 0 := by kernel_rfl
theorem fA_T_ref11_Item_0 (b o : Nat) (w : World) (K : Value → World → Prop) : wFieldA P T_ref11_Item (.pointer (some ⟨b, o, none⟩)) 0 w K = K (.pointer (some ⟨b, o, none⟩)) w := fieldA_i f_T_ref11_Item_0
theorem f_T_ref11_Item_1 : fldT P T_ref11_Item 1 = some 4 := by kernel_rfl
theorem fA_T_ref11_Item_1 (b o : Nat) (w : World) (K : Value → World → Prop) : wFieldA P T_ref11_Item (.pointer (some ⟨b, o, none⟩)) 1 w K = K (.pointer (some ⟨b, o + 4, none⟩)) w := fieldA_i f_T_ref11_Item_1
theorem f_T_slog_Batch_0 : fldT P T_slog_Batch 0 = some 0 := by kernel_rfl
theorem fA_T_slog_Batch_0 (b o : Nat) (w : World) (K : Value → World → Prop) : wFieldA P T_slog_Batch (.pointer (some ⟨b, o, none⟩)) 0 w K = K (.pointer (some ⟨b, o, none⟩)) w := fieldA_i f_T_slog_Batch_0
theorem f_T_slog_Batch_1 : fldT P T_slog_Batch 1 = some 1 := by kernel_rfl
theorem fA_T_slog_Batch_1 (b o : Nat) (w : World) (K : Value → World → Prop) : wFieldA P T_slog_Batch (.pointer (some ⟨b, o, none⟩)) 1 w K = K (.pointer (some ⟨b, o + 1, none⟩)) w := fieldA_i f_T_slog_Batch_1
theorem f_T_slog_Batch_2 : fldT P T_slog_Batch 2 = some 2 := by kernel_rfl
theorem fA_T_slog_Batch_2 (b o : Nat) (w : World) (K : Value → World → Prop) : wFieldA P T_slog_Batch (.pointer (some ⟨b, o, none⟩)) 2 w K = K (.pointer (some ⟨b, o + 2, none⟩)) w := fieldA_i f_T_slog_Batch_2
theorem f_T_slog_Batch_3 : fldT P T_slog_Batch 3 = some 3 := by kernel_rfl
theorem fA_T_slog_Batch_3 (b o : Nat) (w : World) (K : Value → World → Prop) : wFieldA P T_slog_Batch (.pointer (some ⟨b, o, none⟩)) 3 w K = K (.pointer (some ⟨b, o + 3, none⟩)) w := fieldA_i f_T_slog_Batch_3
theorem f_T_law11_Step_0 : fldT P T_law11_Step 0 = some 0 := by kernel_rfl
theorem fA_T_law11_Step_0 (b o : Nat) (w : World) (K : Value → World → Prop) : wFieldA P T_law11_Step (.pointer (some ⟨b, o, none⟩)) 0 w K = K (.pointer (some ⟨b, o, none⟩)) w := fieldA_i f_T_law11_Step_0
theorem f_T_law11_Step_1 : fldT P T_law11_Step 1 = some 1 := by kernel_rfl
theorem fA_T_law11_Step_1 (b o : Nat) (w : World) (K : Value → World → Prop) : wFieldA P T_law11_Step (.pointer (some ⟨b, o, none⟩)) 1 w K = K (.pointer (some ⟨b, o + 1, none⟩)) w := fieldA_i f_T_law11_Step_1
theorem f_T_law11_Step_2 : fldT P T_law11_Step 2 = some 2 := by kernel_rfl
theorem fA_T_law11_Step_2 (b o : Nat) (w : World) (K : Value → World → Prop) : wFieldA P T_law11_Step (.pointer (some ⟨b, o, none⟩)) 2 w K = K (.pointer (some ⟨b, o + 2, none⟩)) w := fieldA_i f_T_law11_Step_2
theorem f_T_law11_Step_3 : fldT P T_law11_Step 3 = some 3 := by kernel_rfl
theorem fA_T_law11_Step_3 (b o : Nat) (w : World) (K : Value → World → Prop) : wFieldA P T_law11_Step (.pointer (some ⟨b, o, none⟩)) 3 w K = K (.pointer (some ⟨b, o + 3, none⟩)) w := fieldA_i f_T_law11_Step_3
theorem f_T_law11_Step_4 : fldT P T_law11_Step 4 = some 4 := by kernel_rfl
theorem fA_T_law11_Step_4 (b o : Nat) (w : World) (K : Value → World → Prop) : wFieldA P T_law11_Step (.pointer (some ⟨b, o, none⟩)) 4 w K = K (.pointer (some ⟨b, o + 4, none⟩)) w := fieldA_i f_T_law11_Step_4
theorem f_T_codec_Entry_0 : fldT P T_codec_Entry 0 = some 0 := by kernel_rfl
theorem fA_T_codec_Entry_0 (b o : Nat) (w : World) (K : Value → World → Prop) : wFieldA P T_codec_Entry (.pointer (some ⟨b, o, none⟩)) 0 w K = K (.pointer (some ⟨b, o, none⟩)) w := fieldA_i f_T_codec_Entry_0
theorem f_T_codec_Entry_1 : fldT P T_codec_Entry 1 = some 1 := by kernel_rfl
theorem fA_T_codec_Entry_1 (b o : Nat) (w : World) (K : Value → World → Prop) : wFieldA P T_codec_Entry (.pointer (some ⟨b, o, none⟩)) 1 w K = K (.pointer (some ⟨b, o + 1, none⟩)) w := fieldA_i f_T_codec_Entry_1
theorem f_T_codec_Entry_2 : fldT P T_codec_Entry 2 = some 2 := by kernel_rfl
theorem fA_T_codec_Entry_2 (b o : Nat) (w : World) (K : Value → World → Prop) : wFieldA P T_codec_Entry (.pointer (some ⟨b, o, none⟩)) 2 w K = K (.pointer (some ⟨b, o + 2, none⟩)) w := fieldA_i f_T_codec_Entry_2
theorem f_T_codec_Entry_3 : fldT P T_codec_Entry 3 = some 3 := by kernel_rfl
theorem fA_T_codec_Entry_3 (b o : Nat) (w : World) (K : Value → World → Prop) : wFieldA P T_codec_Entry (.pointer (some ⟨b, o, none⟩)) 3 w K = K (.pointer (some ⟨b, o + 3, none⟩)) w := fieldA_i f_T_codec_Entry_3
theorem f_T_slog_Found_0 : fldT P T_slog_Found 0 = some 0 := by kernel_rfl
theorem fA_T_slog_Found_0 (b o : Nat) (w : World) (K : Value → World → Prop) : wFieldA P T_slog_Found (.pointer (some ⟨b, o, none⟩)) 0 w K = K (.pointer (some ⟨b, o, none⟩)) w := fieldA_i f_T_slog_Found_0
theorem f_T_slog_Found_1 : fldT P T_slog_Found 1 = some 4 := by kernel_rfl
theorem fA_T_slog_Found_1 (b o : Nat) (w : World) (K : Value → World → Prop) : wFieldA P T_slog_Found (.pointer (some ⟨b, o, none⟩)) 1 w K = K (.pointer (some ⟨b, o + 4, none⟩)) w := fieldA_i f_T_slog_Found_1
theorem f_T_disk_state_0 : fldT P T_disk_state 0 = some 0 := by kernel_rfl
theorem fA_T_disk_state_0 (b o : Nat) (w : World) (K : Value → World → Prop) : wFieldA P T_disk_state (.pointer (some ⟨b, o, none⟩)) 0 w K = K (.pointer (some ⟨b, o, none⟩)) w := fieldA_i f_T_disk_state_0
theorem f_T_disk_state_1 : fldT P T_disk_state 1 = some 1 := by kernel_rfl
theorem fA_T_disk_state_1 (b o : Nat) (w : World) (K : Value → World → Prop) : wFieldA P T_disk_state (.pointer (some ⟨b, o, none⟩)) 1 w K = K (.pointer (some ⟨b, o + 1, none⟩)) w := fieldA_i f_T_disk_state_1
theorem f_T_disk_Disk_0 : fldT P T_disk_Disk 0 = some 0 := by kernel_rfl
theorem fA_T_disk_Disk_0 (b o : Nat) (w : World) (K : Value → World → Prop) : wFieldA P T_disk_Disk (.pointer (some ⟨b, o, none⟩)) 0 w K = K (.pointer (some ⟨b, o, none⟩)) w := fieldA_i f_T_disk_Disk_0
theorem f_T_disk_Disk_1 : fldT P T_disk_Disk 1 = some 2 := by kernel_rfl
theorem fA_T_disk_Disk_1 (b o : Nat) (w : World) (K : Value → World → Prop) : wFieldA P T_disk_Disk (.pointer (some ⟨b, o, none⟩)) 1 w K = K (.pointer (some ⟨b, o + 2, none⟩)) w := fieldA_i f_T_disk_Disk_1
theorem f_T_disk_Disk_2 : fldT P T_disk_Disk 2 = some 3 := by kernel_rfl
theorem fA_T_disk_Disk_2 (b o : Nat) (w : World) (K : Value → World → Prop) : wFieldA P T_disk_Disk (.pointer (some ⟨b, o, none⟩)) 2 w K = K (.pointer (some ⟨b, o + 3, none⟩)) w := fieldA_i f_T_disk_Disk_2
theorem f_T_disk_Disk_3 : fldT P T_disk_Disk 3 = some 4 := by kernel_rfl
theorem fA_T_disk_Disk_3 (b o : Nat) (w : World) (K : Value → World → Prop) : wFieldA P T_disk_Disk (.pointer (some ⟨b, o, none⟩)) 3 w K = K (.pointer (some ⟨b, o + 4, none⟩)) w := fieldA_i f_T_disk_Disk_3
theorem f_T_disk_write_0 : fldT P T_disk_write 0 = some 0 := by kernel_rfl
theorem fA_T_disk_write_0 (b o : Nat) (w : World) (K : Value → World → Prop) : wFieldA P T_disk_write (.pointer (some ⟨b, o, none⟩)) 0 w K = K (.pointer (some ⟨b, o, none⟩)) w := fieldA_i f_T_disk_write_0
theorem f_T_disk_write_1 : fldT P T_disk_write 1 = some 1 := by kernel_rfl
theorem fA_T_disk_write_1 (b o : Nat) (w : World) (K : Value → World → Prop) : wFieldA P T_disk_write (.pointer (some ⟨b, o, none⟩)) 1 w K = K (.pointer (some ⟨b, o + 1, none⟩)) w := fieldA_i f_T_disk_write_1
theorem f_T_imap_Map_0 : fldT P T_imap_Map 0 = some 0 := by kernel_rfl
theorem fA_T_imap_Map_0 (b o : Nat) (w : World) (K : Value → World → Prop) : wFieldA P T_imap_Map (.pointer (some ⟨b, o, none⟩)) 0 w K = K (.pointer (some ⟨b, o, none⟩)) w := fieldA_i f_T_imap_Map_0
theorem f_T_usage_Table_0 : fldT P T_usage_Table 0 = some 0 := by kernel_rfl
theorem fA_T_usage_Table_0 (b o : Nat) (w : World) (K : Value → World → Prop) : wFieldA P T_usage_Table (.pointer (some ⟨b, o, none⟩)) 0 w K = K (.pointer (some ⟨b, o, none⟩)) w := fieldA_i f_T_usage_Table_0
theorem f_T_usage_Table_1 : fldT P T_usage_Table 1 = some 1 := by kernel_rfl
theorem fA_T_usage_Table_1 (b o : Nat) (w : World) (K : Value → World → Prop) : wFieldA P T_usage_Table (.pointer (some ⟨b, o, none⟩)) 1 w K = K (.pointer (some ⟨b, o + 1, none⟩)) w := fieldA_i f_T_usage_Table_1
theorem f_T_num_Writer_0 : fldT P T_num_Writer 0 = some 0 := by kernel_rfl
theorem fA_T_num_Writer_0 (b o : Nat) (w : World) (K : Value → World → Prop) : wFieldA P T_num_Writer (.pointer (some ⟨b, o, none⟩)) 0 w K = K (.pointer (some ⟨b, o, none⟩)) w := fieldA_i f_T_num_Writer_0
theorem f_T_num_Writer_1 : fldT P T_num_Writer 1 = some 128 := by kernel_rfl
theorem fA_T_num_Writer_1 (b o : Nat) (w : World) (K : Value → World → Prop) : wFieldA P T_num_Writer (.pointer (some ⟨b, o, none⟩)) 1 w K = K (.pointer (some ⟨b, o + 128, none⟩)) w := fieldA_i f_T_num_Writer_1
theorem f_T_num_Writer_2 : fldT P T_num_Writer 2 = some 129 := by kernel_rfl
theorem fA_T_num_Writer_2 (b o : Nat) (w : World) (K : Value → World → Prop) : wFieldA P T_num_Writer (.pointer (some ⟨b, o, none⟩)) 2 w K = K (.pointer (some ⟨b, o + 129, none⟩)) w := fieldA_i f_T_num_Writer_2
theorem f_T_ref05_Field_0 : fldT P T_ref05_Field 0 = some 0 := by kernel_rfl
theorem fA_T_ref05_Field_0 (b o : Nat) (w : World) (K : Value → World → Prop) : wFieldA P T_ref05_Field (.pointer (some ⟨b, o, none⟩)) 0 w K = K (.pointer (some ⟨b, o, none⟩)) w := fieldA_i f_T_ref05_Field_0
theorem f_T_ref05_Field_1 : fldT P T_ref05_Field 1 = some 1 := by kernel_rfl
theorem fA_T_ref05_Field_1 (b o : Nat) (w : World) (K : Value → World → Prop) : wFieldA P T_ref05_Field (.pointer (some ⟨b, o, none⟩)) 1 w K = K (.pointer (some ⟨b, o + 1, none⟩)) w := fieldA_i f_T_ref05_Field_1
theorem f_T_slog_Item_0 : fldT P T_slog_Item 0 = some 0 := by kernel_rfl
theorem fA_T_slog_Item_0 (b o : Nat) (w : World) (K : Value → World → Prop) : wFieldA P T_slog_Item (.pointer (some ⟨b, o, none⟩)) 0 w K = K (.pointer (some ⟨b, o, none⟩)) w := fieldA_i f_T_slog_Item_0
theorem f_T_slog_Item_1 : fldT P T_slog_Item 1 = some 4 := by kernel_rfl
theorem fA_T_slog_Item_1 (b o : Nat) (w : World) (K : Value → World → Prop) : wFieldA P T_slog_Item (.pointer (some ⟨b, o, none⟩)) 1 w K = K (.pointer (some ⟨b, o + 4, none⟩)) w := fieldA_i f_T_slog_Item_1
theorem f_T_slog_writer_0 : fldT P T_slog_writer 0 = some 0 := by kernel_rfl
theorem fA_T_slog_writer_0 (b o : Nat) (w : World) (K : Value → World → Prop) : wFieldA P T_slog_writer (.pointer (some ⟨b, o, none⟩)) 0 w K = K (.pointer (some ⟨b, o, none⟩)) w := fieldA_i f_T_slog_writer_0
theorem f_T_slog_writer_1 : fldT P T_slog_writer 1 = some 1 := by kernel_rfl
theorem fA_T_slog_writer_1 (b o : Nat) (w : World) (K : Value → World → Prop) : wFieldA P T_slog_writer (.pointer (some ⟨b, o, none⟩)) 1 w K = K (.pointer (some ⟨b, o + 1, none⟩)) w := fieldA_i f_T_slog_writer_1
theorem f_T_slog_group_0 : fldT P T_slog_group 0 = some 0 := by kernel_rfl
theorem fA_T_slog_group_0 (b o : Nat) (w : World) (K : Value → World → Prop) : wFieldA P T_slog_group (.pointer (some ⟨b, o, none⟩)) 0 w K = K (.pointer (some ⟨b, o, none⟩)) w := fieldA_i f_T_slog_group_0
theorem f_T_slog_group_1 : fldT P T_slog_group 1 = some 1 := by kernel_rfl
theorem fA_T_slog_group_1 (b o : Nat) (w : World) (K : Value → World → Prop) : wFieldA P T_slog_group (.pointer (some ⟨b, o, none⟩)) 1 w K = K (.pointer (some ⟨b, o + 1, none⟩)) w := fieldA_i f_T_slog_group_1
theorem f_T_slog_group_2 : fldT P T_slog_group 2 = some 129 := by kernel_rfl
theorem fA_T_slog_group_2 (b o : Nat) (w : World) (K : Value → World → Prop) : wFieldA P T_slog_group (.pointer (some ⟨b, o, none⟩)) 2 w K = K (.pointer (some ⟨b, o + 129, none⟩)) w := fieldA_i f_T_slog_group_2
theorem f_T_slog_group_3 : fldT P T_slog_group 3 = some 130 := by kernel_rfl
theorem fA_T_slog_group_3 (b o : Nat) (w : World) (K : Value → World → Prop) : wFieldA P T_slog_group (.pointer (some ⟨b, o, none⟩)) 3 w K = K (.pointer (some ⟨b, o + 130, none⟩)) w := fieldA_i f_T_slog_group_3
theorem f_T_codec_writer_0 : fldT P T_codec_writer 0 = some 0 := by kernel_rfl
theorem fA_T_codec_writer_0 (b o : Nat) (w : World) (K : Value → World → Prop) : wFieldA P T_codec_writer (.pointer (some ⟨b, o, none⟩)) 0 w K = K (.pointer (some ⟨b, o, none⟩)) w := fieldA_i f_T_codec_writer_0
theorem f_T_codec_writer_1 : fldT P T_codec_writer 1 = some 1 := by kernel_rfl
theorem fA_T_codec_writer_1 (b o : Nat) (w : World) (K : Value → World → Prop) : wFieldA P T_codec_writer (.pointer (some ⟨b, o, none⟩)) 1 w K = K (.pointer (some ⟨b, o + 1, none⟩)) w := fieldA_i f_T_codec_writer_1
theorem f_T_codec_reader_0 : fldT P T_codec_reader 0 = some 0 := by kernel_rfl
theorem fA_T_codec_reader_0 (b o : Nat) (w : World) (K : Value → World → Prop) : wFieldA P T_codec_reader (.pointer (some ⟨b, o, none⟩)) 0 w K = K (.pointer (some ⟨b, o, none⟩)) w := fieldA_i f_T_codec_reader_0
theorem f_T_codec_reader_1 : fldT P T_codec_reader 1 = some 1 := by kernel_rfl
theorem fA_T_codec_reader_1 (b o : Nat) (w : World) (K : Value → World → Prop) : wFieldA P T_codec_reader (.pointer (some ⟨b, o, none⟩)) 1 w K = K (.pointer (some ⟨b, o + 1, none⟩)) w := fieldA_i f_T_codec_reader_1
theorem f_T_codec_reader_2 : fldT P T_codec_reader 2 = some 2 := by kernel_rfl
theorem fA_T_codec_reader_2 (b o : Nat) (w : World) (K : Value → World → Prop) : wFieldA P T_codec_reader (.pointer (some ⟨b, o, none⟩)) 2 w K = K (.pointer (some ⟨b, o + 2, none⟩)) w := fieldA_i f_T_codec_reader_2
theorem f_T_num_Reader_0 : fldT P T_num_Reader 0 = some 0 := by kernel_rfl
theorem fA_T_num_Reader_0 (b o : Nat) (w : World) (K : Value → World → Prop) : wFieldA P T_num_Reader (.pointer (some ⟨b, o, none⟩)) 0 w K = K (.pointer (some ⟨b, o, none⟩)) w := fieldA_i f_T_num_Reader_0
theorem f_T_num_Reader_1 : fldT P T_num_Reader 1 = some 128 := by kernel_rfl
theorem fA_T_num_Reader_1 (b o : Nat) (w : World) (K : Value → World → Prop) : wFieldA P T_num_Reader (.pointer (some ⟨b, o, none⟩)) 1 w K = K (.pointer (some ⟨b, o + 128, none⟩)) w := fieldA_i f_T_num_Reader_1
theorem f_T_num_Reader_2 : fldT P T_num_Reader 2 = some 129 := by kernel_rfl
theorem fA_T_num_Reader_2 (b o : Nat) (w : World) (K : Value → World → Prop) : wFieldA P T_num_Reader (.pointer (some ⟨b, o, none⟩)) 2 w K = K (.pointer (some ⟨b, o + 129, none⟩)) w := fieldA_i f_T_num_Reader_2
theorem bl_T_ref03_Disk {ps : List (Nat × Value)} {cs : List Value} {w : World} {K : Value → World → Prop} (hf : Instr.fill ((#[(0, 1), (1, 1), (2, 1), (3, 1), (4, 1)] : Array (Nat × Nat))[·]?) ⟨[.slice none 0 0, .slice none 0 0, .bool false, .int .i64 0, .int .i64 0]⟩ ps = some ⟨cs⟩) : wBuild P T_ref03_Disk ps w K = K (.agg ⟨cs⟩) w :=
  build_s (places := #[(0, 1), (1, 1), (2, 1), (3, 1), (4, 1)]) (show P.underlying T_ref03_Disk = some (.struct (P.fieldsOf T_ref03_Disk)) by kernel_rfl) z_T_ref03_Disk (fun _ => by kernel_rfl) hf
theorem bl_T_A128uint8 {ps : List (Nat × Value)} {cs : List Value} {w : World} {K : Value → World → Prop} (hf : Instr.fill (fun i => some (i * 1, 1)) ⟨List.replicate 128 (.int .u8 0)⟩ ps = some ⟨cs⟩) : wBuild P T_A128uint8 ps w K = K (.agg ⟨cs⟩) w :=
  build_a v_T_A128uint8 z_T_A128uint8 (sizeOf_one o_T_uint8) hf
theorem bl_T_ref03_Write {ps : List (Nat × Value)} {cs : List Value} {w : World} {K : Value → World → Prop} (hf : Instr.fill ((#[(0, 1), (1, 128)] : Array (Nat × Nat))[·]?) ⟨[.int .i64 0] ++ List.replicate 128 (.int .u8 0)⟩ ps = some ⟨cs⟩) : wBuild P T_ref03_Write ps w K = K (.agg ⟨cs⟩) w :=
  build_s (places := #[(0, 1), (1, 128)]) (show P.underlying T_ref03_Write = some (.struct (P.fieldsOf T_ref03_Write)) by kernel_rfl) z_T_ref03_Write (fun _ => by kernel_rfl) hf
theorem bl_T_ref05_Use {ps : List (Nat × Value)} {cs : List Value} {w : World} {K : Value → World → Prop} (hf : Instr.fill ((#[(0, 1), (1, 1), (2, 1)] : Array (Nat × Nat))[·]?) ⟨[.int .i64 0, .int .i64 0, .int .u32 0]⟩ ps = some ⟨cs⟩) : wBuild P T_ref05_Use ps w K = K (.agg ⟨cs⟩) w :=
  build_s (places := #[(0, 1), (1, 1), (2, 1)]) (show P.underlying T_ref05_Use = some (.struct (P.fieldsOf T_ref05_Use)) by kernel_rfl) z_T_ref05_Use (fun _ => by kernel_rfl) hf
theorem bl_T_codec_Use {ps : List (Nat × Value)} {cs : List Value} {w : World} {K : Value → World → Prop} (hf : Instr.fill ((#[(0, 1), (1, 1), (2, 1)] : Array (Nat × Nat))[·]?) ⟨[.int .i64 0, .int .i64 0, .int .u32 0]⟩ ps = some ⟨cs⟩) : wBuild P T_codec_Use ps w K = K (.agg ⟨cs⟩) w :=
  build_s (places := #[(0, 1), (1, 1), (2, 1)]) (show P.underlying T_codec_Use = some (.struct (P.fieldsOf T_codec_Use)) by kernel_rfl) z_T_codec_Use (fun _ => by kernel_rfl) hf
theorem bl_T_ref05_Slot {ps : List (Nat × Value)} {cs : List Value} {w : World} {K : Value → World → Prop} (hf : Instr.fill ((#[(0, 1), (1, 1), (2, 1), (3, 1)] : Array (Nat × Nat))[·]?) ⟨[.int .i64 0, .int .u32 0, .int .i64 0, .int .i64 0]⟩ ps = some ⟨cs⟩) : wBuild P T_ref05_Slot ps w K = K (.agg ⟨cs⟩) w :=
  build_s (places := #[(0, 1), (1, 1), (2, 1), (3, 1)]) (show P.underlying T_ref05_Slot = some (.struct (P.fieldsOf T_ref05_Slot)) by kernel_rfl) z_T_ref05_Slot (fun _ => by kernel_rfl) hf
theorem bl_T_codec_Slot {ps : List (Nat × Value)} {cs : List Value} {w : World} {K : Value → World → Prop} (hf : Instr.fill ((#[(0, 1), (1, 1), (2, 1), (3, 1)] : Array (Nat × Nat))[·]?) ⟨[.int .i64 0, .int .u32 0, .int .i64 0, .int .i64 0]⟩ ps = some ⟨cs⟩) : wBuild P T_codec_Slot ps w K = K (.agg ⟨cs⟩) w :=
  build_s (places := #[(0, 1), (1, 1), (2, 1), (3, 1)]) (show P.underlying T_codec_Slot = some (.struct (P.fieldsOf T_codec_Slot)) by kernel_rfl) z_T_codec_Slot (fun _ => by kernel_rfl) hf
theorem bl_T_api_Sector {ps : List (Nat × Value)} {cs : List Value} {w : World} {K : Value → World → Prop} (hf : Instr.fill (fun i => some (i * 1, 1)) ⟨List.replicate 128 (.int .u8 0)⟩ ps = some ⟨cs⟩) : wBuild P T_api_Sector ps w K = K (.agg ⟨cs⟩) w :=
  build_a v_T_api_Sector z_T_api_Sector (sizeOf_one o_T_uint8) hf
theorem bl_T_ref05_Inode {ps : List (Nat × Value)} {cs : List Value} {w : World} {K : Value → World → Prop} (hf : Instr.fill ((#[(0, 1), (1, 1), (2, 1), (3, 1), (4, 1), (5, 8), (13, 1), (14, 1)] : Array (Nat × Nat))[·]?) ⟨[.int .u32 0, .int .u32 0, .int .i64 0, .int .i64 0, .int .u32 0] ++ List.replicate 10 (.int .i64 0)⟩ ps = some ⟨cs⟩) : wBuild P T_ref05_Inode ps w K = K (.agg ⟨cs⟩) w :=
  build_s (places := #[(0, 1), (1, 1), (2, 1), (3, 1), (4, 1), (5, 8), (13, 1), (14, 1)]) (show P.underlying T_ref05_Inode = some (.struct (P.fieldsOf T_ref05_Inode)) by kernel_rfl) z_T_ref05_Inode (fun _ => by kernel_rfl) hf
theorem bl_T_codec_Inode {ps : List (Nat × Value)} {cs : List Value} {w : World} {K : Value → World → Prop} (hf : Instr.fill ((#[(0, 1), (1, 1), (2, 1), (3, 1), (4, 1), (5, 8), (13, 1), (14, 1)] : Array (Nat × Nat))[·]?) ⟨[.int .u32 0, .int .u32 0, .int .i64 0, .int .i64 0, .int .u32 0] ++ List.replicate 10 (.int .i64 0)⟩ ps = some ⟨cs⟩) : wBuild P T_codec_Inode ps w K = K (.agg ⟨cs⟩) w :=
  build_s (places := #[(0, 1), (1, 1), (2, 1), (3, 1), (4, 1), (5, 8), (13, 1), (14, 1)]) (show P.underlying T_codec_Inode = some (.struct (P.fieldsOf T_codec_Inode)) by kernel_rfl) z_T_codec_Inode (fun _ => by kernel_rfl) hf
theorem bl_T_ref05_Header {ps : List (Nat × Value)} {cs : List Value} {w : World} {K : Value → World → Prop} (hf : Instr.fill ((#[(0, 1), (1, 1), (2, 1), (3, 1), (4, 1), (5, 1)] : Array (Nat × Nat))[·]?) ⟨[.int .u64 0, .int .u64 0, .int .i64 0, .int .i64 0, .int .i64 0, .int .u32 0]⟩ ps = some ⟨cs⟩) : wBuild P T_ref05_Header ps w K = K (.agg ⟨cs⟩) w :=
  build_s (places := #[(0, 1), (1, 1), (2, 1), (3, 1), (4, 1), (5, 1)]) (show P.underlying T_ref05_Header = some (.struct (P.fieldsOf T_ref05_Header)) by kernel_rfl) z_T_ref05_Header (fun _ => by kernel_rfl) hf
theorem bl_T_codec_Header {ps : List (Nat × Value)} {cs : List Value} {w : World} {K : Value → World → Prop} (hf : Instr.fill ((#[(0, 1), (1, 1), (2, 1), (3, 1), (4, 1), (5, 1)] : Array (Nat × Nat))[·]?) ⟨[.int .u64 0, .int .u64 0, .int .i64 0, .int .i64 0, .int .i64 0, .int .u32 0]⟩ ps = some ⟨cs⟩) : wBuild P T_codec_Header ps w K = K (.agg ⟨cs⟩) w :=
  build_s (places := #[(0, 1), (1, 1), (2, 1), (3, 1), (4, 1), (5, 1)]) (show P.underlying T_codec_Header = some (.struct (P.fieldsOf T_codec_Header)) by kernel_rfl) z_T_codec_Header (fun _ => by kernel_rfl) hf
theorem bl_T_A32int {ps : List (Nat × Value)} {cs : List Value} {w : World} {K : Value → World → Prop} (hf : Instr.fill (fun i => some (i * 1, 1)) ⟨List.replicate 32 (.int .i64 0)⟩ ps = some ⟨cs⟩) : wBuild P T_A32int ps w K = K (.agg ⟨cs⟩) w :=
  build_a v_T_A32int z_T_A32int (sizeOf_one o_T_int) hf
theorem bl_T_ref05_Record {ps : List (Nat × Value)} {cs : List Value} {w : World} {K : Value → World → Prop} (hf : Instr.fill ((#[(0, 1), (1, 1), (2, 1), (3, 1)] : Array (Nat × Nat))[·]?) ⟨[.int .u32 0, .int .u32 0, .int .i64 0, .int .i64 0]⟩ ps = some ⟨cs⟩) : wBuild P T_ref05_Record ps w K = K (.agg ⟨cs⟩) w :=
  build_s (places := #[(0, 1), (1, 1), (2, 1), (3, 1)]) (show P.underlying T_ref05_Record = some (.struct (P.fieldsOf T_ref05_Record)) by kernel_rfl) z_T_ref05_Record (fun _ => by kernel_rfl) hf
theorem bl_T_codec_Record {ps : List (Nat × Value)} {cs : List Value} {w : World} {K : Value → World → Prop} (hf : Instr.fill ((#[(0, 1), (1, 1), (2, 1), (3, 1)] : Array (Nat × Nat))[·]?) ⟨[.int .u32 0, .int .u32 0, .int .i64 0, .int .i64 0]⟩ ps = some ⟨cs⟩) : wBuild P T_codec_Record ps w K = K (.agg ⟨cs⟩) w :=
  build_s (places := #[(0, 1), (1, 1), (2, 1), (3, 1)]) (show P.underlying T_codec_Record = some (.struct (P.fieldsOf T_codec_Record)) by kernel_rfl) z_T_codec_Record (fun _ => by kernel_rfl) hf
theorem bl_T_ref05_Summary {ps : List (Nat × Value)} {cs : List Value} {w : World} {K : Value → World → Prop} (hf : Instr.fill ((#[(0, 1), (1, 1), (2, 1), (3, 1), (4, 1), (5, 1)] : Array (Nat × Nat))[·]?) ⟨[.int .u64 0, .int .u64 0, .bool false, .int .i64 0, .int .u32 0, .slice none 0 0]⟩ ps = some ⟨cs⟩) : wBuild P T_ref05_Summary ps w K = K (.agg ⟨cs⟩) w :=
  build_s (places := #[(0, 1), (1, 1), (2, 1), (3, 1), (4, 1), (5, 1)]) (show P.underlying T_ref05_Summary = some (.struct (P.fieldsOf T_ref05_Summary)) by kernel_rfl) z_T_ref05_Summary (fun _ => by kernel_rfl) hf
theorem bl_T_codec_Summary {ps : List (Nat × Value)} {cs : List Value} {w : World} {K : Value → World → Prop} (hf : Instr.fill ((#[(0, 1), (1, 1), (2, 1), (3, 1), (4, 1), (5, 1)] : Array (Nat × Nat))[·]?) ⟨[.int .u64 0, .int .u64 0, .bool false, .int .i64 0, .int .u32 0, .slice none 0 0]⟩ ps = some ⟨cs⟩) : wBuild P T_codec_Summary ps w K = K (.agg ⟨cs⟩) w :=
  build_s (places := #[(0, 1), (1, 1), (2, 1), (3, 1), (4, 1), (5, 1)]) (show P.underlying T_codec_Summary = some (.struct (P.fieldsOf T_codec_Summary)) by kernel_rfl) z_T_codec_Summary (fun _ => by kernel_rfl) hf
theorem bl_T_ref09_Table {ps : List (Nat × Value)} {cs : List Value} {w : World} {K : Value → World → Prop} (hf : Instr.fill ((#[(0, 1), (1, 1)] : Array (Nat × Nat))[·]?) ⟨[.int .i64 0, .slice none 0 0]⟩ ps = some ⟨cs⟩) : wBuild P T_ref09_Table ps w K = K (.agg ⟨cs⟩) w :=
  build_s (places := #[(0, 1), (1, 1)]) (show P.underlying T_ref09_Table = some (.struct (P.fieldsOf T_ref09_Table)) by kernel_rfl) z_T_ref09_Table (fun _ => by kernel_rfl) hf
theorem bl_T_ref04_Geom {ps : List (Nat × Value)} {cs : List Value} {w : World} {K : Value → World → Prop} (hf : Instr.fill ((#[(0, 1), (1, 1), (2, 1)] : Array (Nat × Nat))[·]?) ⟨[.int .i64 0, .int .i64 0, .int .i64 0]⟩ ps = some ⟨cs⟩) : wBuild P T_ref04_Geom ps w K = K (.agg ⟨cs⟩) w :=
  build_s (places := #[(0, 1), (1, 1), (2, 1)]) (show P.underlying T_ref04_Geom = some (.struct (P.fieldsOf T_ref04_Geom)) by kernel_rfl) z_T_ref04_Geom (fun _ => by kernel_rfl) hf
theorem bl_T_ref11_Place {ps : List (Nat × Value)} {cs : List Value} {w : World} {K : Value → World → Prop} (hf : Instr.fill ((#[(0, 1), (1, 1), (2, 1), (3, 1)] : Array (Nat × Nat))[·]?) ⟨[.int .i64 0, .int .i64 0, .int .i64 0, .int .u64 0]⟩ ps = some ⟨cs⟩) : wBuild P T_ref11_Place ps w K = K (.agg ⟨cs⟩) w :=
  build_s (places := #[(0, 1), (1, 1), (2, 1), (3, 1)]) (show P.underlying T_ref11_Place = some (.struct (P.fieldsOf T_ref11_Place)) by kernel_rfl) z_T_ref11_Place (fun _ => by kernel_rfl) hf
theorem bl_T_slog_Place {ps : List (Nat × Value)} {cs : List Value} {w : World} {K : Value → World → Prop} (hf : Instr.fill ((#[(0, 1), (1, 1), (2, 1), (3, 1)] : Array (Nat × Nat))[·]?) ⟨[.int .i64 0, .int .i64 0, .int .i64 0, .int .u64 0]⟩ ps = some ⟨cs⟩) : wBuild P T_slog_Place ps w K = K (.agg ⟨cs⟩) w :=
  build_s (places := #[(0, 1), (1, 1), (2, 1), (3, 1)]) (show P.underlying T_slog_Place = some (.struct (P.fieldsOf T_slog_Place)) by kernel_rfl) z_T_slog_Place (fun _ => by kernel_rfl) hf
theorem bl_T_slog_Layout {ps : List (Nat × Value)} {cs : List Value} {w : World} {K : Value → World → Prop} (hf : Instr.fill ((#[(0, 1), (1, 4), (5, 1)] : Array (Nat × Nat))[·]?) ⟨[.slice none 0 0, .int .i64 0, .int .i64 0, .int .i64 0, .int .u64 0, .int .i64 0]⟩ ps = some ⟨cs⟩) : wBuild P T_slog_Layout ps w K = K (.agg ⟨cs⟩) w :=
  build_s (places := #[(0, 1), (1, 4), (5, 1)]) (show P.underlying T_slog_Layout = some (.struct (P.fieldsOf T_slog_Layout)) by kernel_rfl) z_T_slog_Layout (fun _ => by kernel_rfl) hf
theorem bl_T_geom_Geom {ps : List (Nat × Value)} {cs : List Value} {w : World} {K : Value → World → Prop} (hf : Instr.fill ((#[(0, 1), (1, 1), (2, 1)] : Array (Nat × Nat))[·]?) ⟨[.int .i64 0, .int .i64 0, .int .i64 0]⟩ ps = some ⟨cs⟩) : wBuild P T_geom_Geom ps w K = K (.agg ⟨cs⟩) w :=
  build_s (places := #[(0, 1), (1, 1), (2, 1)]) (show P.underlying T_geom_Geom = some (.struct (P.fieldsOf T_geom_Geom)) by kernel_rfl) z_T_geom_Geom (fun _ => by kernel_rfl) hf
theorem bl_T_ref05_Entry {ps : List (Nat × Value)} {cs : List Value} {w : World} {K : Value → World → Prop} (hf : Instr.fill ((#[(0, 1), (1, 1), (2, 1), (3, 1)] : Array (Nat × Nat))[·]?) ⟨[.int .i64 0, .int .u32 0, .int .u32 0, .int .i64 0]⟩ ps = some ⟨cs⟩) : wBuild P T_ref05_Entry ps w K = K (.agg ⟨cs⟩) w :=
  build_s (places := #[(0, 1), (1, 1), (2, 1), (3, 1)]) (show P.underlying T_ref05_Entry = some (.struct (P.fieldsOf T_ref05_Entry)) by kernel_rfl) z_T_ref05_Entry (fun _ => by kernel_rfl) hf
theorem bl_T_ref11_Item {ps : List (Nat × Value)} {cs : List Value} {w : World} {K : Value → World → Prop} (hf : Instr.fill ((#[(0, 4), (4, 128)] : Array (Nat × Nat))[·]?) ⟨[.int .i64 0, .int .u32 0, .int .u32 0, .int .i64 0] ++ List.replicate 128 (.int .u8 0)⟩ ps = some ⟨cs⟩) : wBuild P T_ref11_Item ps w K = K (.agg ⟨cs⟩) w :=
  build_s (places := #[(0, 4), (4, 128)]) (show P.underlying T_ref11_Item = some (.struct (P.fieldsOf T_ref11_Item)) by kernel_rfl) z_T_ref11_Item (fun _ => by kernel_rfl) hf
theorem bl_T_slog_Batch {ps : List (Nat × Value)} {cs : List Value} {w : World} {K : Value → World → Prop} (hf : Instr.fill ((#[(0, 1), (1, 1), (2, 1), (3, 1)] : Array (Nat × Nat))[·]?) ⟨[.int .u64 0, .int .u32 0, .slice none 0 0, .slice none 0 0]⟩ ps = some ⟨cs⟩) : wBuild P T_slog_Batch ps w K = K (.agg ⟨cs⟩) w :=
  build_s (places := #[(0, 1), (1, 1), (2, 1), (3, 1)]) (show P.underlying T_slog_Batch = some (.struct (P.fieldsOf T_slog_Batch)) by kernel_rfl) z_T_slog_Batch (fun _ => by kernel_rfl) hf
theorem bl_T_codec_Entry {ps : List (Nat × Value)} {cs : List Value} {w : World} {K : Value → World → Prop} (hf : Instr.fill ((#[(0, 1), (1, 1), (2, 1), (3, 1)] : Array (Nat × Nat))[·]?) ⟨[.int .i64 0, .int .u32 0, .int .u32 0, .int .i64 0]⟩ ps = some ⟨cs⟩) : wBuild P T_codec_Entry ps w K = K (.agg ⟨cs⟩) w :=
  build_s (places := #[(0, 1), (1, 1), (2, 1), (3, 1)]) (show P.underlying T_codec_Entry = some (.struct (P.fieldsOf T_codec_Entry)) by kernel_rfl) z_T_codec_Entry (fun _ => by kernel_rfl) hf
theorem bl_T_slog_Found {ps : List (Nat × Value)} {cs : List Value} {w : World} {K : Value → World → Prop} (hf : Instr.fill ((#[(0, 4), (4, 1)] : Array (Nat × Nat))[·]?) ⟨[.int .i64 0, .int .u32 0, .int .u32 0, .int .i64 0, .int .i64 0]⟩ ps = some ⟨cs⟩) : wBuild P T_slog_Found ps w K = K (.agg ⟨cs⟩) w :=
  build_s (places := #[(0, 4), (4, 1)]) (show P.underlying T_slog_Found = some (.struct (P.fieldsOf T_slog_Found)) by kernel_rfl) z_T_slog_Found (fun _ => by kernel_rfl) hf
theorem bl_T_disk_state {ps : List (Nat × Value)} {cs : List Value} {w : World} {K : Value → World → Prop} (hf : Instr.fill ((#[(0, 1), (1, 1)] : Array (Nat × Nat))[·]?) ⟨[.bool false, .int .i64 0]⟩ ps = some ⟨cs⟩) : wBuild P T_disk_state ps w K = K (.agg ⟨cs⟩) w :=
  build_s (places := #[(0, 1), (1, 1)]) (show P.underlying T_disk_state = some (.struct (P.fieldsOf T_disk_state)) by kernel_rfl) z_T_disk_state (fun _ => by kernel_rfl) hf
theorem bl_T_disk_Disk {ps : List (Nat × Value)} {cs : List Value} {w : World} {K : Value → World → Prop} (hf : Instr.fill ((#[(0, 2), (2, 1), (3, 1), (4, 1)] : Array (Nat × Nat))[·]?) ⟨[.bool false, .int .i64 0, .slice none 0 0, .slice none 0 0, .int .i64 0]⟩ ps = some ⟨cs⟩) : wBuild P T_disk_Disk ps w K = K (.agg ⟨cs⟩) w :=
  build_s (places := #[(0, 2), (2, 1), (3, 1), (4, 1)]) (show P.underlying T_disk_Disk = some (.struct (P.fieldsOf T_disk_Disk)) by kernel_rfl) z_T_disk_Disk (fun _ => by kernel_rfl) hf
theorem bl_T_disk_write {ps : List (Nat × Value)} {cs : List Value} {w : World} {K : Value → World → Prop} (hf : Instr.fill ((#[(0, 1), (1, 128)] : Array (Nat × Nat))[·]?) ⟨[.int .i64 0] ++ List.replicate 128 (.int .u8 0)⟩ ps = some ⟨cs⟩) : wBuild P T_disk_write ps w K = K (.agg ⟨cs⟩) w :=
  build_s (places := #[(0, 1), (1, 128)]) (show P.underlying T_disk_write = some (.struct (P.fieldsOf T_disk_write)) by kernel_rfl) z_T_disk_write (fun _ => by kernel_rfl) hf
theorem bl_T_imap_Map {ps : List (Nat × Value)} {cs : List Value} {w : World} {K : Value → World → Prop} (hf : Instr.fill ((#[(0, 1)] : Array (Nat × Nat))[·]?) ⟨[.slice none 0 0]⟩ ps = some ⟨cs⟩) : wBuild P T_imap_Map ps w K = K (.agg ⟨cs⟩) w :=
  build_s (places := #[(0, 1)]) (show P.underlying T_imap_Map = some (.struct (P.fieldsOf T_imap_Map)) by kernel_rfl) z_T_imap_Map (fun _ => by kernel_rfl) hf
theorem bl_T_usage_Table {ps : List (Nat × Value)} {cs : List Value} {w : World} {K : Value → World → Prop} (hf : Instr.fill ((#[(0, 1), (1, 1)] : Array (Nat × Nat))[·]?) ⟨[.int .i64 0, .slice none 0 0]⟩ ps = some ⟨cs⟩) : wBuild P T_usage_Table ps w K = K (.agg ⟨cs⟩) w :=
  build_s (places := #[(0, 1), (1, 1)]) (show P.underlying T_usage_Table = some (.struct (P.fieldsOf T_usage_Table)) by kernel_rfl) z_T_usage_Table (fun _ => by kernel_rfl) hf
theorem bl_T_ref05_Field {ps : List (Nat × Value)} {cs : List Value} {w : World} {K : Value → World → Prop} (hf : Instr.fill ((#[(0, 1), (1, 1)] : Array (Nat × Nat))[·]?) ⟨[.int .i64 0, .int .i64 0]⟩ ps = some ⟨cs⟩) : wBuild P T_ref05_Field ps w K = K (.agg ⟨cs⟩) w :=
  build_s (places := #[(0, 1), (1, 1)]) (show P.underlying T_ref05_Field = some (.struct (P.fieldsOf T_ref05_Field)) by kernel_rfl) z_T_ref05_Field (fun _ => by kernel_rfl) hf
theorem bl_T_slog_Item {ps : List (Nat × Value)} {cs : List Value} {w : World} {K : Value → World → Prop} (hf : Instr.fill ((#[(0, 4), (4, 128)] : Array (Nat × Nat))[·]?) ⟨[.int .i64 0, .int .u32 0, .int .u32 0, .int .i64 0] ++ List.replicate 128 (.int .u8 0)⟩ ps = some ⟨cs⟩) : wBuild P T_slog_Item ps w K = K (.agg ⟨cs⟩) w :=
  build_s (places := #[(0, 4), (4, 128)]) (show P.underlying T_slog_Item = some (.struct (P.fieldsOf T_slog_Item)) by kernel_rfl) z_T_slog_Item (fun _ => by kernel_rfl) hf
theorem bl_T_slog_writer {ps : List (Nat × Value)} {cs : List Value} {w : World} {K : Value → World → Prop} (hf : Instr.fill ((#[(0, 1), (1, 1)] : Array (Nat × Nat))[·]?) ⟨[.pointer none, .int .i64 0]⟩ ps = some ⟨cs⟩) : wBuild P T_slog_writer ps w K = K (.agg ⟨cs⟩) w :=
  build_s (places := #[(0, 1), (1, 1)]) (show P.underlying T_slog_writer = some (.struct (P.fieldsOf T_slog_writer)) by kernel_rfl) z_T_slog_writer (fun _ => by kernel_rfl) hf
theorem bl_T_slog_group {ps : List (Nat × Value)} {cs : List Value} {w : World} {K : Value → World → Prop} (hf : Instr.fill ((#[(0, 1), (1, 128), (129, 1), (130, 1)] : Array (Nat × Nat))[·]?) ⟨[.int .i64 0] ++ List.replicate 128 (.int .u8 0) ++ [.slice none 0 0, .slice none 0 0]⟩ ps = some ⟨cs⟩) : wBuild P T_slog_group ps w K = K (.agg ⟨cs⟩) w :=
  build_s (places := #[(0, 1), (1, 128), (129, 1), (130, 1)]) (show P.underlying T_slog_group = some (.struct (P.fieldsOf T_slog_group)) by kernel_rfl) z_T_slog_group (fun _ => by kernel_rfl) hf
theorem bl_T_codec_writer {ps : List (Nat × Value)} {cs : List Value} {w : World} {K : Value → World → Prop} (hf : Instr.fill ((#[(0, 1), (1, 1)] : Array (Nat × Nat))[·]?) ⟨[.slice none 0 0, .bool false]⟩ ps = some ⟨cs⟩) : wBuild P T_codec_writer ps w K = K (.agg ⟨cs⟩) w :=
  build_s (places := #[(0, 1), (1, 1)]) (show P.underlying T_codec_writer = some (.struct (P.fieldsOf T_codec_writer)) by kernel_rfl) z_T_codec_writer (fun _ => by kernel_rfl) hf
theorem bl_T_codec_reader {ps : List (Nat × Value)} {cs : List Value} {w : World} {K : Value → World → Prop} (hf : Instr.fill ((#[(0, 1), (1, 1), (2, 1)] : Array (Nat × Nat))[·]?) ⟨[.slice none 0 0, .int .i64 0, .bool false]⟩ ps = some ⟨cs⟩) : wBuild P T_codec_reader ps w K = K (.agg ⟨cs⟩) w :=
  build_s (places := #[(0, 1), (1, 1), (2, 1)]) (show P.underlying T_codec_reader = some (.struct (P.fieldsOf T_codec_reader)) by kernel_rfl) z_T_codec_reader (fun _ => by kernel_rfl) hf
theorem bl_T_num_Reader {ps : List (Nat × Value)} {cs : List Value} {w : World} {K : Value → World → Prop} (hf : Instr.fill ((#[(0, 128), (128, 1), (129, 1)] : Array (Nat × Nat))[·]?) ⟨List.replicate 128 (.int .u8 0) ++ [.int .i64 0, .int .i64 0]⟩ ps = some ⟨cs⟩) : wBuild P T_num_Reader ps w K = K (.agg ⟨cs⟩) w :=
  build_s (places := #[(0, 128), (128, 1), (129, 1)]) (show P.underlying T_num_Reader = some (.struct (P.fieldsOf T_num_Reader)) by kernel_rfl) z_T_num_Reader (fun _ => by kernel_rfl) hf
theorem bl_T_ref04_Part {ps : List (Nat × Value)} {cs : List Value} {w : World} {K : Value → World → Prop} (hf : Instr.fill ((#[(0, 1), (1, 1), (2, 1), (3, 1), (4, 1), (5, 1)] : Array (Nat × Nat))[·]?) ⟨[.int .i64 0, .int .i64 0, .int .i64 0, .int .i64 0, .int .i64 0, .int .i64 0]⟩ ps = some ⟨cs⟩) : wBuild P T_ref04_Part ps w K = K (.agg ⟨cs⟩) w :=
  build_s (places := #[(0, 1), (1, 1), (2, 1), (3, 1), (4, 1), (5, 1)]) (show P.underlying T_ref04_Part = some (.struct (P.fieldsOf T_ref04_Part)) by kernel_rfl) z_T_ref04_Part (fun _ => by kernel_rfl) hf
end Go.Dn
end
section
/-! Texts of functions, printed by mkg.py. -/
set_option maxRecDepth 100000
set_option linter.unusedVariables false
namespace Go.Dn
open Go Go.Proofs
def F_usage_New (a0 a1 : Value) (w : World) (k : Value → World → Prop) : Prop :=
  wCall P n_usage_among [a1, (.int .i64 1), (.int .i64 4096)] w fun t6 w =>
  wCall P n_usage_among [a0, (.int .i64 1), (.int .i64 200)] w fun t8 w =>
  wMake P T_Lcodec_Use t8 t8 w fun t9 w =>
  wBuild P T_usage_Table [(0, t6), (1, t9)] w fun t10 w =>
  wBox P T_usage_Table t10 w fun t11 w =>
  k t11 w

theorem call_usage_New (a0 a1 : Value) {w : World} {k : Value → World → Prop} (h : F_usage_New a0 a1 w k) : wCall P n_usage_New [a0, a1] w k :=
  call_of_den mixedP Try.func35 (by kernel_rfl) .z (by kernel_rfl) (Eq.mp (by kernel_rfl) h)

def F_usage_Table_Count (a0 a1 a2 : Value) (w : World) (k : Value → World → Prop) : Prop :=
  wDraw w fun w =>
  wCall P n_usage_Table_has [a0, a1] w fun t9 w =>
  wUn P .not t9 w fun t10 w =>
  wGrp t10 false (fun k26 =>
    wNil P a0 w fun t14 w =>
    wFieldA P T_usage_Table t14 0 w fun t15 w =>
    wLoad P T_int t15 w fun t16 w =>
    wNil P a0 w fun t18 w =>
    wFieldA P T_usage_Table t18 1 w fun t19 w =>
    wLoad P T_Lcodec_Use t19 w fun t20 w =>
    wIndexA P T_Lcodec_Use t20 a1 w fun t22 w =>
    wFieldA P T_codec_Use t22 0 w fun t23 w =>
    wLoad P T_int t23 w fun t24 w =>
    wBin P .sub T_int t16 t24 w fun t25 w =>
    wBin P .gtr T_int a2 t25 w fun t26 w =>
    k26 t26 w) w fun _ t26 w =>
  wPick t10 (.bool true) t26 w fun t27 w =>
  wGrp t27 false (fun k39 =>
    wNil P a0 w fun t31 w =>
    wFieldA P T_usage_Table t31 1 w fun t32 w =>
    wLoad P T_Lcodec_Use t32 w fun t33 w =>
    wIndexA P T_Lcodec_Use t33 a1 w fun t35 w =>
    wFieldA P T_codec_Use t35 0 w fun t36 w =>
    wLoad P T_int t36 w fun t37 w =>
    wUn P .neg t37 w fun t38 w =>
    wBin P .lss T_int a2 t38 w fun t39 w =>
    k39 t39 w) w fun _ t39 w =>
  wPick t27 (.bool true) t39 w fun t40 w =>
  wIf t40 (
    k (.int .i64 1) w) (
    wNil P a0 w fun t42 w =>
    wFieldA P T_usage_Table t42 1 w fun t43 w =>
    wLoad P T_Lcodec_Use t43 w fun t44 w =>
    wIndexA P T_Lcodec_Use t44 a1 w fun t46 w =>
    wFieldA P T_codec_Use t46 0 w fun t47 w =>
    wLoad P T_int t47 w fun t48 w =>
    wBin P .add T_int t48 a2 w fun t50 w =>
    wIndexA P T_Lcodec_Use t44 a1 w fun t51 w =>
    wFieldA P T_codec_Use t51 0 w fun t52 w =>
    wStore P T_int t52 t50 w fun w =>
    k (.int .i64 0) w)

theorem call_usage_Table_Count (a0 a1 a2 : Value) {w : World} {k : Value → World → Prop} (h : F_usage_Table_Count a0 a1 a2 w k) : wCall P n_usage_Table_Count [a0, a1, a2] w k :=
  call_of_den mixedP Try.func40 (by kernel_rfl) (.s .z (.s (.s (.r (.ops [0, 1] (.eff 2 [] (.ops [3, 4] (.grp 4 false 26 [12, 13, 14, 15, 16, 17, 18, 19, 20, 21, 22, 23, 24, 25] (.ops [5, 6, 7, 8, 9, 10, 11, 12, 13, 14, 15, 16, 17, 18, 19] .nil) (.ops [20, 21] (.grp 21 false 39 [29, 30, 31, 32, 33, 34, 35, 36, 37, 38] (.ops [22, 23, 24, 25, 26, 27, 28, 29, 30, 31, 32] .nil) (.ops [33] .nil)))))))) .z) .z)) (by kernel_rfl) (Eq.mp (by kernel_rfl) h)

def F_usage_Table_Set (a0 a1 a2 : Value) (w : World) (k : Value → World → Prop) : Prop :=
  wCall P n_usage_Table_has [a0, a1] w fun t9 w =>
  wUn P .not t9 w fun t10 w =>
  wGrp t10 false (fun k13 =>
    wBin P .lss T_int a2 (.int .i64 0) w fun t13 w =>
    k13 t13 w) w fun _ t13 w =>
  wPick t10 (.bool true) t13 w fun t14 w =>
  wGrp t14 false (fun k17 =>
    wBin P .gtr T_int a2 (.int .i64 3) w fun t17 w =>
    k17 t17 w) w fun _ t17 w =>
  wPick t14 (.bool true) t17 w fun t18 w =>
  wIf t18 (
    k (.int .i64 1) w) (
    wNil P a0 w fun t20 w =>
    wFieldA P T_usage_Table t20 1 w fun t21 w =>
    wLoad P T_Lcodec_Use t21 w fun t22 w =>
    wIndexA P T_Lcodec_Use t22 a1 w fun t25 w =>
    wFieldA P T_codec_Use t25 1 w fun t26 w =>
    wStore P T_int t26 a2 w fun w =>
    k (.int .i64 0) w)

theorem call_usage_Table_Set (a0 a1 a2 : Value) {w : World} {k : Value → World → Prop} (h : F_usage_Table_Set a0 a1 a2 w k) : wCall P n_usage_Table_Set [a0, a1, a2] w k :=
  call_of_den mixedP Try.func41 (by kernel_rfl) (.s .z (.s (.s (.r (.ops [0, 1, 2, 3, 4] (.grp 4 false 13 [12] (.ops [5, 6] .nil) (.ops [7, 8] (.grp 8 false 17 [16] (.ops [9, 10] .nil) (.ops [11] .nil)))))) .z) .z)) (by kernel_rfl) (Eq.mp (by kernel_rfl) h)

def F_usage_Table_Live (a0 : Value) (w : World) (k : Value → World → Prop) : Prop :=
  wNil P a0 w fun t7 w =>
  wFieldA P T_usage_Table t7 1 w fun t8 w =>
  wLoad P T_Lcodec_Use t8 w fun t9 w =>
  wLen P .len #[T_Lcodec_Use] [t9] w fun t10 w =>
  wL2 (.int .i64 0) (.int .i64 0) w (fun _ v3 v11 w k1 =>
    wBin P .lss T_int v11 t10 w fun t12 w =>
    wIf t12 (
      wIndexA P T_Lcodec_Use t9 v11 w fun t13 w =>
      wLoad P T_codec_Use t13 w fun t14 w =>
      wAlloc P T_codec_Use w fun t5 w =>
      wStore P T_codec_Use t5 t14 w fun w =>
      wFieldA P T_codec_Use t5 0 w fun t16 w =>
      wLoad P T_int t16 w fun t17 w =>
      wBin P .add T_int v3 t17 w fun t18 w =>
      wBin P .add T_int v11 (.int .i64 1) w fun t19 w =>
      k1 t18 t19 w) (
      k v3 w))

theorem call_usage_Table_Live (a0 : Value) {w : World} {k : Value → World → Prop} (h : F_usage_Table_Live a0 w k) : wCall P n_usage_Table_Live [a0] w k :=
  call_of_den mixedP Try.func43 (by kernel_rfl) (.s .z (.s .z (.s (.s .z (.b (.l [3, 11] [9, 10] .z))) .z))) (by kernel_rfl) (Eq.mp (by kernel_rfl) h)

def F_usage_Table_Release (a0 : Value) (w : World) (k : Value → World → Prop) : Prop :=
  wCall P n_usage_Table_which [a0, (.func (.func n_usage_Table_Release_c1) #[] #[])] w fun t7 w =>
  wLen P .len #[T_Lint] [t7] w fun t9 w =>
  wL1 (.int .i64 0) w (fun _ v10 w k1 =>
    wBin P .lss T_int v10 t9 w fun t11 w =>
    wIf t11 (
      wIndexA P T_Lint t7 v10 w fun t12 w =>
      wLoad P T_int t12 w fun t13 w =>
      wNil P a0 w fun t15 w =>
      wFieldA P T_usage_Table t15 1 w fun t16 w =>
      wLoad P T_Lcodec_Use t16 w fun t17 w =>
      wBuild P T_codec_Use [] w fun t19 w =>
      wIndexA P T_Lcodec_Use t17 t13 w fun t20 w =>
      wStore P T_codec_Use t20 t19 w fun w =>
      wBin P .add T_int v10 (.int .i64 1) w fun t21 w =>
      k1 t21 w) (
      k t7 w))

theorem call_usage_Table_Release (a0 : Value) {w : World} {k : Value → World → Prop} (h : F_usage_Table_Release a0 w k) : wCall P n_usage_Table_Release [a0] w k :=
  call_of_den mixedP Try.func45 (by kernel_rfl) (.s .z (.s .z (.s (.s .z (.b (.l [10] [0, 3, 8, 9] .z))) .z))) (by kernel_rfl) (Eq.mp (by kernel_rfl) h)

def F_usage_Table_Uses (a0 : Value) (w : World) (k : Value → World → Prop) : Prop :=
  wNil P a0 w fun t4 w =>
  wFieldA P T_usage_Table t4 1 w fun t5 w =>
  wLoad P T_Lcodec_Use t5 w fun t6 w =>
  wCall P n_slices_Clone_codec_Use [t6] w fun t7 w =>
  k t7 w

theorem call_usage_Table_Uses (a0 : Value) {w : World} {k : Value → World → Prop} (h : F_usage_Table_Uses a0 w k) : wCall P n_usage_Table_Uses [a0] w k :=
  call_of_den mixedP Try.func49 (by kernel_rfl) .z (by kernel_rfl) (Eq.mp (by kernel_rfl) h)

def F_usage_Load (a0 a1 : Value) (w : World) (k : Value → World → Prop) : Prop :=
  wLen P .len #[T_Lcodec_Use] [a1] w fun t10 w =>
  wBin P .eql T_int t10 (.int .i64 0) w fun t11 w =>
  wGrp t11 false (fun k15 =>
    wLen P .len #[T_Lcodec_Use] [a1] w fun t14 w =>
    wBin P .gtr T_int t14 (.int .i64 200) w fun t15 w =>
    k15 t15 w) w fun _ t15 w =>
  wPick t11 (.bool true) t15 w fun t16 w =>
  wIf t16 (
    k (.tuple #[(.pointer none), (.int .i64 1)]) w) (
    wCall P n_usage_among [a0, (.int .i64 1), (.int .i64 4096)] w fun t18 w =>
    wCall P n_slices_Clone_codec_Use [a1] w fun t20 w =>
    wBuild P T_usage_Table [(0, t18), (1, t20)] w fun t21 w =>
    wBox P T_usage_Table t21 w fun t22 w =>
    wLen P .len #[T_Lcodec_Use] [a1] w fun t24 w =>
    wL1 (.int .i64 0) w (fun _ v25 w k2 =>
      wBin P .lss T_int v25 t24 w fun t26 w =>
      wIf t26 (
        wIndexA P T_Lcodec_Use a1 v25 w fun t27 w =>
        wLoad P T_codec_Use t27 w fun t28 w =>
        wAlloc P T_codec_Use w fun t8 w =>
        wStore P T_codec_Use t8 t28 w fun w =>
        wDraw w fun w =>
        wFieldA P T_codec_Use t8 0 w fun t29 w =>
        wLoad P T_int t29 w fun t30 w =>
        wBin P .lss T_int t30 (.int .i64 0) w fun t31 w =>
        wGrp t31 false (fun k39 =>
          wFieldA P T_codec_Use t8 0 w fun t33 w =>
          wLoad P T_int t33 w fun t34 w =>
          wNil P t22 w fun t36 w =>
          wFieldA P T_usage_Table t36 0 w fun t37 w =>
          wLoad P T_int t37 w fun t38 w =>
          wBin P .gtr T_int t34 t38 w fun t39 w =>
          k39 t39 w) w fun _ t39 w =>
        wPick t31 (.bool true) t39 w fun t40 w =>
        wGrp t40 false (fun k44 =>
          wFieldA P T_codec_Use t8 1 w fun t42 w =>
          wLoad P T_int t42 w fun t43 w =>
          wBin P .lss T_int t43 (.int .i64 0) w fun t44 w =>
          k44 t44 w) w fun _ t44 w =>
        wPick t40 (.bool true) t44 w fun t45 w =>
        wGrp t45 false (fun k49 =>
          wFieldA P T_codec_Use t8 1 w fun t47 w =>
          wLoad P T_int t47 w fun t48 w =>
          wBin P .gtr T_int t48 (.int .i64 3) w fun t49 w =>
          k49 t49 w) w fun _ t49 w =>
        wPick t45 (.bool true) t49 w fun t50 w =>
        wIf t50 (
          k (.tuple #[(.pointer none), (.int .i64 1)]) w) (
          wBin P .add T_int v25 (.int .i64 1) w fun t51 w =>
          k2 t51 w)) (
        k (.tuple #[t22, (.int .i64 0)]) w)))

theorem call_usage_Load (a0 a1 : Value) {w : World} {k : Value → World → Prop} (h : F_usage_Load a0 a1 w k) : wCall P n_usage_Load [a0, a1] w k :=
  call_of_den mixedP Try.func51 (by kernel_rfl) (.s .z (.s (.s (.r (.ops [0, 1, 2, 3] (.grp 3 false 15 [13, 14] (.ops [4, 5, 6] .nil) (.ops [7] .nil)))) .z) (.s .z (.s (.s .z (.b (.l [25] [6, 23, 24] (.s .z (.s .z (.s (.b (.s .z (.s (.r (.ops [0, 1, 2, 3] (.grp 3 false 39 [33, 34, 35, 36, 37, 38] (.ops [4, 5, 6, 7, 8, 9, 10] .nil) (.ops [11, 12] (.grp 12 false 44 [42, 43] (.ops [13, 14, 15] .nil) (.ops [16, 17] (.grp 17 false 49 [47, 48] (.ops [18, 19, 20] .nil) (.ops [21] .nil)))))))) .z))) .z)))))) .z)))) (by kernel_rfl) (Eq.mp (by kernel_rfl) h)

def F_usage_Table_Clean (a0 : Value) (w : World) (k : Value → World → Prop) : Prop :=
  wCall P n_usage_Table_which [a0, (.func (.func n_usage_clean) #[] #[])] w fun t4 w =>
  wLen P .len #[T_Lint] [t4] w fun t5 w =>
  k t5 w

theorem call_usage_Table_Clean (a0 : Value) {w : World} {k : Value → World → Prop} (h : F_usage_Table_Clean a0 w k) : wCall P n_usage_Table_Clean [a0] w k :=
  call_of_den mixedP Try.func52 (by kernel_rfl) .z (by kernel_rfl) (Eq.mp (by kernel_rfl) h)

def F_usage_Table_Order (a0 a1 : Value) (w : World) (k : Value → World → Prop) : Prop :=
  wBox P T_pusage_Table a0 w fun t2 w =>
  wBox P T_uint32 a1 w fun t3 w =>
  wLoad P T_pusage_Table t2 w fun t7 w =>
  wCall P n_usage_Table_which [t7, (.func (.func n_usage_Table_Order_c1) #[] #[])] w fun t8 w =>
  wFunc P (.func n_usage_Table_Order_c2) [] [t2, t3] w fun t9 w =>
  wAlloc P T_func_int___uint64__uint64_ w fun t6 w =>
  wStore P T_func_int___uint64__uint64_ t6 t9 w fun w =>
  wFunc P (.func n_usage_Table_Order_c3) [] [t6] w fun t11 w =>
  wCall P n_slices_SortStableFunc_int [t8, t11] w fun _ w =>
  k t8 w

theorem call_usage_Table_Order (a0 a1 : Value) {w : World} {k : Value → World → Prop} (h : F_usage_Table_Order a0 a1 w k) : wCall P n_usage_Table_Order [a0, a1] w k :=
  call_of_den mixedP Try.func53 (by kernel_rfl) .z (by kernel_rfl) (Eq.mp (by kernel_rfl) h)

def F_usage_Part (a0 a1 : Value) (w : World) (k : Value → World → Prop) : Prop :=
  wConv P T_int T_float64 a0 w fun t6 w =>
  wConv P T_int T_float64 a1 w fun t8 w =>
  wBinF P .quo T_float64 t6 t8 w fun t9 w =>
  k t9 w

theorem call_usage_Part (a0 a1 : Value) {w : World} {k : Value → World → Prop} (h : F_usage_Part a0 a1 w k) : wCall P n_usage_Part [a0, a1] w k :=
  call_of_den mixedP Try.func73 (by kernel_rfl) .z (by kernel_rfl) (Eq.mp (by kernel_rfl) h)

def F_usage_among (a0 a1 a2 : Value) (w : World) (k : Value → World → Prop) : Prop :=
  wLen P .min #[T_int, T_int] [a0, a2] w fun t10 w =>
  wLen P .max #[T_int, T_int] [a1, t10] w fun t11 w =>
  k t11 w

theorem call_usage_among (a0 a1 a2 : Value) {w : World} {k : Value → World → Prop} (h : F_usage_among a0 a1 a2 w k) : wCall P n_usage_among [a0, a1, a2] w k :=
  call_of_den mixedP Try.func140 (by kernel_rfl) .z (by kernel_rfl) (Eq.mp (by kernel_rfl) h)

def F_usage_Table_has (a0 a1 : Value) (w : World) (k : Value → World → Prop) : Prop :=
  wBin P .geq T_int a1 (.int .i64 0) w fun t6 w =>
  wGrp t6 true (fun k14 =>
    wNil P a0 w fun t10 w =>
    wFieldA P T_usage_Table t10 1 w fun t11 w =>
    wLoad P T_Lcodec_Use t11 w fun t12 w =>
    wLen P .len #[T_Lcodec_Use] [t12] w fun t13 w =>
    wBin P .lss T_int a1 t13 w fun t14 w =>
    k14 t14 w) w fun _ t14 w =>
  wPick t6 t14 (.bool false) w fun t15 w =>
  k t15 w

theorem call_usage_Table_has (a0 a1 : Value) {w : World} {k : Value → World → Prop} (h : F_usage_Table_has a0 a1 w k) : wCall P n_usage_Table_has [a0, a1] w k :=
  call_of_den mixedP Try.func145 (by kernel_rfl) (.s .z (.s (.r (.ops [0, 1, 2] (.grp 2 true 14 [8, 9, 10, 11, 12, 13] (.ops [3, 4, 5, 6, 7, 8, 9] .nil) (.ops [10, 11] .nil)))) .z)) (by kernel_rfl) (Eq.mp (by kernel_rfl) h)

def F_usage_Table_which (a0 a1 : Value) (w : World) (k : Value → World → Prop) : Prop :=
  wNil P a0 w fun t9 w =>
  wFieldA P T_usage_Table t9 1 w fun t10 w =>
  wLoad P T_Lcodec_Use t10 w fun t11 w =>
  wLen P .len #[T_Lcodec_Use] [t11] w fun t12 w =>
  wL2 (.slice none 0 0) (.int .i64 0) w (fun _ v5 v13 w k1 =>
    wBin P .lss T_int v13 t12 w fun t14 w =>
    wIf t14 (
      wIndexA P T_Lcodec_Use t11 v13 w fun t16 w =>
      wLoad P T_codec_Use t16 w fun t17 w =>
      wAlloc P T_codec_Use w fun t7 w =>
      wStore P T_codec_Use t7 t17 w fun w =>
      wLoad P T_codec_Use t7 w fun t19 w =>
      wCallV P a1 [t19] w fun t20 w =>
      wIf t20 (
        wBuildS P T_Lint 1 [(0, v13)] w fun t23 w =>
        wBuiltin P .append #[T_Lint, T_Lint] [v5, t23] w fun t24 w =>
        wBin P .add T_int v13 (.int .i64 1) w fun t25 w =>
        k1 t24 t25 w) (
        wBin P .add T_int v13 (.int .i64 1) w fun t25 w =>
        k1 v5 t25 w)) (
      k v5 w))

theorem call_usage_Table_which (a0 a1 : Value) {w : World} {k : Value → World → Prop} (h : F_usage_Table_which a0 a1 w k) : wCall P n_usage_Table_which [a0, a1] w k :=
  call_of_den mixedP Try.func148 (by kernel_rfl) (.s .z (.s .z (.s (.s .z (.b (.l [5, 13] [1, 11, 12] .z))) .z))) (by kernel_rfl) (Eq.mp (by kernel_rfl) h)

def F_usage_Table_Release_c1 (a0 : Value) (w : World) (k : Value → World → Prop) : Prop :=
  wBox P T_codec_Use a0 w fun t1 w =>
  wFieldA P T_codec_Use t1 1 w fun t3 w =>
  wLoad P T_int t3 w fun t4 w =>
  wBin P .eql T_int t4 (.int .i64 1) w fun t5 w =>
  wGrp t5 true (fun k9 =>
    wFieldA P T_codec_Use t1 0 w fun t7 w =>
    wLoad P T_int t7 w fun t8 w =>
    wBin P .eql T_int t8 (.int .i64 0) w fun t9 w =>
    k9 t9 w) w fun _ t9 w =>
  wPick t5 t9 (.bool false) w fun t10 w =>
  k t10 w

theorem call_usage_Table_Release_c1 (a0 : Value) {w : World} {k : Value → World → Prop} (h : F_usage_Table_Release_c1 a0 w k) : wCall P n_usage_Table_Release_c1 [a0] w k :=
  call_of_den mixedP Try.func149 (by kernel_rfl) (.s .z (.s (.r (.ops [0, 1, 2, 3] (.grp 3 true 9 [7, 8] (.ops [4, 5, 6] .nil) (.ops [7, 8] .nil)))) .z)) (by kernel_rfl) (Eq.mp (by kernel_rfl) h)

def F_usage_clean (a0 : Value) (w : World) (k : Value → World → Prop) : Prop :=
  wBox P T_codec_Use a0 w fun t1 w =>
  wFieldA P T_codec_Use t1 1 w fun t3 w =>
  wLoad P T_int t3 w fun t4 w =>
  wBin P .eql T_int t4 (.int .i64 0) w fun t5 w =>
  k t5 w

theorem call_usage_clean (a0 : Value) {w : World} {k : Value → World → Prop} (h : F_usage_clean a0 w k) : wCall P n_usage_clean [a0] w k :=
  call_of_den mixedP Try.func156 (by kernel_rfl) .z (by kernel_rfl) (Eq.mp (by kernel_rfl) h)

def F_usage_Table_Order_c1 (a0 : Value) (w : World) (k : Value → World → Prop) : Prop :=
  wBox P T_codec_Use a0 w fun t1 w =>
  wFieldA P T_codec_Use t1 1 w fun t3 w =>
  wLoad P T_int t3 w fun t4 w =>
  wBin P .eql T_int t4 (.int .i64 1) w fun t5 w =>
  k t5 w

theorem call_usage_Table_Order_c1 (a0 : Value) {w : World} {k : Value → World → Prop} (h : F_usage_Table_Order_c1 a0 w k) : wCall P n_usage_Table_Order_c1 [a0] w k :=
  call_of_den mixedP Try.func157 (by kernel_rfl) .z (by kernel_rfl) (Eq.mp (by kernel_rfl) h)

def F_usage_Table_Order_c2 (a0 a1 a2 : Value) (w : World) (k : Value → World → Prop) : Prop :=
  wLoad P T_pusage_Table a1 w fun t8 w =>
  wNil P t8 w fun t9 w =>
  wFieldA P T_usage_Table t9 1 w fun t10 w =>
  wLoad P T_Lcodec_Use t10 w fun t11 w =>
  wIndexA P T_Lcodec_Use t11 a0 w fun t13 w =>
  wLoad P T_codec_Use t13 w fun t14 w =>
  wAlloc P T_codec_Use w fun t6 w =>
  wStore P T_codec_Use t6 t14 w fun w =>
  wJ1 (fun k1 =>
    wFieldA P T_codec_Use t6 2 w fun t15 w =>
    wLoad P T_uint32 t15 w fun t16 w =>
    wLoad P T_uint32 a2 w fun t17 w =>
    wBin P .leq T_uint32 t16 t17 w fun t18 w =>
    wIf t18 (
      wLoad P T_uint32 a2 w fun t20 w =>
      wFieldA P T_codec_Use t6 2 w fun t21 w =>
      wLoad P T_uint32 t21 w fun t22 w =>
      wBin P .sub T_uint32 t20 t22 w fun t23 w =>
      wConv P T_uint32 T_uint64 t23 w fun t24 w =>
      wBin P .add T_uint64 (.int .u64 1) t24 w fun t25 w =>
      k1 t25 w) (
      k1 (.int .u64 1) w)) fun _ v7 w =>
  wDraw w fun w =>
  wLoad P T_pusage_Table a1 w fun t26 w =>
  wNil P t26 w fun t27 w =>
  wFieldA P T_usage_Table t27 0 w fun t28 w =>
  wLoad P T_int t28 w fun t29 w =>
  wFieldA P T_codec_Use t6 0 w fun t30 w =>
  wLoad P T_int t30 w fun t31 w =>
  wBin P .sub T_int t29 t31 w fun t32 w =>
  wConv P T_int T_uint64 t32 w fun t33 w =>
  wBin P .mul T_uint64 t33 v7 w fun t35 w =>
  wLoad P T_pusage_Table a1 w fun t36 w =>
  wNil P t36 w fun t37 w =>
  wFieldA P T_usage_Table t37 0 w fun t38 w =>
  wLoad P T_int t38 w fun t39 w =>
  wFieldA P T_codec_Use t6 0 w fun t40 w =>
  wLoad P T_int t40 w fun t41 w =>
  wBin P .add T_int t39 t41 w fun t42 w =>
  wConv P T_int T_uint64 t42 w fun t43 w =>
  k (.tuple #[t35, t43]) w

theorem call_usage_Table_Order_c2 (a0 a1 a2 : Value) {w : World} {k : Value → World → Prop} (h : F_usage_Table_Order_c2 a0 a1 a2 w k) : wCall P n_usage_Table_Order_c2 [a0, a1, a2] w k :=
  call_of_den mixedP Try.func158 (by kernel_rfl) (.s .z (.s .z (.s .z (.j [7] [1, 6] .z (.s (.r (.ops [0, 1, 2, 3, 4, 5, 6, 7, 8, 9, 10, 11, 12, 13, 14, 15, 16, 17, 18, 19] .nil)) .z))))) (by kernel_rfl) (Eq.mp (by kernel_rfl) h)

def F_usage_Table_Order_c3 (a0 a1 a2 : Value) (w : World) (k : Value → World → Prop) : Prop :=
  wLoad P T_func_int___uint64__uint64_ a2 w fun t11 w =>
  wCallV P t11 [a0] w fun t13 w =>
  wExtract P t13 0 w fun t14 w =>
  wExtract P t13 1 w fun t15 w =>
  wLoad P T_func_int___uint64__uint64_ a2 w fun t17 w =>
  wCallV P t17 [a1] w fun t19 w =>
  wExtract P t19 0 w fun t20 w =>
  wExtract P t19 1 w fun t21 w =>
  wBin P .mul T_uint64 t20 t15 w fun t24 w =>
  wBin P .mul T_uint64 t14 t21 w fun t27 w =>
  wCall P n_cmp_Compare_uint64 [t24, t27] w fun t28 w =>
  k t28 w

theorem call_usage_Table_Order_c3 (a0 a1 a2 : Value) {w : World} {k : Value → World → Prop} (h : F_usage_Table_Order_c3 a0 a1 a2 w k) : wCall P n_usage_Table_Order_c3 [a0, a1, a2] w k :=
  call_of_den mixedP Try.func160 (by kernel_rfl) .z (by kernel_rfl) (Eq.mp (by kernel_rfl) h)

def F_usage_Table_Segs (a0 : Value) (w : World) (k : Value → World → Prop) : Prop :=
  wNil P a0 w fun t4 w =>
  wFieldA P T_usage_Table t4 1 w fun t5 w =>
  wLoad P T_Lcodec_Use t5 w fun t6 w =>
  wLen P .len #[T_Lcodec_Use] [t6] w fun t7 w =>
  k t7 w

theorem call_usage_Table_Segs (a0 : Value) {w : World} {k : Value → World → Prop} (h : F_usage_Table_Segs a0 w k) : wCall P n_usage_Table_Segs [a0] w k :=
  call_of_den mixedP Try.func196 (by kernel_rfl) .z (by kernel_rfl) (Eq.mp (by kernel_rfl) h)

def F_usage_Table_Get (a0 a1 : Value) (w : World) (k : Value → World → Prop) : Prop :=
  wAlloc P T_codec_Use w fun t4 w =>
  wCall P n_usage_Table_has [a0, a1] w fun t8 w =>
  wUn P .not t8 w fun t9 w =>
  wIf t9 (
    wBuild P T_codec_Use [] w fun t10 w =>
    wStore P T_codec_Use t4 t10 w fun w =>
    wRes P T_codec_Use t4 w fun r4 =>
    k (.tuple #[r4, (.int .i64 1)]) w) (
    wNil P a0 w fun t12 w =>
    wFieldA P T_usage_Table t12 1 w fun t13 w =>
    wLoad P T_Lcodec_Use t13 w fun t14 w =>
    wIndexA P T_Lcodec_Use t14 a1 w fun t16 w =>
    wLoad P T_codec_Use t16 w fun t17 w =>
    wStore P T_codec_Use t4 t17 w fun w =>
    wRes P T_codec_Use t4 w fun r4 =>
    k (.tuple #[r4, (.int .i64 0)]) w)

theorem call_usage_Table_Get (a0 a1 : Value) {w : World} {k : Value → World → Prop} (h : F_usage_Table_Get a0 a1 w k) : wCall P n_usage_Table_Get [a0, a1] w k :=
  call_of_den mixedP Try.func197 (by kernel_rfl) .z (by kernel_rfl) (Eq.mp (by kernel_rfl) h)

def F_usage_Table_First (a0 : Value) (w : World) (k : Value → World → Prop) : Prop :=
  wNil P a0 w fun t4 w =>
  wFieldA P T_usage_Table t4 1 w fun t5 w =>
  wLoad P T_Lcodec_Use t5 w fun t6 w =>
  wCall P n_slices_IndexFunc_codec_Use [t6, (.func (.func n_usage_clean) #[] #[])] w fun t7 w =>
  k t7 w

theorem call_usage_Table_First (a0 : Value) {w : World} {k : Value → World → Prop} (h : F_usage_Table_First a0 w k) : wCall P n_usage_Table_First [a0] w k :=
  call_of_den mixedP Try.func199 (by kernel_rfl) .z (by kernel_rfl) (Eq.mp (by kernel_rfl) h)

def F_usage_Table_Touch (a0 a1 a2 : Value) (w : World) (k : Value → World → Prop) : Prop :=
  wCall P n_usage_Table_has [a0, a1] w fun t9 w =>
  wUn P .not t9 w fun t10 w =>
  wIf t10 (
    k (.int .i64 1) w) (
    wDraw w fun w =>
    wNil P a0 w fun t12 w =>
    wFieldA P T_usage_Table t12 1 w fun t13 w =>
    wLoad P T_Lcodec_Use t13 w fun t14 w =>
    wNil P a0 w fun t17 w =>
    wFieldA P T_usage_Table t17 1 w fun t18 w =>
    wLoad P T_Lcodec_Use t18 w fun t19 w =>
    wIndexA P T_Lcodec_Use t19 a1 w fun t21 w =>
    wFieldA P T_codec_Use t21 2 w fun t22 w =>
    wLoad P T_uint32 t22 w fun t23 w =>
    wLen P .max #[T_uint32, T_uint32] [t23, a2] w fun t25 w =>
    wIndexA P T_Lcodec_Use t14 a1 w fun t26 w =>
    wFieldA P T_codec_Use t26 2 w fun t27 w =>
    wStore P T_uint32 t27 t25 w fun w =>
    k (.int .i64 0) w)

theorem call_usage_Table_Touch (a0 a1 a2 : Value) {w : World} {k : Value → World → Prop} (h : F_usage_Table_Touch a0 a1 a2 w k) : wCall P n_usage_Table_Touch [a0, a1, a2] w k :=
  call_of_den mixedP Try.func201 (by kernel_rfl) (.s .z (.s .z (.s (.r (.ops [0, 1, 2, 3, 4, 5, 6, 7, 8, 9, 10, 11, 12, 13, 14, 15, 16] (.eff 17 [] .nil))) .z))) (by kernel_rfl) (Eq.mp (by kernel_rfl) h)

end Go.Dn
end
section
/-! Texts of functions, printed by mkg.py. -/
set_option maxRecDepth 100000
set_option linter.unusedVariables false
namespace Go.Dn
open Go Go.Proofs
def F_slices_Clone_api_Sector (a0 : Value) (w : World) (k : Value → World → Prop) : Prop :=
  wBin P .eql T_Lapi_Sector a0 (.slice none 0 0) w fun t4 w =>
  wIf t4 (
    k (.slice none 0 0) w) (
    wBuildS P T_Lapi_Sector 0 [] w fun t5 w =>
    wBuiltin P .append #[T_Lapi_Sector, T_Lapi_Sector] [t5, a0] w fun t7 w =>
    k t7 w)

theorem call_slices_Clone_api_Sector (a0 : Value) {w : World} {k : Value → World → Prop} (h : F_slices_Clone_api_Sector a0 w k) : wCall P n_slices_Clone_api_Sector [a0] w k :=
  call_of_den mixedP Try.func131 (by kernel_rfl) .z (by kernel_rfl) (Eq.mp (by kernel_rfl) h)

def F_slices_Clone_disk_write (a0 : Value) (w : World) (k : Value → World → Prop) : Prop :=
  wBin P .eql T_Ldisk_write a0 (.slice none 0 0) w fun t4 w =>
  wIf t4 (
    k (.slice none 0 0) w) (
    wBuildS P T_Ldisk_write 0 [] w fun t5 w =>
    wBuiltin P .append #[T_Ldisk_write, T_Ldisk_write] [t5, a0] w fun t7 w =>
    k t7 w)

theorem call_slices_Clone_disk_write (a0 : Value) {w : World} {k : Value → World → Prop} (h : F_slices_Clone_disk_write a0 w k) : wCall P n_slices_Clone_disk_write [a0] w k :=
  call_of_den mixedP Try.func132 (by kernel_rfl) .z (by kernel_rfl) (Eq.mp (by kernel_rfl) h)

def F_slices_Equal_api_Sector (a0 a1 : Value) (w : World) (k : Value → World → Prop) : Prop :=
  wLen P .len #[T_Lapi_Sector] [a0] w fun t7 w =>
  wLen P .len #[T_Lapi_Sector] [a1] w fun t9 w =>
  wBin P .neq T_int t7 t9 w fun t10 w =>
  wIf t10 (
    k (.bool false) w) (
    wLen P .len #[T_Lapi_Sector] [a0] w fun t12 w =>
    wL1 (.int .i64 0) w (fun _ v13 w k2 =>
      wBin P .lss T_int v13 t12 w fun t14 w =>
      wIf t14 (
        wDraw w fun w =>
        wIndexA P T_Lapi_Sector a0 v13 w fun t18 w =>
        wLoad P T_api_Sector t18 w fun t19 w =>
        wIndexA P T_Lapi_Sector a1 v13 w fun t22 w =>
        wLoad P T_api_Sector t22 w fun t23 w =>
        wBin P .neq T_api_Sector t19 t23 w fun t24 w =>
        wIf t24 (
          k (.bool false) w) (
          wBin P .add T_int v13 (.int .i64 1) w fun t25 w =>
          k2 t25 w)) (
        k (.bool true) w)))

theorem call_slices_Equal_api_Sector (a0 a1 : Value) {w : World} {k : Value → World → Prop} (h : F_slices_Equal_api_Sector a0 a1 w k) : wCall P n_slices_Equal_api_Sector [a0, a1] w k :=
  call_of_den mixedP Try.func133 (by kernel_rfl) (.s .z (.s .z (.s (.s .z (.b (.l [13] [0, 1, 12] (.s .z (.s .z (.s (.b (.s .z (.s (.r (.ops [0, 1, 2, 3, 4, 5, 6, 7, 8] .nil)) .z))) .z)))))) .z))) (by kernel_rfl) (Eq.mp (by kernel_rfl) h)

def F_slices_Equal_disk_write (a0 a1 : Value) (w : World) (k : Value → World → Prop) : Prop :=
  wLen P .len #[T_Ldisk_write] [a0] w fun t7 w =>
  wLen P .len #[T_Ldisk_write] [a1] w fun t9 w =>
  wBin P .neq T_int t7 t9 w fun t10 w =>
  wIf t10 (
    k (.bool false) w) (
    wLen P .len #[T_Ldisk_write] [a0] w fun t12 w =>
    wL1 (.int .i64 0) w (fun _ v13 w k2 =>
      wBin P .lss T_int v13 t12 w fun t14 w =>
      wIf t14 (
        wDraw w fun w =>
        wIndexA P T_Ldisk_write a0 v13 w fun t18 w =>
        wLoad P T_disk_write t18 w fun t19 w =>
        wIndexA P T_Ldisk_write a1 v13 w fun t22 w =>
        wLoad P T_disk_write t22 w fun t23 w =>
        wBin P .neq T_disk_write t19 t23 w fun t24 w =>
        wIf t24 (
          k (.bool false) w) (
          wBin P .add T_int v13 (.int .i64 1) w fun t25 w =>
          k2 t25 w)) (
        k (.bool true) w)))

theorem call_slices_Equal_disk_write (a0 a1 : Value) {w : World} {k : Value → World → Prop} (h : F_slices_Equal_disk_write a0 a1 w k) : wCall P n_slices_Equal_disk_write [a0, a1] w k :=
  call_of_den mixedP Try.func134 (by kernel_rfl) (.s .z (.s .z (.s (.s .z (.b (.l [13] [0, 1, 12] (.s .z (.s .z (.s (.b (.s .z (.s (.r (.ops [0, 1, 2, 3, 4, 5, 6, 7, 8] .nil)) .z))) .z)))))) .z))) (by kernel_rfl) (Eq.mp (by kernel_rfl) h)

def F_slices_IndexFunc_codec_Slot (a0 a1 : Value) (w : World) (k : Value → World → Prop) : Prop :=
  wLen P .len #[T_Lcodec_Slot] [a0] w fun t7 w =>
  wL1 (.int .i64 0) w (fun _ v8 w k1 =>
    wBin P .lss T_int v8 t7 w fun t9 w =>
    wIf t9 (
      wIndexA P T_Lcodec_Slot a0 v8 w fun t14 w =>
      wLoad P T_codec_Slot t14 w fun t15 w =>
      wCallV P a1 [t15] w fun t16 w =>
      wIf t16 (
        k v8 w) (
        wBin P .add T_int v8 (.int .i64 1) w fun t18 w =>
        k1 t18 w)) (
      k (.int .i64 (-1)) w))

theorem call_slices_IndexFunc_codec_Slot (a0 a1 : Value) {w : World} {k : Value → World → Prop} (h : F_slices_IndexFunc_codec_Slot a0 a1 w k) : wCall P n_slices_IndexFunc_codec_Slot [a0, a1] w k :=
  call_of_den mixedP Try.func141 (by kernel_rfl) (.s .z (.s (.s .z (.b (.l [8] [0, 1, 7] .z))) .z)) (by kernel_rfl) (Eq.mp (by kernel_rfl) h)

def F_slices_Chunk_codec_Slot (a0 a1 : Value) (w : World) (k : Value → World → Prop) : Prop :=
  wBox P T_Lcodec_Slot a0 w fun t2 w =>
  wBox P T_int a1 w fun t3 w =>
  wLoad P T_int t3 w fun t5 w =>
  wBin P .lss T_int t5 (.int .i64 1) w fun t6 w =>
  wIf t6 (
    wIface P T_string (.string { data := #[99, 97, 110, 110, 111, 116, 32, 98, 101, 32, 108, 101, 115, 115, 32, 116, 104, 97, 110, 32, 49] }) w fun _ w =>
    False) (
    wFunc P (.func n_slices_Chunk_codec_Slot_c1) [] [t2, t3] w fun t8 w =>
    k t8 w)

theorem call_slices_Chunk_codec_Slot (a0 a1 : Value) {w : World} {k : Value → World → Prop} (h : F_slices_Chunk_codec_Slot a0 a1 w k) : wCall P n_slices_Chunk_codec_Slot [a0, a1] w k :=
  call_of_den mixedP Try.func150 (by kernel_rfl) .z (by kernel_rfl) (Eq.mp (by kernel_rfl) h)

def F_slices_Clone_codec_Use (a0 : Value) (w : World) (k : Value → World → Prop) : Prop :=
  wBin P .eql T_Lcodec_Use a0 (.slice none 0 0) w fun t4 w =>
  wIf t4 (
    k (.slice none 0 0) w) (
    wBuildS P T_Lcodec_Use 0 [] w fun t5 w =>
    wBuiltin P .append #[T_Lcodec_Use, T_Lcodec_Use] [t5, a0] w fun t7 w =>
    k t7 w)

theorem call_slices_Clone_codec_Use (a0 : Value) {w : World} {k : Value → World → Prop} (h : F_slices_Clone_codec_Use a0 w k) : wCall P n_slices_Clone_codec_Use [a0] w k :=
  call_of_den mixedP Try.func154 (by kernel_rfl) .z (by kernel_rfl) (Eq.mp (by kernel_rfl) h)

def F_slices_SortStableFunc_int (a0 a1 : Value) (w : World) (k : Value → World → Prop) : Prop :=
  wLen P .len #[T_Lint] [a0] w fun t6 w =>
  wCall P n_slices_stableCmpFunc_int [a0, t6, a1] w fun _ w =>
  k (.tuple #[]) w

theorem call_slices_SortStableFunc_int (a0 a1 : Value) {w : World} {k : Value → World → Prop} (h : F_slices_SortStableFunc_int a0 a1 w k) : wCall P n_slices_SortStableFunc_int [a0, a1] w k :=
  call_of_den mixedP Try.func159 (by kernel_rfl) .z (by kernel_rfl) (Eq.mp (by kernel_rfl) h)

def F_slices_ContainsFunc_codec_Slot (a0 a1 : Value) (w : World) (k : Value → World → Prop) : Prop :=
  wCall P n_slices_IndexFunc_codec_Slot [a0, a1] w fun t7 w =>
  wBin P .geq T_int t7 (.int .i64 0) w fun t8 w =>
  k t8 w

theorem call_slices_ContainsFunc_codec_Slot (a0 a1 : Value) {w : World} {k : Value → World → Prop} (h : F_slices_ContainsFunc_codec_Slot a0 a1 w k) : wCall P n_slices_ContainsFunc_codec_Slot [a0, a1] w k :=
  call_of_den mixedP Try.func205 (by kernel_rfl) .z (by kernel_rfl) (Eq.mp (by kernel_rfl) h)

def F_slices_Clone_codec_Slot (a0 : Value) (w : World) (k : Value → World → Prop) : Prop :=
  wBin P .eql T_Lcodec_Slot a0 (.slice none 0 0) w fun t4 w =>
  wIf t4 (
    k (.slice none 0 0) w) (
    wBuildS P T_Lcodec_Slot 0 [] w fun t5 w =>
    wBuiltin P .append #[T_Lcodec_Slot, T_Lcodec_Slot] [t5, a0] w fun t7 w =>
    k t7 w)

theorem call_slices_Clone_codec_Slot (a0 : Value) {w : World} {k : Value → World → Prop} (h : F_slices_Clone_codec_Slot a0 w k) : wCall P n_slices_Clone_codec_Slot [a0] w k :=
  call_of_den mixedP Try.func207 (by kernel_rfl) .z (by kernel_rfl) (Eq.mp (by kernel_rfl) h)

def F_slices_Insert_int (a0 a1 a2 : Value) (w : World) (k : Value → World → Prop) : Prop :=
  wSlice P T_Lint a0 (some a1) none none w fun _ w =>
  wLen P .len #[T_Lint] [a2] w fun t14 w =>
  wBin P .eql T_int t14 (.int .i64 0) w fun t16 w =>
  wIf t16 (
    k a0 w) (
    wLen P .len #[T_Lint] [a0] w fun t19 w =>
    wBin P .eql T_int a1 t19 w fun t22 w =>
    wIf t22 (
      wBuiltin P .append #[T_Lint, T_Lint] [a0, a2] w fun t25 w =>
      k t25 w) (
      wBin P .add T_int t19 t14 w fun t28 w =>
      wLen P .cap #[T_Lint] [a0] w fun t30 w =>
      wBin P .gtr T_int t28 t30 w fun t31 w =>
      wIf t31 (
        wSlice P T_Lint a0 none (some a1) none w fun t34 w =>
        wBin P .add T_int t19 t14 w fun t37 w =>
        wBin P .sub T_int t37 a1 w fun t39 w =>
        wBuiltin P .append #[T_Lint, T_int] [t34, t39] w fun t40 w =>
        wSlice P T_Lint t40 (some a1) none none w fun t43 w =>
        wBuiltin P .copy #[T_Lint, T_Lint] [t43, a2] w fun _ w =>
        wDraw w fun w =>
        wBin P .add T_int a1 t14 w fun t49 w =>
        wSlice P T_Lint t40 (some t49) none none w fun t50 w =>
        wSlice P T_Lint a0 (some a1) none none w fun t53 w =>
        wBuiltin P .copy #[T_Lint, T_Lint] [t50, t53] w fun _ w =>
        k t40 w) (
        wBin P .add T_int t19 t14 w fun t59 w =>
        wSlice P T_Lint a0 none (some t59) none w fun t60 w =>
        wBin P .add T_int a1 t14 w fun t65 w =>
        wSlice P T_Lint t60 (some t65) none none w fun t66 w =>
        wCall P n_slices_overlaps_int [a2, t66] w fun t67 w =>
        wUn P .not t67 w fun t68 w =>
        wIf t68 (
          wDraw w fun w =>
          wBin P .add T_int a1 t14 w fun t72 w =>
          wSlice P T_Lint t60 (some t72) none none w fun t73 w =>
          wSlice P T_Lint t60 (some a1) none none w fun t76 w =>
          wBuiltin P .copy #[T_Lint, T_Lint] [t73, t76] w fun _ w =>
          wSlice P T_Lint t60 (some a1) none none w fun t80 w =>
          wBuiltin P .copy #[T_Lint, T_Lint] [t80, a2] w fun _ w =>
          k t60 w) (
          wSlice P T_Lint t60 (some t19) none none w fun t86 w =>
          wBuiltin P .copy #[T_Lint, T_Lint] [t86, a2] w fun _ w =>
          wSlice P T_Lint t60 (some a1) none none w fun t91 w =>
          wCall P n_slices_rotateRight_int [t91, t14] w fun _ w =>
          k t60 w))))

theorem call_slices_Insert_int (a0 a1 a2 : Value) {w : World} {k : Value → World → Prop} (h : F_slices_Insert_int a0 a1 a2 w k) : wCall P n_slices_Insert_int [a0, a1, a2] w k :=
  call_of_den mixedP Try.func211 (by kernel_rfl) (.s .z (.s .z (.s .z (.s .z (.s .z (.s .z (.s (.s .z (.s (.s .z (.s .z (.s (.r (.ops [0, 1, 2, 3, 4, 5, 6, 7] (.eff 8 [] .nil))) .z))) .z)) (.s .z (.s (.s .z (.s (.s (.r (.ops [0, 1, 2, 3, 4, 5, 6, 7] (.eff 8 [] .nil))) .z) .z)) .z))))))))) (by kernel_rfl) (Eq.mp (by kernel_rfl) h)

def F_slices_Backward_disk_write (a0 : Value) (w : World) (k : Value → World → Prop) : Prop :=
  wBox P T_Ldisk_write a0 w fun t1 w =>
  wFunc P (.func n_slices_Backward_disk_write_c1) [] [t1] w fun t3 w =>
  k t3 w

theorem call_slices_Backward_disk_write (a0 : Value) {w : World} {k : Value → World → Prop} (h : F_slices_Backward_disk_write a0 w k) : wCall P n_slices_Backward_disk_write [a0] w k :=
  call_of_den mixedP Try.func229 (by kernel_rfl) .z (by kernel_rfl) (Eq.mp (by kernel_rfl) h)

def F_slices_Chunk_codec_Slot_c1 (a0 a1 a2 : Value) (w : World) (k : Value → World → Prop) : Prop :=
  wL1 (.int .i64 0) w (fun _ v4 w k1 =>
    wLoad P T_Lcodec_Slot a1 w fun t7 w =>
    wLen P .len #[T_Lcodec_Slot] [t7] w fun t8 w =>
    wBin P .lss T_int v4 t8 w fun t9 w =>
    wIf t9 (
      wDraw w fun w =>
      wLoad P T_int a2 w fun t13 w =>
      wLoad P T_Lcodec_Slot a1 w fun t14 w =>
      wSlice P T_Lcodec_Slot t14 (some v4) none none w fun t16 w =>
      wLen P .len #[T_Lcodec_Slot] [t16] w fun t17 w =>
      wLen P .min #[T_int, T_int] [t13, t17] w fun t18 w =>
      wLoad P T_Lcodec_Slot a1 w fun t20 w =>
      wBin P .add T_int v4 t18 w fun t24 w =>
      wBin P .add T_int v4 t18 w fun t27 w =>
      wSlice P T_Lcodec_Slot t20 (some v4) (some t24) (some t27) w fun t28 w =>
      wCallV P a0 [t28] w fun t29 w =>
      wUn P .not t29 w fun t30 w =>
      wIf t30 (
        k (.tuple #[]) w) (
        wLoad P T_int a2 w fun t11 w =>
        wBin P .add T_int v4 t11 w fun t12 w =>
        k1 t12 w)) (
      k (.tuple #[]) w))

theorem call_slices_Chunk_codec_Slot_c1 (a0 a1 a2 : Value) {w : World} {k : Value → World → Prop} (h : F_slices_Chunk_codec_Slot_c1 a0 a1 a2 w k) : wCall P n_slices_Chunk_codec_Slot_c1 [a0, a1, a2] w k :=
  call_of_den mixedP Try.func234 (by kernel_rfl) (.s .z (.b (.l [4] [0, 1, 2] (.s .z (.s (.b (.s (.r (.ops [0, 1, 2, 3, 4, 5, 6] .nil)) .z)) .z))))) (by kernel_rfl) (Eq.mp (by kernel_rfl) h)

def F_slices_stableCmpFunc_int (a0 a1 a2 : Value) (w : World) (k : Value → World → Prop) : Prop :=
  wJ1 (fun k1 =>
    wL2 (.int .i64 0) (.int .i64 20) w (fun _ v7 v8 w k2 =>
      wBin P .leq T_int v8 a1 w fun t13 w =>
      wIf t13 (
        wCall P n_slices_insertionSortCmpFunc_int [a0, v7, v8, a2] w fun _ w =>
        wBin P .add T_int v8 (.int .i64 20) w fun t22 w =>
        k2 v8 t22 w) (
        k1 v7 w))) fun _ v7 w =>
  wCall P n_slices_insertionSortCmpFunc_int [a0, v7, a1, a2] w fun _ w =>
  wL1 (.int .i64 20) w (fun _ v6 w k1 =>
    wBin P .lss T_int v6 a1 w fun t30 w =>
    wIf t30 (
      wBin P .mul T_int (.int .i64 2) v6 w fun t32 w =>
      wJ1 (fun k3 =>
        wL2 (.int .i64 0) t32 w (fun _ v7 v8 w k4 =>
          wBin P .leq T_int v8 a1 w fun t35 w =>
          wIf t35 (
            wBin P .add T_int v7 v6 w fun t40 w =>
            wCall P n_slices_symMergeCmpFunc_int [a0, v7, t40, v8, a2] w fun _ w =>
            wBin P .mul T_int (.int .i64 2) v6 w fun t47 w =>
            wBin P .add T_int v8 t47 w fun t48 w =>
            k4 v8 t48 w) (
            k3 v7 w))) fun _ v7 w =>
      wBin P .add T_int v7 v6 w fun t51 w =>
      wBin P .lss T_int t51 a1 w fun t54 w =>
      wIf t54 (
        wCall P n_slices_symMergeCmpFunc_int [a0, v7, t51, a1, a2] w fun _ w =>
        wBin P .mul T_int v6 (.int .i64 2) w fun t62 w =>
        k1 t62 w) (
        wBin P .mul T_int v6 (.int .i64 2) w fun t62 w =>
        k1 t62 w)) (
      k (.tuple #[]) w))

theorem call_slices_stableCmpFunc_int (a0 a1 a2 : Value) {w : World} {k : Value → World → Prop} (h : F_slices_stableCmpFunc_int a0 a1 a2 w k) : wCall P n_slices_stableCmpFunc_int [a0, a1, a2] w k :=
  call_of_den mixedP Try.func241 (by kernel_rfl) (.s .z (.s .z (.j [7] [0, 1, 2, 6] (.b (.l [7, 8] [0, 1, 2, 6] .z)) (.s .z (.b (.l [6] [0, 1, 2] (.s .z (.b (.s .z (.j [7] [0, 1, 2, 6] (.b (.l [7, 8] [0, 1, 2, 6] .z)) .z)))))))))) (by kernel_rfl) (Eq.mp (by kernel_rfl) h)

def F_slices_IndexFunc_codec_Use (a0 a1 : Value) (w : World) (k : Value → World → Prop) : Prop :=
  wLen P .len #[T_Lcodec_Use] [a0] w fun t7 w =>
  wL1 (.int .i64 0) w (fun _ v8 w k1 =>
    wBin P .lss T_int v8 t7 w fun t9 w =>
    wIf t9 (
      wIndexA P T_Lcodec_Use a0 v8 w fun t14 w =>
      wLoad P T_codec_Use t14 w fun t15 w =>
      wCallV P a1 [t15] w fun t16 w =>
      wIf t16 (
        k v8 w) (
        wBin P .add T_int v8 (.int .i64 1) w fun t18 w =>
        k1 t18 w)) (
      k (.int .i64 (-1)) w))

theorem call_slices_IndexFunc_codec_Use (a0 a1 : Value) {w : World} {k : Value → World → Prop} (h : F_slices_IndexFunc_codec_Use a0 a1 w k) : wCall P n_slices_IndexFunc_codec_Use [a0, a1] w k :=
  call_of_den mixedP Try.func259 (by kernel_rfl) (.s .z (.s (.s .z (.b (.l [8] [0, 1, 7] .z))) .z)) (by kernel_rfl) (Eq.mp (by kernel_rfl) h)

def F_slices_rotateRight_int (a0 a1 : Value) (w : World) (k : Value → World → Prop) : Prop :=
  wLen P .len #[T_Lint] [a0] w fun t6 w =>
  wBin P .sub T_int t6 a1 w fun t8 w =>
  wCall P n_slices_rotateLeft_int [a0, t8] w fun _ w =>
  k (.tuple #[]) w

theorem call_slices_rotateRight_int (a0 a1 : Value) {w : World} {k : Value → World → Prop} (h : F_slices_rotateRight_int a0 a1 w k) : wCall P n_slices_rotateRight_int [a0, a1] w k :=
  call_of_den mixedP Try.func263 (by kernel_rfl) .z (by kernel_rfl) (Eq.mp (by kernel_rfl) h)

def F_slices_ContainsFunc_int (a0 a1 : Value) (w : World) (k : Value → World → Prop) : Prop :=
  wCall P n_slices_IndexFunc_int [a0, a1] w fun t7 w =>
  wBin P .geq T_int t7 (.int .i64 0) w fun t8 w =>
  k t8 w

theorem call_slices_ContainsFunc_int (a0 a1 : Value) {w : World} {k : Value → World → Prop} (h : F_slices_ContainsFunc_int a0 a1 w k) : wCall P n_slices_ContainsFunc_int [a0, a1] w k :=
  call_of_den mixedP Try.func266 (by kernel_rfl) .z (by kernel_rfl) (Eq.mp (by kernel_rfl) h)

def F_slices_Contains_int (a0 a1 : Value) (w : World) (k : Value → World → Prop) : Prop :=
  wCall P n_slices_Index_int [a0, a1] w fun t7 w =>
  wBin P .geq T_int t7 (.int .i64 0) w fun t8 w =>
  k t8 w

theorem call_slices_Contains_int (a0 a1 : Value) {w : World} {k : Value → World → Prop} (h : F_slices_Contains_int a0 a1 w k) : wCall P n_slices_Contains_int [a0, a1] w k :=
  call_of_den mixedP Try.func276 (by kernel_rfl) .z (by kernel_rfl) (Eq.mp (by kernel_rfl) h)

def F_slices_Backward_disk_write_c1 (a0 a1 : Value) (w : World) (k : Value → World → Prop) : Prop :=
  wLoad P T_Ldisk_write a1 w fun t4 w =>
  wLen P .len #[T_Ldisk_write] [t4] w fun t5 w =>
  wBin P .sub T_int t5 (.int .i64 1) w fun t6 w =>
  wL1 t6 w (fun _ v3 w k1 =>
    wBin P .geq T_int v3 (.int .i64 0) w fun t8 w =>
    wIf t8 (
      wLoad P T_Ldisk_write a1 w fun t13 w =>
      wIndexA P T_Ldisk_write t13 v3 w fun t15 w =>
      wLoad P T_disk_write t15 w fun t16 w =>
      wCallV P a0 [v3, t16] w fun t17 w =>
      wUn P .not t17 w fun t18 w =>
      wIf t18 (
        k (.tuple #[]) w) (
        wBin P .sub T_int v3 (.int .i64 1) w fun t10 w =>
        k1 t10 w)) (
      k (.tuple #[]) w))

theorem call_slices_Backward_disk_write_c1 (a0 a1 : Value) {w : World} {k : Value → World → Prop} (h : F_slices_Backward_disk_write_c1 a0 a1 w k) : wCall P n_slices_Backward_disk_write_c1 [a0, a1] w k :=
  call_of_den mixedP Try.func277 (by kernel_rfl) (.s .z (.b (.l [3] [0, 1] .z))) (by kernel_rfl) (Eq.mp (by kernel_rfl) h)

def F_slices_insertionSortCmpFunc_int (a0 a1 a2 a3 : Value) (w : World) (k : Value → World → Prop) : Prop :=
  wBin P .add T_int a1 (.int .i64 1) w fun t11 w =>
  wL1 t11 w (fun _ v8 w k1 =>
    wBin P .lss T_int v8 a2 w fun t14 w =>
    wIf t14 (
      wJ0 (fun k3 =>
        wL1 v8 w (fun _ v9 w k4 =>
          wDraw w fun w =>
          wBin P .gtr T_int v9 a1 w fun t20 w =>
          wGrp t20 true (fun k33 =>
            wIndexA P T_Lint a0 v9 w fun t25 w =>
            wLoad P T_int t25 w fun t26 w =>
            wBin P .sub T_int v9 (.int .i64 1) w fun t29 w =>
            wIndexA P T_Lint a0 t29 w fun t30 w =>
            wLoad P T_int t30 w fun t31 w =>
            wCallV P a3 [t26, t31] w fun t32 w =>
            wBin P .lss T_int t32 (.int .i64 0) w fun t33 w =>
            k33 t33 w) w fun _ t33 w =>
          wPick t20 t33 (.bool false) w fun t34 w =>
          wIf t34 (
            wDraw w fun w =>
            wBin P .sub T_int v9 (.int .i64 1) w fun t41 w =>
            wBin P .sub T_int v9 (.int .i64 1) w fun t44 w =>
            wIndexA P T_Lint a0 t44 w fun t45 w =>
            wLoad P T_int t45 w fun t46 w =>
            wIndexA P T_Lint a0 v9 w fun t49 w =>
            wLoad P T_int t49 w fun t50 w =>
            wIndexA P T_Lint a0 v9 w fun t51 w =>
            wStore P T_int t51 t46 w fun w =>
            wIndexA P T_Lint a0 t41 w fun t52 w =>
            wStore P T_int t52 t50 w fun w =>
            wBin P .sub T_int v9 (.int .i64 1) w fun t36 w =>
            k4 t36 w) (
            k3 w))) fun _ w =>
      wBin P .add T_int v8 (.int .i64 1) w fun t16 w =>
      k1 t16 w) (
      k (.tuple #[]) w))

theorem call_slices_insertionSortCmpFunc_int (a0 a1 a2 a3 : Value) {w : World} {k : Value → World → Prop} (h : F_slices_insertionSortCmpFunc_int a0 a1 a2 a3 w k) : wCall P n_slices_insertionSortCmpFunc_int [a0, a1, a2, a3] w k :=
  call_of_den mixedP Try.func282 (by kernel_rfl) (.s .z (.b (.l [8] [0, 1, 2, 3] (.s .z (.j [] [0, 1, 2, 3, 8] (.b (.s .z (.b (.l [9] [0, 1, 2, 3, 8] (.s (.s (.r (.ops [0, 1, 2, 3] (.grp 3 true 33 [22, 23, 24, 25, 26, 27, 28, 29, 30, 31, 32] (.ops [4, 5, 6, 7, 8, 9, 10, 11, 12, 13] (.eff 14 [] (.ops [15] .nil))) (.ops [16] .nil)))) .z) (.s (.b (.r (.ops [0, 1, 2, 3, 4, 5, 6, 7, 8, 9, 10, 11, 12, 13, 14] (.eff 15 [] (.ops [16] (.eff 17 [] .nil)))))) .z)))))) .z))))) (by kernel_rfl) (Eq.mp (by kernel_rfl) h)

def F_slices_symMergeCmpFunc_int (a0 a1 a2 a3 a4 : Value) (w : World) (k : Value → World → Prop) : Prop :=
  wJ0 (fun k1 =>
    wBin P .sub T_int a2 a1 w fun t27 w =>
    wBin P .eql T_int t27 (.int .i64 1) w fun t28 w =>
    wIf t28 (
      wJ1 (fun k3 =>
        wL2 a2 a3 w (fun _ v10 v11 w k4 =>
          wBin P .lss T_int v10 v11 w fun t33 w =>
          wIf t33 (
            wBin P .add T_int v10 v11 w fun t36 w =>
            wConv P T_int T_uint t36 w fun t37 w =>
            wBin P .shr T_uint t37 (.int .u64 1) w fun t38 w =>
            wConv P T_uint T_int t38 w fun t39 w =>
            wDraw w fun w =>
            wIndexA P T_Lint a0 t39 w fun t43 w =>
            wLoad P T_int t43 w fun t44 w =>
            wIndexA P T_Lint a0 a1 w fun t47 w =>
            wLoad P T_int t47 w fun t48 w =>
            wCallV P a4 [t44, t48] w fun t49 w =>
            wBin P .lss T_int t49 (.int .i64 0) w fun t50 w =>
            wIf t50 (
              wBin P .add T_int t39 (.int .i64 1) w fun t52 w =>
              k4 t52 v11 w) (
              k4 v10 t39 w)) (
            k3 v10 w))) fun _ v10 w =>
      wL1 a1 w (fun _ v13 w k3 =>
        wBin P .sub T_int v10 (.int .i64 1) w fun t57 w =>
        wBin P .lss T_int v13 t57 w fun t58 w =>
        wIf t58 (
          wDraw w fun w =>
          wBin P .add T_int v13 (.int .i64 1) w fun t65 w =>
          wBin P .add T_int v13 (.int .i64 1) w fun t68 w =>
          wIndexA P T_Lint a0 t68 w fun t69 w =>
          wLoad P T_int t69 w fun t70 w =>
          wIndexA P T_Lint a0 v13 w fun t73 w =>
          wLoad P T_int t73 w fun t74 w =>
          wIndexA P T_Lint a0 v13 w fun t75 w =>
          wStore P T_int t75 t70 w fun w =>
          wIndexA P T_Lint a0 t65 w fun t76 w =>
          wStore P T_int t76 t74 w fun w =>
          wBin P .add T_int v13 (.int .i64 1) w fun t60 w =>
          k3 t60 w) (
          k (.tuple #[]) w))) (
      k1 w)) fun _ w =>
  wJ0 (fun k1 =>
    wBin P .sub T_int a3 a2 w fun t79 w =>
    wBin P .eql T_int t79 (.int .i64 1) w fun t80 w =>
    wIf t80 (
      wJ1 (fun k3 =>
        wL2 a1 a2 w (fun _ v14 v15 w k4 =>
          wBin P .lss T_int v14 v15 w fun t85 w =>
          wIf t85 (
            wBin P .add T_int v14 v15 w fun t88 w =>
            wConv P T_int T_uint t88 w fun t89 w =>
            wBin P .shr T_uint t89 (.int .u64 1) w fun t90 w =>
            wConv P T_uint T_int t90 w fun t91 w =>
            wDraw w fun w =>
            wIndexA P T_Lint a0 a2 w fun t95 w =>
            wLoad P T_int t95 w fun t96 w =>
            wIndexA P T_Lint a0 t91 w fun t99 w =>
            wLoad P T_int t99 w fun t100 w =>
            wCallV P a4 [t96, t100] w fun t101 w =>
            wBin P .lss T_int t101 (.int .i64 0) w fun t102 w =>
            wUn P .not t102 w fun t103 w =>
            wIf t103 (
              wBin P .add T_int t91 (.int .i64 1) w fun t105 w =>
              k4 t105 v15 w) (
              k4 v14 t91 w)) (
            k3 v14 w))) fun _ v14 w =>
      wL1 a2 w (fun _ v17 w k3 =>
        wBin P .gtr T_int v17 v14 w fun t110 w =>
        wIf t110 (
          wDraw w fun w =>
          wBin P .sub T_int v17 (.int .i64 1) w fun t117 w =>
          wBin P .sub T_int v17 (.int .i64 1) w fun t120 w =>
          wIndexA P T_Lint a0 t120 w fun t121 w =>
          wLoad P T_int t121 w fun t122 w =>
          wIndexA P T_Lint a0 v17 w fun t125 w =>
          wLoad P T_int t125 w fun t126 w =>
          wIndexA P T_Lint a0 v17 w fun t127 w =>
          wStore P T_int t127 t122 w fun w =>
          wIndexA P T_Lint a0 t117 w fun t128 w =>
          wStore P T_int t128 t126 w fun w =>
          wBin P .sub T_int v17 (.int .i64 1) w fun t112 w =>
          k3 t112 w) (
          k (.tuple #[]) w))) (
      k1 w)) fun _ w =>
  wBin P .add T_int a1 a3 w fun t131 w =>
  wConv P T_int T_uint t131 w fun t132 w =>
  wBin P .shr T_uint t132 (.int .u64 1) w fun t133 w =>
  wConv P T_uint T_int t133 w fun t134 w =>
  wBin P .add T_int t134 a2 w fun t137 w =>
  wJ2 (fun k1 =>
    wBin P .gtr T_int a2 t134 w fun t140 w =>
    wIf t140 (
      wBin P .sub T_int t137 a3 w fun t143 w =>
      k1 t143 t134 w) (
      k1 a1 a2 w)) fun _ v20 v21 w =>
  wBin P .sub T_int t137 (.int .i64 1) w fun t148 w =>
  wJ1 (fun k1 =>
    wL2 v20 v21 w (fun _ v20 v21 w k2 =>
      wBin P .lss T_int v20 v21 w fun t151 w =>
      wIf t151 (
        wBin P .add T_int v20 v21 w fun t154 w =>
        wConv P T_int T_uint t154 w fun t155 w =>
        wBin P .shr T_uint t155 (.int .u64 1) w fun t156 w =>
        wConv P T_uint T_int t156 w fun t157 w =>
        wDraw w fun w =>
        wBin P .sub T_int t148 t157 w fun t162 w =>
        wIndexA P T_Lint a0 t162 w fun t163 w =>
        wLoad P T_int t163 w fun t164 w =>
        wIndexA P T_Lint a0 t157 w fun t167 w =>
        wLoad P T_int t167 w fun t168 w =>
        wCallV P a4 [t164, t168] w fun t169 w =>
        wBin P .lss T_int t169 (.int .i64 0) w fun t170 w =>
        wUn P .not t170 w fun t171 w =>
        wIf t171 (
          wBin P .add T_int t157 (.int .i64 1) w fun t173 w =>
          k2 t173 v21 w) (
          k2 v20 t157 w)) (
        k1 v20 w))) fun _ v20 w =>
  wBin P .sub T_int t137 v20 w fun t177 w =>
  wJ0 (fun k1 =>
    wBin P .lss T_int v20 a2 w fun t180 w =>
    wGrp t180 true (fun k184 =>
      wBin P .lss T_int a2 t177 w fun t184 w =>
      k184 t184 w) w fun _ t184 w =>
    wPick t180 t184 (.bool false) w fun t185 w =>
    wIf t185 (
      wCall P n_slices_rotateCmpFunc_int [a0, v20, a2, t177, a4] w fun _ w =>
      k1 w) (
      k1 w)) fun _ w =>
  wJ0 (fun k1 =>
    wBin P .lss T_int a1 v20 w fun t194 w =>
    wGrp t194 true (fun k198 =>
      wBin P .lss T_int v20 t134 w fun t198 w =>
      k198 t198 w) w fun _ t198 w =>
    wPick t194 t198 (.bool false) w fun t199 w =>
    wIf t199 (
      wCall P n_slices_symMergeCmpFunc_int [a0, a1, v20, t134, a4] w fun _ w =>
      k1 w) (
      k1 w)) fun _ w =>
  wBin P .lss T_int t134 t177 w fun t208 w =>
  wGrp t208 true (fun k212 =>
    wBin P .lss T_int t177 a3 w fun t212 w =>
    k212 t212 w) w fun _ t212 w =>
  wPick t208 t212 (.bool false) w fun t213 w =>
  wIf t213 (
    wCall P n_slices_symMergeCmpFunc_int [a0, t134, t177, a3, a4] w fun _ w =>
    k (.tuple #[]) w) (
    k (.tuple #[]) w)

theorem call_slices_symMergeCmpFunc_int (a0 a1 a2 a3 a4 : Value) {w : World} {k : Value → World → Prop} (h : F_slices_symMergeCmpFunc_int a0 a1 a2 a3 a4 w k) : wCall P n_slices_symMergeCmpFunc_int [a0, a1, a2, a3, a4] w k :=
  call_of_den mixedP Try.func283 (by kernel_rfl) (.j [] [0, 1, 2, 3, 4] (.s .z (.s (.s .z (.s .z (.j [10] [0, 1] (.b (.l [10, 11] [0, 1, 4] (.s .z (.b (.s .z (.s (.r (.ops [0, 1, 2, 3, 4, 5, 6, 7, 8] (.eff 9 [] (.ops [10] .nil)))) .z)))))) (.s (.s .z (.b (.l [13] [0, 10] (.s .z (.s (.b (.r (.ops [0, 1, 2, 3, 4, 5, 6, 7, 8, 9, 10, 11, 12, 13, 14] (.eff 15 [] (.ops [16] (.eff 17 [] .nil)))))) .z))))) .z)))) .z)) (.j [] [0, 1, 2, 3, 4] (.s .z (.s (.s .z (.s .z (.j [14] [0, 2] (.b (.l [14, 15] [0, 2, 4] (.s .z (.b (.s .z (.s (.r (.ops [0, 1, 2, 3, 4, 5, 6, 7, 8] (.eff 9 [] (.ops [10, 11] .nil)))) .z)))))) (.s (.s .z (.b (.l [17] [0, 14] (.s .z (.s (.b (.r (.ops [0, 1, 2, 3, 4, 5, 6, 7, 8, 9, 10, 11, 12, 13, 14] (.eff 15 [] (.ops [16] (.eff 17 [] .nil)))))) .z))))) .z)))) .z)) (.s .z (.s .z (.s .z (.j [20, 21] [0, 1, 2, 3, 4, 18, 19] .z (.s .z (.j [20] [0, 1, 2, 3, 4, 18, 19] (.b (.l [20, 21] [0, 1, 2, 3, 4, 18, 19, 22] (.s .z (.b (.s .z (.s (.r (.ops [0, 1, 2, 3, 4, 5, 6, 7, 8, 9, 10] (.eff 11 [] (.ops [12, 13] .nil)))) .z)))))) (.s .z (.j [] [0, 1, 3, 4, 18, 20, 24] (.s (.r (.ops [0, 1, 2, 3] (.grp 3 true 184 [182, 183] (.ops [4, 5, 6] .nil) (.ops [7] .nil)))) .z) (.j [] [0, 3, 4, 18, 24] (.s (.r (.ops [0, 1, 2, 3] (.grp 3 true 198 [196, 197] (.ops [4, 5, 6] .nil) (.ops [7] .nil)))) .z) (.s (.r (.ops [0, 1, 2, 3] (.grp 3 true 212 [210, 211] (.ops [4, 5, 6] .nil) (.ops [7] .nil)))) .z)))))))))))) (by kernel_rfl) (Eq.mp (by kernel_rfl) h)

def F_slices_rotateLeft_int (a0 a1 : Value) (w : World) (k : Value → World → Prop) : Prop :=
  wSlice P T_Lint a0 none (some a1) none w fun t6 w =>
  wCall P n_slices_Reverse_int [t6] w fun _ w =>
  wSlice P T_Lint a0 (some a1) none none w fun t10 w =>
  wCall P n_slices_Reverse_int [t10] w fun _ w =>
  wCall P n_slices_Reverse_int [a0] w fun _ w =>
  k (.tuple #[]) w

theorem call_slices_rotateLeft_int (a0 a1 : Value) {w : World} {k : Value → World → Prop} (h : F_slices_rotateLeft_int a0 a1 w k) : wCall P n_slices_rotateLeft_int [a0, a1] w k :=
  call_of_den mixedP Try.func288 (by kernel_rfl) .z (by kernel_rfl) (Eq.mp (by kernel_rfl) h)

def F_slices_IndexFunc_int (a0 a1 : Value) (w : World) (k : Value → World → Prop) : Prop :=
  wLen P .len #[T_Lint] [a0] w fun t7 w =>
  wL1 (.int .i64 0) w (fun _ v8 w k1 =>
    wBin P .lss T_int v8 t7 w fun t9 w =>
    wIf t9 (
      wIndexA P T_Lint a0 v8 w fun t14 w =>
      wLoad P T_int t14 w fun t15 w =>
      wCallV P a1 [t15] w fun t16 w =>
      wIf t16 (
        k v8 w) (
        wBin P .add T_int v8 (.int .i64 1) w fun t18 w =>
        k1 t18 w)) (
      k (.int .i64 (-1)) w))

theorem call_slices_IndexFunc_int (a0 a1 : Value) {w : World} {k : Value → World → Prop} (h : F_slices_IndexFunc_int a0 a1 w k) : wCall P n_slices_IndexFunc_int [a0, a1] w k :=
  call_of_den mixedP Try.func290 (by kernel_rfl) (.s .z (.s (.s .z (.b (.l [8] [0, 1, 7] .z))) .z)) (by kernel_rfl) (Eq.mp (by kernel_rfl) h)

def F_slices_Index_int (a0 a1 : Value) (w : World) (k : Value → World → Prop) : Prop :=
  wLen P .len #[T_Lint] [a0] w fun t7 w =>
  wL1 (.int .i64 0) w (fun _ v8 w k1 =>
    wBin P .lss T_int v8 t7 w fun t9 w =>
    wIf t9 (
      wIndexA P T_Lint a0 v8 w fun t14 w =>
      wLoad P T_int t14 w fun t15 w =>
      wBin P .eql T_int a1 t15 w fun t16 w =>
      wIf t16 (
        k v8 w) (
        wBin P .add T_int v8 (.int .i64 1) w fun t18 w =>
        k1 t18 w)) (
      k (.int .i64 (-1)) w))

theorem call_slices_Index_int (a0 a1 : Value) {w : World} {k : Value → World → Prop} (h : F_slices_Index_int a0 a1 w k) : wCall P n_slices_Index_int [a0, a1] w k :=
  call_of_den mixedP Try.func293 (by kernel_rfl) (.s .z (.s (.s .z (.b (.l [8] [0, 1, 7] .z))) .z)) (by kernel_rfl) (Eq.mp (by kernel_rfl) h)

def F_slices_rotateCmpFunc_int (a0 a1 a2 a3 a4 : Value) (w : World) (k : Value → World → Prop) : Prop :=
  wBin P .sub T_int a2 a1 w fun t14 w =>
  wBin P .sub T_int a3 a2 w fun t17 w =>
  wJ1 (fun k1 =>
    wL2 t14 t17 w (fun _ v10 v11 w k2 =>
      wBin P .neq T_int v10 v11 w fun t20 w =>
      wIf t20 (
        wBin P .gtr T_int v10 v11 w fun t23 w =>
        wIf t23 (
          wBin P .sub T_int a2 v10 w fun t27 w =>
          wCall P n_slices_swapRangeCmpFunc_int [a0, t27, a2, v11, a4] w fun _ w =>
          wBin P .sub T_int v10 v11 w fun t34 w =>
          k2 t34 v11 w) (
          wBin P .sub T_int a2 v10 w fun t38 w =>
          wBin P .add T_int a2 v11 w fun t41 w =>
          wBin P .sub T_int t41 v10 w fun t43 w =>
          wCall P n_slices_swapRangeCmpFunc_int [a0, t38, t43, v10, a4] w fun _ w =>
          wBin P .sub T_int v11 v10 w fun t49 w =>
          k2 v10 t49 w)) (
        k1 v10 w))) fun _ v10 w =>
  wBin P .sub T_int a2 v10 w fun t53 w =>
  wCall P n_slices_swapRangeCmpFunc_int [a0, t53, a2, v10, a4] w fun _ w =>
  k (.tuple #[]) w

theorem call_slices_rotateCmpFunc_int (a0 a1 a2 a3 a4 : Value) {w : World} {k : Value → World → Prop} (h : F_slices_rotateCmpFunc_int a0 a1 a2 a3 a4 w k) : wCall P n_slices_rotateCmpFunc_int [a0, a1, a2, a3, a4] w k :=
  call_of_den mixedP Try.func295 (by kernel_rfl) (.s .z (.s .z (.j [10] [0, 2, 4] (.b (.l [10, 11] [0, 2, 4] .z)) .z))) (by kernel_rfl) (Eq.mp (by kernel_rfl) h)

def F_slices_Reverse_int (a0 : Value) (w : World) (k : Value → World → Prop) : Prop :=
  wLen P .len #[T_Lint] [a0] w fun t5 w =>
  wBin P .sub T_int t5 (.int .i64 1) w fun t6 w =>
  wL2 (.int .i64 0) t6 w (fun _ v2 v3 w k1 =>
    wBin P .lss T_int v2 v3 w fun t9 w =>
    wIf t9 (
      wDraw w fun w =>
      wIndexA P T_Lint a0 v3 w fun t20 w =>
      wLoad P T_int t20 w fun t21 w =>
      wIndexA P T_Lint a0 v2 w fun t24 w =>
      wLoad P T_int t24 w fun t25 w =>
      wIndexA P T_Lint a0 v2 w fun t26 w =>
      wStore P T_int t26 t21 w fun w =>
      wIndexA P T_Lint a0 v3 w fun t27 w =>
      wStore P T_int t27 t25 w fun w =>
      wBin P .add T_int v2 (.int .i64 1) w fun t11 w =>
      wBin P .sub T_int v3 (.int .i64 1) w fun t13 w =>
      k1 t11 t13 w) (
      k (.tuple #[]) w))

theorem call_slices_Reverse_int (a0 : Value) {w : World} {k : Value → World → Prop} (h : F_slices_Reverse_int a0 w k) : wCall P n_slices_Reverse_int [a0] w k :=
  call_of_den mixedP Try.func296 (by kernel_rfl) (.s .z (.b (.l [2, 3] [0] (.s .z (.s (.b (.r (.ops [0, 1, 2, 3, 4, 5, 6, 7, 8, 9, 10, 11, 12] (.eff 13 [] (.ops [14] (.eff 15 [] .nil)))))) .z))))) (by kernel_rfl) (Eq.mp (by kernel_rfl) h)

def F_slices_swapRangeCmpFunc_int (a0 a1 a2 a3 a4 : Value) (w : World) (k : Value → World → Prop) : Prop :=
  wL1 (.int .i64 0) w (fun _ v10 w k1 =>
    wBin P .lss T_int v10 a3 w fun t13 w =>
    wIf t13 (
      wDraw w fun w =>
      wBin P .add T_int a1 v10 w fun t19 w =>
      wBin P .add T_int a2 v10 w fun t23 w =>
      wBin P .add T_int a2 v10 w fun t27 w =>
      wIndexA P T_Lint a0 t27 w fun t28 w =>
      wLoad P T_int t28 w fun t29 w =>
      wBin P .add T_int a1 v10 w fun t33 w =>
      wIndexA P T_Lint a0 t33 w fun t34 w =>
      wLoad P T_int t34 w fun t35 w =>
      wIndexA P T_Lint a0 t19 w fun t36 w =>
      wStore P T_int t36 t29 w fun w =>
      wIndexA P T_Lint a0 t23 w fun t37 w =>
      wStore P T_int t37 t35 w fun w =>
      wBin P .add T_int v10 (.int .i64 1) w fun t15 w =>
      k1 t15 w) (
      k (.tuple #[]) w))

theorem call_slices_swapRangeCmpFunc_int (a0 a1 a2 a3 a4 : Value) {w : World} {k : Value → World → Prop} (h : F_slices_swapRangeCmpFunc_int a0 a1 a2 a3 a4 w k) : wCall P n_slices_swapRangeCmpFunc_int [a0, a1, a2, a3, a4] w k :=
  call_of_den mixedP Try.func298 (by kernel_rfl) (.s .z (.b (.l [10] [0, 1, 2, 3] (.s .z (.s (.b (.r (.ops [0, 1, 2, 3, 4, 5, 6, 7, 8, 9, 10, 11, 12, 13, 14, 15, 16, 17, 18, 19, 20] (.eff 21 [] (.ops [22] (.eff 23 [] .nil)))))) .z))))) (by kernel_rfl) (Eq.mp (by kernel_rfl) h)

end Go.Dn
end
section
/-! Contracts of package usage. -/
set_option maxRecDepth 10000
set_option linter.unusedVariables false
set_option linter.unusedSimpArgs false
namespace Go.Dn
open Go
structure U where
  live : Int
  state : Int
  age : Int
  deriving DecidableEq, Inhabited
def U.cells (u : U) : List Value := [.int .i64 u.live, .int .i64 u.state, .int .u32 u.age]
def fl (us : List U) : List Value := us.flatMap U.cells
theorem fl_nil : fl [] = [] := rfl
theorem fl_cons (u : U) (us : List U) : fl (u :: us) = .int .i64 u.live :: .int .i64 u.state :: .int .u32 u.age :: fl us := rfl
theorem fl_append (a b : List U) : fl (a ++ b) = fl a ++ fl b := by simp [fl]
theorem fl_length (us : List U) : (fl us).length = us.length * 3 := by
  induction us with
  | nil => rfl
  | cons u us ih => rw [fl_cons]; simp only [List.length_cons, ih]; omega
theorem fl_cell {us : List U} {i : Nat} {u : U} (h : us[i]? = some u) : ((fl us).drop (i * 3)).take 3 = u.cells := by
  induction us generalizing i with
  | nil => simp at h
  | cons x us ih =>
    cases i with
    | zero => simp at h; subst h; rfl
    | succ i =>
      have : (fl (x :: us)).drop ((i + 1) * 3) = (fl us).drop (i * 3) := by
        rw [fl_cons, show (i + 1) * 3 = i * 3 + 1 + 1 + 1 by omega]; rfl
      rw [this]; exact ih (by simpa using h)
theorem fl_at {us : List U} {i : Nat} {u : U} (h : us[i]? = some u) : (fl us)[i * 3]? = some (.int .i64 u.live) ∧ (fl us)[i * 3 + 1]? = some (.int .i64 u.state) ∧ (fl us)[i * 3 + 2]? = some (.int .u32 u.age) := by
  induction us generalizing i with
  | nil => simp at h
  | cons x us ih =>
    cases i with
    | zero => simp at h; subst h; exact ⟨rfl, rfl, rfl⟩
    | succ i =>
      have := ih (i := i) (by simpa using h)
      rw [fl_cons, show (i + 1) * 3 = i * 3 + 1 + 1 + 1 by omega, show i * 3 + 1 + 1 + 1 + 1 = (i * 3 + 1) + 1 + 1 + 1 by omega, show i * 3 + 1 + 1 + 1 + 2 = (i * 3 + 2) + 1 + 1 + 1 by omega]
      simpa using this
theorem fl_set {us : List U} {i : Nat} {u : U} (h : us[i]? = some u) (n : Int) (m : Int) (a : Int) :
    (fl us).set (i * 3) (.int .i64 n) = fl (us.set i { u with live := n }) ∧ (fl us).set (i * 3 + 1) (.int .i64 m) = fl (us.set i { u with state := m }) ∧ (fl us).set (i * 3 + 2) (.int .u32 a) = fl (us.set i { u with age := a }) := by
  induction us generalizing i with
  | nil => simp at h
  | cons x us ih =>
    cases i with
    | zero => simp at h; subst h; exact ⟨rfl, rfl, rfl⟩
    | succ i =>
      have := ih (i := i) (by simpa using h)
      rw [fl_cons, show (i + 1) * 3 = i * 3 + 1 + 1 + 1 by omega, show i * 3 + 1 + 1 + 1 + 1 = (i * 3 + 1) + 1 + 1 + 1 by omega, show i * 3 + 1 + 1 + 1 + 2 = (i * 3 + 2) + 1 + 1 + 1 by omega]
      simp only [List.set_cons_succ, fl_cons]
      rw [this.1, this.2.1, this.2.2]
      exact ⟨rfl, rfl, rfl⟩
theorem fl_repl (n : Nat) : (List.replicate n [.int .i64 0, .int .i64 0, .int .u32 0]).flatten = fl (List.replicate n ⟨0, 0, 0⟩) := by
  induction n with
  | zero => rfl
  | succ n ih => rw [List.replicate_succ, List.replicate_succ, fl_cons, ← ih]; rfl
/-- A table. -/
structure Tab (w : World) (h d : Nat) (room : Int) (us : List U) : Prop where
  tb : ∃ c, Blk w h T_usage_Table [.int .i64 room, .slice (some ⟨d, 0, none⟩) us.length c] ∧ us.length ≤ c
  ub : ∃ rest, Blk w d T_codec_Use (fl us ++ rest)
theorem Tab.ne {w : World} {h d : Nat} {room : Int} {us : List U} (H : Tab w h d room us) : h ≠ d := by
  obtain ⟨c, hb, _⟩ := H.tb
  obtain ⟨r, hr⟩ := H.ub
  exact hb.ne hr (by decide)
theorem Tab.ex {S : List Nat} {w w' : World} {h d : Nat} {room : Int} {us : List U} (H : Tab w h d room us) (hx : Ex S w w') (h1 : h ∉ S) (h2 : d ∉ S) : Tab w' h d room us := by
  obtain ⟨c, hb, hc⟩ := H.tb
  obtain ⟨r, hr⟩ := H.ub
  exact ⟨⟨c, hb.ex hx h1, hc⟩, ⟨r, hr.ex hx h2⟩⟩
theorem Tab.ex0 {w w' : World} {h d : Nat} {room : Int} {us : List U} (H : Tab w h d room us) (hx : Ex [] w w') : Tab w' h d room us := H.ex hx (by simp) (by simp)
theorem Tab.slg {w : World} {h d : Nat} {room : Int} {us : List U} (H : Tab w h d room us) {c : Nat} (hc : us.length ≤ c) : SlG w 3 (.slice (some ⟨d, 0, none⟩) us.length c) (fl us) := by
  obtain ⟨r, hr⟩ := H.ub
  refine SlG.of_cs (fun i v hv => ?_) (fl_length us) hc
  rw [Nat.zero_add, hr.cell, List.getElem?_append_left (List.getElem?_eq_some_iff.1 hv).1]
  exact hv
section
variable {w : World} {K : Value → World → Prop}
/-- 'append(l, x)' of ints. -/
theorem push_int {base n : Nat} {v : Value} {xs : List Nat} {b : Nat} {K : Value → World → Prop} (ho : Own w base T_int 1 v (ivs xs)) (hn : xs.length = n) (hb : n ≤ 1000000) (hba : base ≤ w.heap.size)
    (hk : ∀ v' w', Own w' base T_int 1 v' (ivs (xs ++ [b])) → Ex v.ownBlock.toList w w' → (v'.ownBlock = v.ownBlock ∨ ∃ g, v'.ownBlock = some g ∧ w.heap.size ≤ g) → K v' w') :
    wBuildS P T_Lint 1 [(0, .int .i64 (b : Int))] w fun t w => wBuiltin P .append #[T_Lint, T_Lint] [v, t] w K := by
  refine buildS_1 u_T_Lint (sizeOf_one o_T_int) z_T_int (by omega) rfl rfl rfl fun w1 g1 hg1 hE1 B1 => ?_
  have hle := hE1.le
  refine app_T_Lint (n := n) (m := 1) (ho.ex0 hE1) (SlG.of_cs B1.all (by simp) (Nat.le_refl _)) (by rw [ivs_length]; omega) (by simp) (by intro u hu; simp at hu; subst hu; rfl) (by omega) (by omega) fun v' w2 hO hE hv => ?_
  refine hk v' w2 (by rw [ivs_append]; exact hO) (hE1.nil.trans hE) ?_
  rcases hv with h | h
  · exact .inl h
  · exact .inr ⟨_, h, by omega⟩
theorem usage_among {n a b : Int} {k : Value → World → Prop} (hk : k (.int .i64 (max a (min n b))) w) : wCall P n_usage_among [.int .i64 n, .int .i64 a, .int .i64 b] w k := by
  refine call_usage_among _ _ _ ?_
  unfold F_usage_among
  rw [min_i, max_i]
  exact hk
theorem usage_New {segs room : Int} {k : Value → World → Prop}
    (hk : ∀ w' h d, w.heap.size ≤ h → w.heap.size ≤ d → Ex [] w w' → Tab w' h d (max 1 (min room 4096)) (List.replicate (max 1 (min segs 200)).toNat ⟨0, 0, 0⟩) → k (ptr h) w') :
    wCall P n_usage_New [.int .i64 segs, .int .i64 room] w k := by
  refine call_usage_New _ _ ?_
  unfold F_usage_New
  refine usage_among ?_
  refine usage_among ?_
  obtain ⟨n, hn⟩ : ∃ n : Nat, max 1 (min segs 200) = (n : Int) := ⟨(max 1 (min segs 200)).toNat, by omega⟩
  rw [hn, Int.toNat_natCast] at hk
  rw [hn]
  have hi : (P.info? T_codec_Use).map (fun i => (i.zero, i.size, i.bytes)) = some (some (.agg ⟨[.int .i64 0, .int .i64 0, .int .u32 0]⟩), 3, 24) := by kernel_rfl
  cases hI : P.info? T_codec_Use with
  | none => rw [hI] at hi; cases hi
  | some i =>
    rw [hI] at hi
    simp only [Option.map_some, Option.some.injEq, Prod.mk.injEq] at hi
    refine make_i (n := n) (bytes := 24) u_T_Lcodec_Use hI hi.1 rfl (by simp) hi.2.1 hi.2.2 (by simp; omega) (by omega) fun w1 g1 hg1 hE1 B1 => ?_
    rw [fl_repl] at B1
    rw [bl_T_usage_Table (cs := [.int .i64 (max 1 (min room 4096)), .slice (some ⟨g1, 0, none⟩) n n]) (by
      rw [fill_cons (off := 0) (size := 1) rfl rfl rfl (by simp), fill_cons (off := 1) (size := 1) rfl rfl rfl (by simp [splice])]
      rfl)]
    refine box_i (vs := [.int .i64 (max 1 (min room 4096)), .slice (some ⟨g1, 0, none⟩) n n]) rfl fun w2 g2 hg2 hE2 B2 => ?_
    have := hE1.le
    refine hk w2 g2 g1 (by omega) (by omega) (hE1.trans hE2) ⟨⟨n, ?_, by simp⟩, ⟨[], ?_⟩⟩
    · rw [List.length_replicate]; exact B2
    · rw [List.append_nil]; exact B1.ex hE2 (by simp)
theorem Tab.uses {h d : Nat} {room : Int} {us : List U} (H : Tab w h d room us) : ∃ c, us.length ≤ c ∧ w.cell? ⟨h, 0 + 1, none⟩ = some (.slice (some ⟨d, 0, none⟩) us.length c) := by
  obtain ⟨c, hb, hc⟩ := H.tb
  exact ⟨c, hc, hb.cell 1⟩
theorem Tab.room {h d : Nat} {room : Int} {us : List U} (H : Tab w h d room us) : w.cell? ⟨h, 0, none⟩ = some (.int .i64 room) := by
  obtain ⟨c, hb, hc⟩ := H.tb
  exact hb.cell 0
theorem usage_has {h d : Nat} {room seg : Int} {us : List U} {k : Value → World → Prop} (H : Tab w h d room us) (hk : k (.bool (decide (0 ≤ seg ∧ seg < us.length))) w) : wCall P n_usage_Table_has [ptr h, .int .i64 seg] w k := by
  refine call_usage_Table_has _ _ ?_
  unfold F_usage_Table_has
  obtain ⟨c, hc, hcell⟩ := H.uses
  simp only [bin_geq, nil_ptr, fA_T_usage_Table_1]
  simp only [ld_one o_T_Lcodec_Use hcell, len_s u_T_Lcodec_Use, bin_lss, and_p]
  have e : (decide (0 ≤ seg) && decide (seg < (us.length : Int))) = decide (0 ≤ seg ∧ seg < us.length) := by simp
  rw [e]; exact hk
theorem Tab.elem {h d : Nat} {room : Int} {us : List U} (H : Tab w h d room us) {i : Nat} {u : U} (hu : us[i]? = some u) : w.cell? ⟨d, 0 + i * 3, none⟩ = some (.int .i64 u.live) ∧ w.cell? ⟨d, 0 + i * 3 + 1, none⟩ = some (.int .i64 u.state) ∧ w.cell? ⟨d, 0 + i * 3 + 2, none⟩ = some (.int .u32 u.age) := by
  obtain ⟨r, hr⟩ := H.ub
  obtain ⟨h1, h2, h3⟩ := fl_at hu
  simp only [Nat.zero_add, hr.cell]
  refine ⟨?_, ?_, ?_⟩
  · rw [List.getElem?_append_left (List.getElem?_eq_some_iff.1 h1).1]; exact h1
  · rw [List.getElem?_append_left (List.getElem?_eq_some_iff.1 h2).1]; exact h2
  · rw [List.getElem?_append_left (List.getElem?_eq_some_iff.1 h3).1]; exact h3
theorem Tab.put {w' : World} {h d : Nat} {room : Int} {us vs : List U} (H : Tab w h d room us) {o : Nat} {x : Value} (hl : vs.length = us.length) (hx : Ex [d] w w') (hs : (fl us).set o x = fl vs) (ho : o < (fl us).length) {rest : List Value} (hb : Blk w' d T_codec_Use ((fl us ++ rest).set o x)) : Tab w' h d room vs := by
  obtain ⟨c, hb1, hc⟩ := H.tb
  refine ⟨⟨c, ?_, by omega⟩, ⟨rest, ?_⟩⟩
  · rw [hl]; exact hb1.ex hx (by simpa using H.ne)
  · rw [← hs, ← List.set_append_left _ _ ho]; exact hb
theorem usage_Set {h d : Nat} {room seg st : Int} {us : List U} {k : Value → World → Prop} (H : Tab w h d room us)
    (h0 : ¬ (0 ≤ seg ∧ seg < us.length ∧ 0 ≤ st ∧ st ≤ 3) → k (.int .i64 1) w)
    (h1 : ∀ w' u, 0 ≤ seg → us[seg.toNat]? = some u → 0 ≤ st → st ≤ 3 → Ex [d] w w' → Tab w' h d room (us.set seg.toNat { u with state := st }) → k (.int .i64 0) w') :
    wCall P n_usage_Table_Set [ptr h, .int .i64 seg, .int .i64 st] w k := by
  refine call_usage_Table_Set _ _ _ ?_
  unfold F_usage_Table_Set
  refine usage_has H ?_
  simp only [un_not, bin_lss, bin_gtr, or_p]
  refine wIf_i _ (fun hh => ?_) (fun hh => ?_)
  · refine h0 ?_
    simp only [Bool.or_eq_true, Bool.not_eq_true', decide_eq_false_iff_not, decide_eq_true_eq] at hh
    omega
  · simp only [Bool.or_eq_false_iff, Bool.not_eq_false', decide_eq_false_iff_not, decide_eq_true_eq] at hh
    obtain ⟨c, hc, hcell⟩ := H.uses
    have hlt : seg.toNat < us.length := by omega
    have hu := List.getElem?_eq_getElem hlt
    simp only [nil_ptr, fA_T_usage_Table_1]
    rw [ld_one o_T_Lcodec_Use hcell, indexS_i s_T_Lcodec_Use (by omega) (by omega)]
    simp only [fA_T_codec_Use_1]
    obtain ⟨r, hr⟩ := H.ub
    refine st_one o_T_int rfl hr (by rw [List.length_append, fl_length]; omega) fun w1 hE1 B1 => ?_
    rw [Nat.zero_add] at B1
    exact h1 w1 _ (by omega) hu (by omega) (by omega) hE1 (H.put (by simp) hE1 (fl_set hu 0 st 0).2.1 (by rw [fl_length]; omega) B1)
end
end Go.Dn
end
section
/-! Texts of functions, printed by mkg.py. -/
set_option maxRecDepth 100000
set_option linter.unusedVariables false
namespace Go.Dn
open Go Go.Proofs
def F_law09_UsageParts (a0 a1 : Value) (w : World) (k : Value → World → Prop) : Prop :=
  wCall P n_law09_awake [] w fun t6 w =>
  wUn P .not t6 w fun t7 w =>
  wIf t7 (
    k (.bool false) w) (
    wLen P .min #[T_int, T_int] [a0, (.int .i64 1125899906842624)] w fun t9 w =>
    wLen P .max #[T_int, T_int] [(.int .i64 (-1125899906842624)), t9] w fun t10 w =>
    wLen P .min #[T_int, T_int] [a1, (.int .i64 1125899906842624)] w fun t12 w =>
    wLen P .max #[T_int, T_int] [(.int .i64 (-1125899906842624)), t12] w fun t13 w =>
    wCall P n_usage_Part [t10, t13] w fun t16 w =>
    wBin P .neq T_int t13 (.int .i64 0) w fun t19 w =>
    wIf t19 (
      wConv P T_int T_float64 t10 w fun t22 w =>
      wConv P T_int T_float64 t13 w fun t24 w =>
      wBinF P .quo T_float64 t22 t24 w fun t25 w =>
      wBin P .eql T_float64 t16 t25 w fun t26 w =>
      k t26 w) (
      wBin P .eql T_int t10 (.int .i64 0) w fun t29 w =>
      wIf t29 (
        wBin P .neq T_float64 t16 t16 w fun t32 w =>
        k t32 w) (
        wBin P .gtr T_int t10 (.int .i64 0) w fun t35 w =>
        wIf t35 (
          wBin P .gtr T_float64 t16 (.float .f64 9094988921128908188) w fun t37 w =>
          k t37 w) (
          wBin P .lss T_float64 t16 (.float .f64 18318360957983683996) w fun t39 w =>
          k t39 w))))

theorem call_law09_UsageParts (a0 a1 : Value) {w : World} {k : Value → World → Prop} (h : F_law09_UsageParts a0 a1 w k) : wCall P n_law09_UsageParts [a0, a1] w k :=
  call_of_den mixedP Try.func10 (by kernel_rfl) .z (by kernel_rfl) (Eq.mp (by kernel_rfl) h)

def F_law09_UsageOrders (a0 a1 a2 : Value) (w : World) (k : Value → World → Prop) : Prop :=
  wCall P n_law09_awake [] w fun t15 w =>
  wUn P .not t15 w fun t16 w =>
  wIf t16 (
    k (.bool false) w) (
    wJ1 (fun k2 =>
      wLen P .len #[T_Lref05_Use] [a1] w fun t18 w =>
      wBin P .gtr T_int t18 (.int .i64 40) w fun t19 w =>
      wIf t19 (
        wSlice P T_Lref05_Use a1 none (some (.int .i64 40)) none w fun t21 w =>
        k2 t21 w) (
        k2 a1 w)) fun _ v1 w =>
    wCall P n_ref09_New [(.int .i64 1), a0] w fun t23 w =>
    wAlloc P T_ref09_Table w fun t7 w =>
    wStore P T_ref09_Table t7 t23 w fun w =>
    wFieldA P T_ref09_Table t7 1 w fun t24 w =>
    wStore P T_Lref05_Use t24 (.slice none 0 0) w fun w =>
    wJ1 (fun k2 =>
      wLen P .len #[T_Lref05_Use] [v1] w fun t26 w =>
      wL2 (.slice none 0 0) (.int .i64 0) w (fun _ v8 v27 w k3 =>
        wBin P .lss T_int v27 t26 w fun t28 w =>
        wIf t28 (
          wIndexA P T_Lref05_Use v1 v27 w fun t29 w =>
          wLoad P T_ref05_Use t29 w fun t30 w =>
          wAlloc P T_ref05_Use w fun t10 w =>
          wStore P T_ref05_Use t10 t30 w fun w =>
          wFieldA P T_ref05_Use t10 0 w fun t31 w =>
          wLoad P T_int t31 w fun t32 w =>
          wFieldA P T_ref09_Table t7 0 w fun t33 w =>
          wLoad P T_int t33 w fun t34 w =>
          wLen P .min #[T_int, T_int] [t32, t34] w fun t35 w =>
          wLen P .max #[T_int, T_int] [(.int .i64 0), t35] w fun t36 w =>
          wFieldA P T_ref05_Use t10 0 w fun t37 w =>
          wStore P T_int t37 t36 w fun w =>
          wFieldA P T_ref05_Use t10 1 w fun t38 w =>
          wLoad P T_int t38 w fun t39 w =>
          wBin P .and T_int t39 (.int .i64 3) w fun t40 w =>
          wFieldA P T_ref05_Use t10 1 w fun t41 w =>
          wStore P T_int t41 t40 w fun w =>
          wFieldA P T_ref09_Table t7 1 w fun t42 w =>
          wLoad P T_Lref05_Use t42 w fun t43 w =>
          wLoad P T_ref05_Use t10 w fun t44 w =>
          wBuildS P T_Lref05_Use 1 [(0, t44)] w fun t45 w =>
          wBuiltin P .append #[T_Lref05_Use, T_Lref05_Use] [t43, t45] w fun t46 w =>
          wFieldA P T_ref09_Table t7 1 w fun t47 w =>
          wStore P T_Lref05_Use t47 t46 w fun w =>
          wFieldA P T_ref05_Use t10 0 w fun t49 w =>
          wLoad P T_int t49 w fun t50 w =>
          wFieldA P T_ref05_Use t10 1 w fun t51 w =>
          wLoad P T_int t51 w fun t52 w =>
          wFieldA P T_ref05_Use t10 2 w fun t53 w =>
          wLoad P T_uint32 t53 w fun t54 w =>
          wBuild P T_codec_Use [(0, t50), (1, t52), (2, t54)] w fun t55 w =>
          wBuildS P T_Lcodec_Use 1 [(0, t55)] w fun t56 w =>
          wBuiltin P .append #[T_Lcodec_Use, T_Lcodec_Use] [v8, t56] w fun t57 w =>
          wBin P .add T_int v27 (.int .i64 1) w fun t58 w =>
          k3 t57 t58 w) (
          k2 v8 w))) fun _ v8 w =>
    wCall P n_usage_Load [a0, v8] w fun t62 w =>
    wExtract P t62 0 w fun t63 w =>
    wExtract P t62 1 w fun t64 w =>
    wLen P .len #[T_Lcodec_Use] [v8] w fun t66 w =>
    wBin P .eql T_int t66 (.int .i64 0) w fun t67 w =>
    wIf t67 (
      wBin P .eql T_api_Errno t64 (.int .i64 1) w fun t69 w =>
      wGrp t69 true (fun k72 =>
        wBin P .eql T_pusage_Table t63 (.pointer none) w fun t72 w =>
        k72 t72 w) w fun _ t72 w =>
      wPick t69 t72 (.bool false) w fun t73 w =>
      k t73 w) (
      wBin P .neq T_api_Errno t64 (.int .i64 0) w fun t75 w =>
      wGrp t75 false (fun k80 =>
        wLoad P T_ref09_Table t7 w fun t78 w =>
        wCall P n_law09_is [t63, t78] w fun t79 w =>
        wUn P .not t79 w fun t80 w =>
        k80 t80 w) w fun _ t80 w =>
      wPick t75 (.bool true) t80 w fun t81 w =>
      wIf t81 (
        k (.bool false) w) (
        wCall P n_usage_Table_Order [t63, a2] w fun t84 w =>
        wJ0 (fun k4 =>
          wL1 (.int .i64 1) w (fun _ v14 w k5 =>
            wLen P .len #[T_Lint] [t84] w fun t87 w =>
            wBin P .lss T_int v14 t87 w fun t88 w =>
            wIf t88 (
              wDraw w fun w =>
              wLoad P T_ref09_Table t7 w fun t91 w =>
              wIndexA P T_Lint t84 v14 w fun t94 w =>
              wLoad P T_int t94 w fun t95 w =>
              wBin P .sub T_int v14 (.int .i64 1) w fun t98 w =>
              wIndexA P T_Lint t84 t98 w fun t99 w =>
              wLoad P T_int t99 w fun t100 w =>
              wCall P n_ref09_Better [t91, t95, t100, a2] w fun t102 w =>
              wGrp t102 false (fun k128 =>
                wLoad P T_ref09_Table t7 w fun t104 w =>
                wBin P .sub T_int v14 (.int .i64 1) w fun t107 w =>
                wIndexA P T_Lint t84 t107 w fun t108 w =>
                wLoad P T_int t108 w fun t109 w =>
                wIndexA P T_Lint t84 v14 w fun t112 w =>
                wLoad P T_int t112 w fun t113 w =>
                wCall P n_ref09_Better [t104, t109, t113, a2] w fun t115 w =>
                wUn P .not t115 w fun t116 w =>
                wGrp t116 true (fun k127 =>
                  wBin P .sub T_int v14 (.int .i64 1) w fun t120 w =>
                  wIndexA P T_Lint t84 t120 w fun t121 w =>
                  wLoad P T_int t121 w fun t122 w =>
                  wIndexA P T_Lint t84 v14 w fun t125 w =>
                  wLoad P T_int t125 w fun t126 w =>
                  wBin P .gtr T_int t122 t126 w fun t127 w =>
                  k127 t127 w) w fun _ t127 w =>
                wPick t116 t127 (.bool false) w fun t128 w =>
                k128 t128 w) w fun _ t128 w =>
              wPick t102 (.bool true) t128 w fun t129 w =>
              wIf t129 (
                k (.bool false) w) (
                wBin P .add T_int v14 (.int .i64 1) w fun t90 w =>
                k5 t90 w)) (
              k4 w))) fun _ w =>
        wLoad P T_ref09_Table t7 w fun t131 w =>
        wCall P n_ref09_Order [t131, a2] w fun t133 w =>
        wCall P n_law09_ints [t84, t133] w fun t134 w =>
        k t134 w)))

theorem call_law09_UsageOrders (a0 a1 a2 : Value) {w : World} {k : Value → World → Prop} (h : F_law09_UsageOrders a0 a1 a2 w k) : wCall P n_law09_UsageOrders [a0, a1, a2] w k :=
  call_of_den mixedP Try.func14 (by kernel_rfl) (.s .z (.s .z (.j [1] [0, 2] .z (.s .z (.s .z (.s .z (.j [8] [0, 2, 7] (.s .z (.b (.l [8, 27] [0, 2, 7, 25, 26] .z))) (.s .z (.s (.s .z (.s (.s (.r (.ops [0, 1, 2] (.grp 2 true 72 [71] (.ops [3, 4] .nil) (.ops [5, 6] .nil)))) .z) .z)) (.s (.s (.r (.ops [0, 1, 2] (.grp 2 false 80 [77, 78, 79] (.ops [3, 4, 5, 6] .nil) (.ops [7] .nil)))) .z) (.s .z (.j [] [2, 7, 13] (.s .z (.b (.l [14] [2, 7, 13] (.s .z (.s (.b (.s (.r (.ops [0, 1, 2, 3, 4, 5, 6, 7, 8, 9, 10] (.eff 11 [] (.ops [12] (.grp 12 false 128 [104, 105, 106, 107, 108, 109, 110, 111, 112, 113, 114, 115, 116, 117, 118, 119, 120, 121, 122, 123, 124, 125, 126, 127] (.ops [13, 14, 15, 16, 17, 18, 19, 20, 21, 22, 23] (.eff 24 [] (.ops [25, 26] (.grp 26 true 127 [118, 119, 120, 121, 122, 123, 124, 125, 126] (.ops [27, 28, 29, 30, 31, 32, 33, 34, 35, 36] .nil) (.ops [37] .nil))))) (.ops [38] .nil)))))) .z)) .z))))) .z)))))))))))) (by kernel_rfl) (Eq.mp (by kernel_rfl) h)

def F_law09_UsageLoads (a0 a1 : Value) (w : World) (k : Value → World → Prop) : Prop :=
  wCall P n_law09_awake [] w fun t13 w =>
  wUn P .not t13 w fun t14 w =>
  wIf t14 (
    k (.bool false) w) (
    wJ1 (fun k2 =>
      wLen P .len #[T_Lref05_Use] [a1] w fun t16 w =>
      wBin P .gtr T_int t16 (.int .i64 210) w fun t17 w =>
      wIf t17 (
        wSlice P T_Lref05_Use a1 none (some (.int .i64 210)) none w fun t19 w =>
        k2 t19 w) (
        k2 a1 w)) fun _ v1 w =>
    wCall P n_ref09_New [(.int .i64 1), a0] w fun t21 w =>
    wAlloc P T_ref09_Table w fun t6 w =>
    wStore P T_ref09_Table t6 t21 w fun w =>
    wLen P .len #[T_Lref05_Use] [v1] w fun t23 w =>
    wBin P .gtr T_int t23 (.int .i64 0) w fun t24 w =>
    wGrp t24 true (fun k28 =>
      wLen P .len #[T_Lref05_Use] [v1] w fun t27 w =>
      wBin P .leq T_int t27 (.int .i64 200) w fun t28 w =>
      k28 t28 w) w fun _ t28 w =>
    wPick t24 t28 (.bool false) w fun t29 w =>
    wJ2 (fun k2 =>
      wLen P .len #[T_Lref05_Use] [v1] w fun t31 w =>
      wL3 (.slice none 0 0) t29 (.int .i64 0) w (fun _ v5 v7 v32 w k3 =>
        wBin P .lss T_int v32 t31 w fun t33 w =>
        wIf t33 (
          wIndexA P T_Lref05_Use v1 v32 w fun t34 w =>
          wLoad P T_ref05_Use t34 w fun t35 w =>
          wAlloc P T_ref05_Use w fun t9 w =>
          wStore P T_ref05_Use t9 t35 w fun w =>
          wFieldA P T_ref05_Use t9 0 w fun t37 w =>
          wLoad P T_int t37 w fun t38 w =>
          wFieldA P T_ref05_Use t9 1 w fun t39 w =>
          wLoad P T_int t39 w fun t40 w =>
          wFieldA P T_ref05_Use t9 2 w fun t41 w =>
          wLoad P T_uint32 t41 w fun t42 w =>
          wBuild P T_codec_Use [(0, t38), (1, t40), (2, t42)] w fun t43 w =>
          wBuildS P T_Lcodec_Use 1 [(0, t43)] w fun t44 w =>
          wBuiltin P .append #[T_Lcodec_Use, T_Lcodec_Use] [v5, t44] w fun t45 w =>
          wGrp v7 true (fun k50 =>
            wFieldA P T_ref05_Use t9 0 w fun t48 w =>
            wLoad P T_int t48 w fun t49 w =>
            wBin P .geq T_int t49 (.int .i64 0) w fun t50 w =>
            k50 t50 w) w fun _ t50 w =>
          wPick v7 t50 (.bool false) w fun t51 w =>
          wGrp t51 true (fun k57 =>
            wFieldA P T_ref05_Use t9 0 w fun t53 w =>
            wLoad P T_int t53 w fun t54 w =>
            wFieldA P T_ref09_Table t6 0 w fun t55 w =>
            wLoad P T_int t55 w fun t56 w =>
            wBin P .leq T_int t54 t56 w fun t57 w =>
            k57 t57 w) w fun _ t57 w =>
          wPick t51 t57 (.bool false) w fun t58 w =>
          wGrp t58 true (fun k62 =>
            wFieldA P T_ref05_Use t9 1 w fun t60 w =>
            wLoad P T_int t60 w fun t61 w =>
            wBin P .geq T_int t61 (.int .i64 0) w fun t62 w =>
            k62 t62 w) w fun _ t62 w =>
          wPick t58 t62 (.bool false) w fun t63 w =>
          wGrp t63 true (fun k67 =>
            wFieldA P T_ref05_Use t9 1 w fun t65 w =>
            wLoad P T_int t65 w fun t66 w =>
            wBin P .leq T_int t66 (.int .i64 3) w fun t67 w =>
            k67 t67 w) w fun _ t67 w =>
          wPick t63 t67 (.bool false) w fun t68 w =>
          wBin P .add T_int v32 (.int .i64 1) w fun t69 w =>
          k3 t45 t68 t69 w) (
          k2 v5 v7 w))) fun _ v5 v7 w =>
    wCall P n_usage_Load [a0, v5] w fun t73 w =>
    wExtract P t73 0 w fun t74 w =>
    wExtract P t73 1 w fun t75 w =>
    wUn P .not v7 w fun t77 w =>
    wIf t77 (
      wBin P .eql T_api_Errno t75 (.int .i64 1) w fun t79 w =>
      wGrp t79 true (fun k82 =>
        wBin P .eql T_pusage_Table t74 (.pointer none) w fun t82 w =>
        k82 t82 w) w fun _ t82 w =>
      wPick t79 t82 (.bool false) w fun t83 w =>
      k t83 w) (
      wFieldA P T_ref09_Table t6 1 w fun t85 w =>
      wStore P T_Lref05_Use t85 v1 w fun w =>
      wBin P .neq T_api_Errno t75 (.int .i64 0) w fun t87 w =>
      wGrp t87 false (fun k92 =>
        wLoad P T_ref09_Table t6 w fun t90 w =>
        wCall P n_law09_is [t74, t90] w fun t91 w =>
        wUn P .not t91 w fun t92 w =>
        k92 t92 w) w fun _ t92 w =>
      wPick t87 (.bool true) t92 w fun t93 w =>
      wIf t93 (
        k (.bool false) w) (
        wCall P n_usage_Table_Uses [t74] w fun t97 w =>
        wCall P n_usage_Load [a0, t97] w fun t98 w =>
        wExtract P t98 0 w fun t99 w =>
        wExtract P t98 1 w fun t100 w =>
        wIndexA P T_Lcodec_Use v5 (.int .i64 0) w fun t102 w =>
        wFieldA P T_codec_Use t102 0 w fun t103 w =>
        wStore P T_int t103 (.int .i64 (-7)) w fun w =>
        wBin P .eql T_api_Errno t100 (.int .i64 0) w fun t105 w =>
        wGrp t105 true (fun k109 =>
          wLoad P T_ref09_Table t6 w fun t108 w =>
          wCall P n_law09_is [t99, t108] w fun t109 w =>
          k109 t109 w) w fun _ t109 w =>
        wPick t105 t109 (.bool false) w fun t110 w =>
        wGrp t110 true (fun k114 =>
          wLoad P T_ref09_Table t6 w fun t113 w =>
          wCall P n_law09_is [t74, t113] w fun t114 w =>
          k114 t114 w) w fun _ t114 w =>
        wPick t110 t114 (.bool false) w fun t115 w =>
        k t115 w)))

theorem call_law09_UsageLoads (a0 a1 : Value) {w : World} {k : Value → World → Prop} (h : F_law09_UsageLoads a0 a1 w k) : wCall P n_law09_UsageLoads [a0, a1] w k :=
  call_of_den mixedP Try.func15 (by kernel_rfl) (.s .z (.s .z (.j [1] [0] .z (.s .z (.s .z (.s (.r (.ops [0, 1, 2, 3] (.grp 3 true 28 [26, 27] (.ops [4, 5, 6] .nil) (.ops [7, 8] .nil)))) (.j [5, 7] [0, 1, 6] (.s .z (.b (.l [5, 7, 32] [0, 1, 6, 30, 31] (.s .z (.s .z (.s (.b (.s .z (.s .z (.r (.ops [0, 1] (.grp 1 true 50 [48, 49] (.ops [2, 3, 4] .nil) (.ops [5, 6] (.grp 6 true 57 [53, 54, 55, 56] (.ops [7, 8, 9, 10, 11] .nil) (.ops [12, 13] (.grp 13 true 62 [60, 61] (.ops [14, 15, 16] .nil) (.ops [17, 18] (.grp 18 true 67 [65, 66] (.ops [19, 20, 21] .nil) (.ops [22, 23] .nil))))))))))))) .z)))))) (.s .z (.s (.s .z (.s (.s (.r (.ops [0, 1, 2] (.grp 2 true 82 [81] (.ops [3, 4] .nil) (.ops [5, 6] .nil)))) .z) .z)) (.s .z (.s (.s (.r (.ops [0, 1, 2] (.grp 2 false 92 [89, 90, 91] (.ops [3, 4, 5, 6] .nil) (.ops [7] .nil)))) .z) (.s .z (.s .z (.s (.r (.ops [0, 1, 2] (.grp 2 true 109 [107, 108] (.ops [3, 4, 5] .nil) (.ops [6, 7] (.grp 7 true 114 [112, 113] (.ops [8, 9, 10] .nil) (.ops [11, 12] .nil)))))) .z)))))))))))))) (by kernel_rfl) (Eq.mp (by kernel_rfl) h)

def F_law09_UsagePlays (a0 a1 a2 : Value) (w : World) (k : Value → World → Prop) : Prop :=
  wCall P n_law09_awake [] w fun t12 w =>
  wUn P .not t12 w fun t13 w =>
  wIf t13 (
    k (.bool false) w) (
    wLen P .min #[T_int, T_int] [a0, (.int .i64 30)] w fun t15 w =>
    wLen P .max #[T_int, T_int] [(.int .i64 (-3)), t15] w fun t16 w =>
    wCall P n_usage_New [t16, a1] w fun t19 w =>
    wCall P n_ref09_New [t16, a1] w fun t22 w =>
    wAlloc P T_ref09_Table w fun t8 w =>
    wStore P T_ref09_Table t8 t22 w fun w =>
    wLoad P T_ref09_Table t8 w fun t24 w =>
    wCall P n_law09_is [t19, t24] w fun t25 w =>
    wUn P .not t25 w fun t26 w =>
    wIf t26 (
      k (.bool false) w) (
      wL1 (.int .i64 0) w (fun _ v9 w k3 =>
        wLen P .len #[T_Llaw09_Act] [a2] w fun t29 w =>
        wBin P .lss T_int v9 t29 w fun t30 w =>
        wGrp t30 true (fun k33 =>
          wBin P .lss T_int v9 (.int .i64 40) w fun t33 w =>
          k33 t33 w) w fun _ t33 w =>
        wPick t30 t33 (.bool false) w fun t34 w =>
        wIf t34 (
          wJ2 (fun k5 =>
            wDraw w fun w =>
            wLoad P T_ref09_Table t8 w fun t39 w =>
            wIndexA P T_Llaw09_Act a2 v9 w fun t42 w =>
            wLoad P T_law09_Act t42 w fun t43 w =>
            (wCall P n_law09_do [t19, t39, t43] w fun t44 w =>
              wExtract P t44 0 w fun t45 w =>
              wExtract P t44 1 w fun t46 w =>
              wAlloc P T_ref09_Table w fun t10 w =>
              wKeep P [(T_ref09_Table, t8, t39), (T_law09_Act, t42, t43)] w ∧ wStore P T_ref09_Table t10 t45 w fun w =>
              k5 t10 t46 w) ∧ (wAlloc P T_ref09_Table w fun t10 w =>
              wKeep P [(T_ref09_Table, t8, t39), (T_law09_Act, t42, t43)] w ∧ wCall P n_law09_do [t19, t39, t43] w fun t44 w =>
              wExtract P t44 0 w fun t45 w =>
              wExtract P t44 1 w fun t46 w =>
              wStore P T_ref09_Table t10 t45 w fun w =>
              k5 t10 t46 w)) fun _ v10 v11 w =>
          wLoad P T_ref09_Table v10 w fun t47 w =>
          wStore P T_ref09_Table t8 t47 w fun w =>
          wUn P .not v11 w fun t49 w =>
          wGrp t49 false (fun k54 =>
            wLoad P T_ref09_Table t8 w fun t52 w =>
            wCall P n_law09_is [t19, t52] w fun t53 w =>
            wUn P .not t53 w fun t54 w =>
            k54 t54 w) w fun _ t54 w =>
          wPick t49 (.bool true) t54 w fun t55 w =>
          wIf t55 (
            k (.bool false) w) (
            wBin P .add T_int v9 (.int .i64 1) w fun t36 w =>
            k3 t36 w)) (
          k (.bool true) w))))

theorem call_law09_UsagePlays (a0 a1 a2 : Value) {w : World} {k : Value → World → Prop} (h : F_law09_UsagePlays a0 a1 a2 w k) : wCall P n_law09_UsagePlays [a0, a1, a2] w k :=
  call_of_den mixedP Try.func16 (by kernel_rfl) (.s .z (.s .z (.s .z (.s .z (.s .z (.s (.s .z (.b (.l [9] [2, 7, 8] (.s (.s (.r (.ops [0, 1, 2, 3, 4] (.grp 4 true 33 [32] (.ops [5, 6] .nil) (.ops [7] .nil)))) .z) (.s (.b (.j [10, 11] [2, 7, 8, 9] (.r (.ops [0, 1, 2, 3, 4, 5] (.alt (.eff 6 [] (.ops [7, 8, 9] (.eff 10 [1, 5] (.eff 11 [] (.ops [12] .nil))))) (.eff 10 [1, 5] (.eff 6 [] (.ops [7, 8, 9] (.eff 11 [] (.ops [12] .nil)))))))) (.s .z (.s (.r (.ops [0, 1, 2] (.grp 2 false 54 [51, 52, 53] (.ops [3, 4, 5, 6] .nil) (.ops [7] .nil)))) .z)))) .z))))) .z)))))) (by kernel_rfl) (Eq.mp (by kernel_rfl) h)

def F_law09_UsageRanks (a0 : Value) (w : World) (k : Value → World → Prop) : Prop :=
  wCall P n_law09_awake [] w fun t5 w =>
  wUn P .not t5 w fun t6 w =>
  wIf t6 (
    k (.bool false) w) (
    wJ1 (fun k2 =>
      wL2 (.slice none 0 0) (.int .i64 0) w (fun _ v3 v4 w k3 =>
        wLen P .len #[T_Luint64] [a0] w fun t9 w =>
        wBin P .lss T_int v4 t9 w fun t10 w =>
        wGrp t10 true (fun k13 =>
          wBin P .lss T_int v4 (.int .i64 30) w fun t13 w =>
          k13 t13 w) w fun _ t13 w =>
        wPick t10 t13 (.bool false) w fun t14 w =>
        wIf t14 (
          wIndexA P T_Luint64 a0 v4 w fun t20 w =>
          wLoad P T_uint64 t20 w fun t21 w =>
          wCall P n_math_Float64frombits [t21] w fun t22 w =>
          wBuildS P T_Lfloat64 1 [(0, t22)] w fun t23 w =>
          wBuiltin P .append #[T_Lfloat64, T_Lfloat64] [v3, t23] w fun t24 w =>
          wBin P .add T_int v4 (.int .i64 1) w fun t16 w =>
          k3 t24 t16 w) (
          k2 v3 w))) fun _ v3 w =>
    wCall P n_usage_Rank [v3] w fun t26 w =>
    wCall P n_ref09_Rank [v3] w fun t28 w =>
    wCall P n_law09_ints [t26, t28] w fun t29 w =>
    k t29 w)

theorem call_law09_UsageRanks (a0 : Value) {w : World} {k : Value → World → Prop} (h : F_law09_UsageRanks a0 w k) : wCall P n_law09_UsageRanks [a0] w k :=
  call_of_den mixedP Try.func18 (by kernel_rfl) (.s .z (.s .z (.s .z (.j [3] [] (.s .z (.b (.l [3, 4] [0] (.s (.s (.r (.ops [0, 1, 2, 3, 4] (.grp 4 true 13 [12] (.ops [5, 6] .nil) (.ops [7] .nil)))) .z) .z)))) .z)))) (by kernel_rfl) (Eq.mp (by kernel_rfl) h)

def F_law09_awake (w : World) (k : Value → World → Prop) : Prop :=
  wCall P n_usage_New [(.int .i64 3), (.int .i64 16)] w fun t5 w =>
  wBin P .eql T_pusage_Table t5 (.pointer none) w fun t7 w =>
  wGrp t7 false (fun k11 =>
    wCall P n_usage_Table_Clean [t5] w fun t10 w =>
    wBin P .neq T_int t10 (.int .i64 3) w fun t11 w =>
    k11 t11 w) w fun _ t11 w =>
  wPick t7 (.bool true) t11 w fun t12 w =>
  wIf t12 (
    k (.bool false) w) (
    wCall P n_usage_Table_Set [t5, (.int .i64 1), (.int .i64 1)] w fun t14 w =>
    wCall P n_usage_Table_Count [t5, (.int .i64 1), (.int .i64 4)] w fun t16 w =>
    wCall P n_usage_Table_Order [t5, (.int .u32 0)] w fun t18 w =>
    wBin P .eql T_api_Errno t14 (.int .i64 0) w fun t20 w =>
    wGrp t20 true (fun k23 =>
      wBin P .eql T_api_Errno t16 (.int .i64 0) w fun t23 w =>
      k23 t23 w) w fun _ t23 w =>
    wPick t20 t23 (.bool false) w fun t24 w =>
    wGrp t24 true (fun k28 =>
      wLen P .len #[T_Lint] [t18] w fun t27 w =>
      wBin P .eql T_int t27 (.int .i64 1) w fun t28 w =>
      k28 t28 w) w fun _ t28 w =>
    wPick t24 t28 (.bool false) w fun t29 w =>
    wGrp t29 true (fun k34 =>
      wIndexA P T_Lint t18 (.int .i64 0) w fun t32 w =>
      wLoad P T_int t32 w fun t33 w =>
      wBin P .eql T_int t33 (.int .i64 1) w fun t34 w =>
      k34 t34 w) w fun _ t34 w =>
    wPick t29 t34 (.bool false) w fun t35 w =>
    wGrp t35 true (fun k39 =>
      wCall P n_usage_Table_Live [t5] w fun t38 w =>
      wBin P .eql T_int t38 (.int .i64 4) w fun t39 w =>
      k39 t39 w) w fun _ t39 w =>
    wPick t35 t39 (.bool false) w fun t40 w =>
    k t40 w)

theorem call_law09_awake {w : World} {k : Value → World → Prop} (h : F_law09_awake w k) : wCall P n_law09_awake [] w k :=
  call_of_den mixedP Try.func72 (by kernel_rfl) (.s .z (.s .z (.s (.s (.r (.ops [0, 1, 2] (.grp 2 false 11 [9, 10] (.ops [3, 4, 5] .nil) (.ops [6] .nil)))) .z) (.s .z (.s .z (.s (.r (.ops [0, 1, 2] (.grp 2 true 23 [22] (.ops [3, 4] .nil) (.ops [5, 6] (.grp 6 true 28 [26, 27] (.ops [7, 8, 9] .nil) (.ops [10, 11] (.grp 11 true 34 [31, 32, 33] (.ops [12, 13, 14, 15] .nil) (.ops [16, 17] (.grp 17 true 39 [37, 38] (.ops [18, 19, 20] .nil) (.ops [21, 22] .nil)))))))))) .z)))))) (by kernel_rfl) (Eq.mp (by kernel_rfl) h)

def F_law09_is (a0 a1 : Value) (w : World) (k : Value → World → Prop) : Prop :=
  wBox P T_ref09_Table a1 w fun t3 w =>
  wDraw w fun w =>
  wFieldA P T_ref09_Table t3 1 w fun t16 w =>
  wLoad P T_Lref05_Use t16 w fun t17 w =>
  wLen P .len #[T_Lref05_Use] [t17] w fun t18 w =>
  wCall P n_usage_Table_Segs [a0] w fun t15 w =>
  wKeep P [(T_Lref05_Use, t16, t17)] w ∧ wBin P .neq T_int t15 t18 w fun t19 w =>
  wGrp t19 false (fun k27 =>
    wFieldA P T_ref09_Table t3 1 w fun t24 w =>
    wLoad P T_Lref05_Use t24 w fun t25 w =>
    wLen P .len #[T_Lref05_Use] [t25] w fun t26 w =>
    wCall P n_usage_Table_Uses [a0] w fun t22 w =>
    wKeep P [(T_Lref05_Use, t24, t25)] w ∧ wLen P .len #[T_Lcodec_Use] [t22] w fun t23 w =>
    wBin P .neq T_int t23 t26 w fun t27 w =>
    k27 t27 w) w fun _ t27 w =>
  wPick t19 (.bool true) t27 w fun t28 w =>
  wIf t28 (
    k (.bool false) w) (
    wJ3 (fun k2 =>
      wFieldA P T_ref09_Table t3 1 w fun t29 w =>
      wLoad P T_Lref05_Use t29 w fun t30 w =>
      wLen P .len #[T_Lref05_Use] [t30] w fun t31 w =>
      wL4 (.int .i64 0) (.int .i64 (-1)) (.int .i64 0) (.int .i64 0) w (fun _ v5 v6 v7 v32 w k3 =>
        wBin P .lss T_int v32 t31 w fun t33 w =>
        wIf t33 (
          wIndexA P T_Lref05_Use t30 v32 w fun t35 w =>
          wLoad P T_ref05_Use t35 w fun t36 w =>
          wAlloc P T_ref05_Use w fun t9 w =>
          wStore P T_ref05_Use t9 t36 w fun w =>
          wCall P n_usage_Table_Get [a0, v32] w fun t40 w =>
          wExtract P t40 0 w fun t41 w =>
          wExtract P t40 1 w fun t42 w =>
          wAlloc P T_codec_Use w fun t10 w =>
          wStore P T_codec_Use t10 t41 w fun w =>
          wDraw w fun w =>
          wBin P .neq T_api_Errno t42 (.int .i64 0) w fun t44 w =>
          wGrp t44 false (fun k49 =>
            wLoad P T_codec_Use t10 w fun t46 w =>
            wLoad P T_ref05_Use t9 w fun t48 w =>
            wCall P n_law09_told [t46] w fun t47 w =>
            wKeep P [(T_ref05_Use, t9, t48)] w ∧ wBin P .neq T_ref05_Use t47 t48 w fun t49 w =>
            k49 t49 w) w fun _ t49 w =>
          wPick t44 (.bool true) t49 w fun t50 w =>
          wGrp t50 false (fun k59 =>
            wLoad P T_ref05_Use t9 w fun t58 w =>
            wCall P n_usage_Table_Uses [a0] w fun t53 w =>
            wKeep P [(T_ref05_Use, t9, t58)] w ∧ wIndexA P T_Lcodec_Use t53 v32 w fun t55 w =>
            wLoad P T_codec_Use t55 w fun t56 w =>
            wCall P n_law09_told [t56] w fun t57 w =>
            wKeep P [(T_ref05_Use, t9, t58)] w ∧ wBin P .neq T_ref05_Use t57 t58 w fun t59 w =>
            k59 t59 w) w fun _ t59 w =>
          wPick t50 (.bool true) t59 w fun t60 w =>
          wIf t60 (
            k (.bool false) w) (
            wFieldA P T_ref05_Use t9 1 w fun t61 w =>
            wLoad P T_int t61 w fun t62 w =>
            wBin P .eql T_int t62 (.int .i64 0) w fun t63 w =>
            wIf t63 (
              wBin P .add T_int v5 (.int .i64 1) w fun t65 w =>
              wBin P .lss T_int v6 (.int .i64 0) w fun t67 w =>
              wIf t67 (
                wFieldA P T_ref05_Use t9 0 w fun t70 w =>
                wLoad P T_int t70 w fun t71 w =>
                wBin P .add T_int v7 t71 w fun t72 w =>
                wBin P .add T_int v32 (.int .i64 1) w fun t73 w =>
                k3 t65 v32 t72 t73 w) (
                wFieldA P T_ref05_Use t9 0 w fun t70 w =>
                wLoad P T_int t70 w fun t71 w =>
                wBin P .add T_int v7 t71 w fun t72 w =>
                wBin P .add T_int v32 (.int .i64 1) w fun t73 w =>
                k3 t65 v6 t72 t73 w)) (
              wFieldA P T_ref05_Use t9 0 w fun t70 w =>
              wLoad P T_int t70 w fun t71 w =>
              wBin P .add T_int v7 t71 w fun t72 w =>
              wBin P .add T_int v32 (.int .i64 1) w fun t73 w =>
              k3 v5 v6 t72 t73 w))) (
          k2 v5 v6 v7 w))) fun _ v5 v6 v7 w =>
    wFieldA P T_ref09_Table t3 1 w fun t76 w =>
    wLoad P T_Lref05_Use t76 w fun t77 w =>
    wLen P .len #[T_Lref05_Use] [t77] w fun t78 w =>
    wCall P n_usage_Table_Get [a0, t78] w fun t79 w =>
    wExtract P t79 0 w fun t80 w =>
    wExtract P t79 1 w fun t81 w =>
    wAlloc P T_codec_Use w fun t12 w =>
    wStore P T_codec_Use t12 t80 w fun w =>
    wCall P n_usage_Table_Clean [a0] w fun t83 w =>
    wBin P .eql T_int t83 v5 w fun t85 w =>
    wGrp t85 true (fun k90 =>
      wCall P n_usage_Table_First [a0] w fun t88 w =>
      wBin P .eql T_int t88 v6 w fun t90 w =>
      k90 t90 w) w fun _ t90 w =>
    wPick t85 t90 (.bool false) w fun t91 w =>
    wGrp t91 true (fun k96 =>
      wCall P n_usage_Table_Live [a0] w fun t94 w =>
      wBin P .eql T_int t94 v7 w fun t96 w =>
      k96 t96 w) w fun _ t96 w =>
    wPick t91 t96 (.bool false) w fun t97 w =>
    wGrp t97 true (fun k100 =>
      wBin P .eql T_api_Errno t81 (.int .i64 1) w fun t100 w =>
      k100 t100 w) w fun _ t100 w =>
    wPick t97 t100 (.bool false) w fun t101 w =>
    k t101 w)

theorem call_law09_is (a0 a1 : Value) {w : World} {k : Value → World → Prop} (h : F_law09_is a0 a1 w k) : wCall P n_law09_is [a0, a1] w k :=
  call_of_den mixedP Try.func90 (by kernel_rfl) (.s .z (.s .z (.s (.s (.r (.ops [0, 2, 3, 4] (.eff 1 [3] (.ops [5, 6] (.grp 6 false 27 [21, 22, 23, 24, 25, 26] (.ops [7, 10, 11, 12] (.eff 8 [11] (.ops [9, 13] .nil))) (.ops [14] .nil)))))) .z) (.j [5, 6, 7] [0, 3] (.s .z (.b (.l [5, 6, 7, 32] [0, 3, 30, 31] (.s .z (.s .z (.s (.b (.s .z (.s .z (.s (.s (.r (.ops [0, 1, 2] (.grp 2 false 49 [46, 47, 48] (.ops [3, 5] (.eff 4 [5] (.ops [6] .nil))) (.ops [7, 8] (.grp 8 false 59 [52, 53, 54, 55, 56, 57, 58] (.ops [9, 11, 15] (.eff 10 [15] (.ops [12, 13] (.eff 14 [15] (.ops [16] .nil))))) (.ops [17] .nil)))))) .z) .z)))) .z)))))) (.s .z (.s (.r (.ops [0, 1, 2, 3, 4] (.grp 4 true 90 [87, 88, 89] (.ops [5, 6, 7, 8] .nil) (.ops [9, 10] (.grp 10 true 96 [93, 94, 95] (.ops [11, 12, 13, 14] .nil) (.ops [15, 16] (.grp 16 true 100 [99] (.ops [17, 18] .nil) (.ops [19, 20] .nil)))))))) .z)))))) (by kernel_rfl) (Eq.mp (by kernel_rfl) h)

def F_law09_ints (a0 a1 : Value) (w : World) (k : Value → World → Prop) : Prop :=
  wLen P .len #[T_Lint] [a0] w fun t7 w =>
  wLen P .len #[T_Lint] [a1] w fun t9 w =>
  wBin P .neq T_int t7 t9 w fun t10 w =>
  wIf t10 (
    k (.bool false) w) (
    wLen P .len #[T_Lint] [a0] w fun t12 w =>
    wL1 (.int .i64 0) w (fun _ v13 w k2 =>
      wBin P .lss T_int v13 t12 w fun t14 w =>
      wIf t14 (
        wDraw w fun w =>
        wIndexA P T_Lint a0 v13 w fun t18 w =>
        wLoad P T_int t18 w fun t19 w =>
        wIndexA P T_Lint a1 v13 w fun t22 w =>
        wLoad P T_int t22 w fun t23 w =>
        wBin P .neq T_int t19 t23 w fun t24 w =>
        wIf t24 (
          k (.bool false) w) (
          wBin P .add T_int v13 (.int .i64 1) w fun t25 w =>
          k2 t25 w)) (
        k (.bool true) w)))

theorem call_law09_ints (a0 a1 : Value) {w : World} {k : Value → World → Prop} (h : F_law09_ints a0 a1 w k) : wCall P n_law09_ints [a0, a1] w k :=
  call_of_den mixedP Try.func92 (by kernel_rfl) (.s .z (.s .z (.s (.s .z (.b (.l [13] [0, 1, 12] (.s .z (.s .z (.s (.b (.s .z (.s (.r (.ops [0, 1, 2, 3, 4, 5, 6, 7, 8] .nil)) .z))) .z)))))) .z))) (by kernel_rfl) (Eq.mp (by kernel_rfl) h)

def F_law09_do (a0 a1 a2 : Value) (w : World) (k : Value → World → Prop) : Prop :=
  wBox P T_ref09_Table a1 w fun t4 w =>
  wBox P T_law09_Act a2 w fun t5 w =>
  wAlloc P T_ref09_Table w fun t6 w =>
  wFieldA P T_law09_Act t5 0 w fun t20 w =>
  wLoad P T_int t20 w fun t21 w =>
  wBin P .eql T_int t21 (.int .i64 0) w fun t23 w =>
  wIf t23 (
    wFieldA P T_law09_Act t5 1 w fun t25 w =>
    wLoad P T_int t25 w fun t26 w =>
    wFieldA P T_law09_Act t5 2 w fun t27 w =>
    wLoad P T_int t27 w fun t28 w =>
    wCall P n_usage_Table_Count [a0, t26, t28] w fun t29 w =>
    wLoad P T_ref09_Table t4 w fun t31 w =>
    wFieldA P T_law09_Act t5 1 w fun t32 w =>
    wLoad P T_int t32 w fun t33 w =>
    wFieldA P T_law09_Act t5 2 w fun t34 w =>
    wLoad P T_int t34 w fun t35 w =>
    wCall P n_ref09_Count [t31, t33, t35] w fun t36 w =>
    wExtract P t36 0 w fun t37 w =>
    wExtract P t36 1 w fun t38 w =>
    wAlloc P T_ref09_Table w fun t9 w =>
    wStore P T_ref09_Table t9 t37 w fun w =>
    wLoad P T_ref09_Table t9 w fun t39 w =>
    wBin P .eql T_int t29 t38 w fun t42 w =>
    wStore P T_ref09_Table t6 t39 w fun w =>
    wRes P T_ref09_Table t6 w fun r6 =>
    k (.tuple #[r6, t42]) w) (
    wBin P .eql T_int t21 (.int .i64 1) w fun t44 w =>
    wIf t44 (
      wFieldA P T_law09_Act t5 1 w fun t46 w =>
      wLoad P T_int t46 w fun t47 w =>
      wFieldA P T_law09_Act t5 3 w fun t48 w =>
      wLoad P T_uint32 t48 w fun t49 w =>
      wCall P n_usage_Table_Touch [a0, t47, t49] w fun t50 w =>
      wLoad P T_ref09_Table t4 w fun t52 w =>
      wFieldA P T_law09_Act t5 1 w fun t53 w =>
      wLoad P T_int t53 w fun t54 w =>
      wFieldA P T_law09_Act t5 3 w fun t55 w =>
      wLoad P T_uint32 t55 w fun t56 w =>
      wCall P n_ref09_Touch [t52, t54, t56] w fun t57 w =>
      wExtract P t57 0 w fun t58 w =>
      wExtract P t57 1 w fun t59 w =>
      wAlloc P T_ref09_Table w fun t12 w =>
      wStore P T_ref09_Table t12 t58 w fun w =>
      wLoad P T_ref09_Table t12 w fun t60 w =>
      wBin P .eql T_int t50 t59 w fun t63 w =>
      wStore P T_ref09_Table t6 t60 w fun w =>
      wRes P T_ref09_Table t6 w fun r6 =>
      k (.tuple #[r6, t63]) w) (
      wBin P .eql T_int t21 (.int .i64 2) w fun t65 w =>
      wIf t65 (
        wFieldA P T_law09_Act t5 1 w fun t67 w =>
        wLoad P T_int t67 w fun t68 w =>
        wFieldA P T_law09_Act t5 2 w fun t69 w =>
        wLoad P T_int t69 w fun t70 w =>
        wCall P n_usage_Table_Set [a0, t68, t70] w fun t71 w =>
        wLoad P T_ref09_Table t4 w fun t73 w =>
        wFieldA P T_law09_Act t5 1 w fun t74 w =>
        wLoad P T_int t74 w fun t75 w =>
        wFieldA P T_law09_Act t5 2 w fun t76 w =>
        wLoad P T_int t76 w fun t77 w =>
        wCall P n_ref09_Set [t73, t75, t77] w fun t78 w =>
        wExtract P t78 0 w fun t79 w =>
        wExtract P t78 1 w fun t80 w =>
        wAlloc P T_ref09_Table w fun t15 w =>
        wStore P T_ref09_Table t15 t79 w fun w =>
        wLoad P T_ref09_Table t15 w fun t81 w =>
        wBin P .eql T_int t71 t80 w fun t84 w =>
        wStore P T_ref09_Table t6 t81 w fun w =>
        wRes P T_ref09_Table t6 w fun r6 =>
        k (.tuple #[r6, t84]) w) (
        wBin P .eql T_int t21 (.int .i64 3) w fun t86 w =>
        wIf t86 (
          wCall P n_usage_Table_Release [a0] w fun t88 w =>
          wLoad P T_ref09_Table t4 w fun t90 w =>
          wCall P n_ref09_Release [t90] w fun t91 w =>
          wExtract P t91 0 w fun t92 w =>
          wExtract P t91 1 w fun t93 w =>
          wAlloc P T_ref09_Table w fun t18 w =>
          wStore P T_ref09_Table t18 t92 w fun w =>
          wDraw w fun w =>
          wLoad P T_ref09_Table t18 w fun t94 w =>
          wCall P n_law09_ints [t88, t93] w fun t97 w =>
          wKeep P [(T_ref09_Table, t18, t94)] w ∧ wStore P T_ref09_Table t6 t94 w fun w =>
          wRes P T_ref09_Table t6 w fun r6 =>
          k (.tuple #[r6, t97]) w) (
          wDraw w fun w =>
          wLoad P T_ref09_Table t4 w fun t98 w =>
          wFieldA P T_law09_Act t5 3 w fun t100 w =>
          wLoad P T_uint32 t100 w fun t101 w =>
          wLoad P T_ref09_Table t4 w fun t103 w =>
          wFieldA P T_law09_Act t5 3 w fun t104 w =>
          wLoad P T_uint32 t104 w fun t105 w =>
          wCall P n_usage_Table_Order [a0, t101] w fun t102 w =>
          wKeep P [(T_ref09_Table, t4, t98), (T_ref09_Table, t4, t103), (T_uint32, t104, t105)] w ∧ wCall P n_ref09_Order [t103, t105] w fun t106 w =>
          wKeep P [(T_ref09_Table, t4, t98)] w ∧ wCall P n_law09_ints [t102, t106] w fun t107 w =>
          wKeep P [(T_ref09_Table, t4, t98)] w ∧ wStore P T_ref09_Table t6 t98 w fun w =>
          wRes P T_ref09_Table t6 w fun r6 =>
          k (.tuple #[r6, t107]) w))))

theorem call_law09_do (a0 a1 a2 : Value) {w : World} {k : Value → World → Prop} (h : F_law09_do a0 a1 a2 w k) : wCall P n_law09_do [a0, a1, a2] w k :=
  call_of_den mixedP Try.func94 (by kernel_rfl) (.s .z (.s (.s .z (.b (.s .z (.s .z (.s .z (.s .z (.s .z (.s .z (.s .z (.s (.s .z (.s .z (.s (.r (.ops [0, 1, 2] (.eff 3 [0] (.eff 4 [] (.ops [5] .nil))))) .z))) .z)))))))))) (.s (.r (.ops [0, 1, 2, 3, 5, 6, 7] (.eff 4 [0, 5, 7] (.eff 8 [0] (.eff 9 [0] (.eff 10 [] (.ops [11] .nil))))))) .z))) (by kernel_rfl) (Eq.mp (by kernel_rfl) h)

def F_law09_told (a0 : Value) (w : World) (k : Value → World → Prop) : Prop :=
  wBox P T_codec_Use a0 w fun t1 w =>
  wAlloc P T_ref05_Use w fun t2 w =>
  wFieldA P T_codec_Use t1 0 w fun t3 w =>
  wLoad P T_int t3 w fun t4 w =>
  wFieldA P T_codec_Use t1 1 w fun t5 w =>
  wLoad P T_int t5 w fun t6 w =>
  wFieldA P T_codec_Use t1 2 w fun t7 w =>
  wLoad P T_uint32 t7 w fun t8 w =>
  wBuild P T_ref05_Use [(0, t4), (1, t6), (2, t8)] w fun t9 w =>
  wStore P T_ref05_Use t2 t9 w fun w =>
  wRes P T_ref05_Use t2 w fun r2 =>
  k r2 w

theorem call_law09_told (a0 : Value) {w : World} {k : Value → World → Prop} (h : F_law09_told a0 w k) : wCall P n_law09_told [a0] w k :=
  call_of_den mixedP Try.func198 (by kernel_rfl) .z (by kernel_rfl) (Eq.mp (by kernel_rfl) h)

end Go.Dn
end
section
/-! Contracts of package usage, on. -/
set_option maxRecDepth 10000
set_option linter.unusedVariables false
set_option linter.unusedSimpArgs false
namespace Go.Dn
open Go
def sumL : List U → Int
  | [] => 0
  | u :: us => u.live + sumL us
theorem sumL_append (a b : List U) : sumL (a ++ b) = sumL a + sumL b := by
  induction a with
  | nil => simp [sumL]
  | cons u a ih => simp only [List.cons_append, sumL, ih]; omega
theorem sumL_take {us : List U} {i : Nat} {u : U} (h : us[i]? = some u) : sumL (us.take (i + 1)) = sumL (us.take i) + u.live := by
  rw [List.take_add_one, h, sumL_append]; simp [sumL]
theorem sumL_lt {us : List U} (h : ∀ u ∈ us, 0 ≤ u.live ∧ u.live ≤ 1000000) : 0 ≤ sumL us ∧ sumL us ≤ us.length * 1000000 := by
  induction us with
  | nil => simp [sumL]
  | cons u us ih =>
    have := ih fun x hx => h x (List.mem_cons_of_mem _ hx)
    have := h u (List.mem_cons_self ..)
    simp only [sumL, List.length_cons]; omega
def idx (p : U → Bool) (us : List U) (n : Nat) : List Nat := (List.range n).filter fun i => match us[i]? with | some u => p u | none => false
theorem idx_succ (p : U → Bool) {us : List U} {i : Nat} {u : U} (h : us[i]? = some u) : idx p us (i + 1) = if p u = true then idx p us i ++ [i] else idx p us i := by
  unfold idx
  rw [List.range_succ, List.filter_append]
  by_cases hp : p u = true
  · rw [if_pos hp]; simp [h, hp]
  · rw [if_neg hp]; simp [h, hp]
theorem idx_le (p : U → Bool) (us : List U) (n : Nat) : (idx p us n).length ≤ n := by
  have := List.length_filter_le (fun i => match us[i]? with | some u => p u | none => false) (List.range n)
  rw [List.length_range] at this
  exact this
section
variable {w : World} {K : Value → World → Prop}
theorem usage_Count {h d : Nat} {room seg n : Int} {us : List U} {k : Value → World → Prop} (H : Tab w h d room us) (hr : 0 ≤ room ∧ room ≤ 1000000) (hb : ∀ u ∈ us, 0 ≤ u.live ∧ u.live ≤ 1000000)
    (h0 : (∀ u, 0 ≤ seg → us[seg.toNat]? = some u → ¬ (n ≤ room - u.live ∧ -u.live ≤ n)) → ∀ w', Ex [] w w' → Tab w' h d room us → k (.int .i64 1) w')
    (h1 : ∀ w' u, 0 ≤ seg → us[seg.toNat]? = some u → n ≤ room - u.live → -u.live ≤ n → Ex [d] w w' → Tab w' h d room (us.set seg.toNat { u with live := u.live + n }) → k (.int .i64 0) w') :
    wCall P n_usage_Table_Count [ptr h, .int .i64 seg, .int .i64 n] w k := by
  refine call_usage_Table_Count _ _ _ ?_
  unfold F_usage_Table_Count
  refine draw_i fun w0 hE0 _ => ?_
  have H0 := H.ex0 hE0
  refine usage_has H0 ?_
  simp only [un_not, nil_ptr, fA_T_usage_Table_0, fA_T_usage_Table_1]
  obtain ⟨c, hc, hcell⟩ := H0.uses
  by_cases hseg : 0 ≤ seg ∧ seg < us.length
  · have hlt : seg.toNat < us.length := by omega
    have hu := List.getElem?_eq_getElem hlt
    obtain ⟨u, hu'⟩ : ∃ u, u = us[seg.toNat] := ⟨_, rfl⟩
    rw [← hu'] at hu
    obtain ⟨e1, e2, e3⟩ := H0.elem hu
    have hub := hb u (List.mem_of_getElem? hu)
    rw [decide_eq_true hseg]
    refine or_i (r := decide (room - u.live < n)) (fun _ k' hk' => ?_) ?_
    · rw [ld_one o_T_int H0.room, ld_one o_T_Lcodec_Use hcell, indexS_i s_T_Lcodec_Use (by omega) (by omega)]
      simp only [fA_T_codec_Use_0]
      rw [ld_one o_T_int e1, bin_sub (by omega), bin_gtr]
      exact hk'
    · refine or_i (r := decide (n < - u.live)) (fun _ k' hk' => ?_) ?_
      · rw [ld_one o_T_Lcodec_Use hcell, indexS_i s_T_Lcodec_Use (by omega) (by omega)]
        simp only [fA_T_codec_Use_0]
        rw [ld_one o_T_int e1, un_neg (by omega), bin_lss]
        exact hk'
      · refine wIf_i _ (fun hh => ?_) (fun hh => ?_)
        · refine h0 (fun u' _ hu2 => ?_) w0 hE0 H0
          rw [hu] at hu2
          injection hu2 with hu2
          subst hu2
          simp only [Bool.not_true, Bool.false_or, Bool.or_eq_true, decide_eq_true_eq] at hh
          omega
        · simp only [Bool.not_true, Bool.false_or, Bool.or_eq_false_iff, decide_eq_false_iff_not] at hh
          rw [ld_one o_T_Lcodec_Use hcell, indexS_i s_T_Lcodec_Use (by omega) (by omega)]
          simp only [fA_T_codec_Use_0]
          rw [ld_one o_T_int e1, bin_add (by omega), indexS_i s_T_Lcodec_Use (by omega) (by omega)]
          simp only [fA_T_codec_Use_0]
          obtain ⟨r, hrr⟩ := H0.ub
          refine st_one o_T_int rfl hrr (by rw [List.length_append, fl_length]; omega) fun w1 hE1 B1 => ?_
          rw [Nat.zero_add] at B1
          exact h1 w1 _ (by omega) hu (by omega) (by omega) (hE0.nil.trans hE1) (H0.put (by simp) hE1 (fl_set hu (u.live + n) 0 0).1 (by rw [fl_length]; omega) B1)
  · rw [decide_eq_false hseg]
    refine or_i (r := true) (fun hh => by cases hh) ?_
    refine or_i (r := true) (fun hh => by cases hh) ?_
    refine h0 (fun u h1 h2 => absurd ⟨h1, ?_⟩ hseg) w0 hE0 H0
    have := (List.getElem?_eq_some_iff.1 h2).1
    omega
theorem usage_Live {h d : Nat} {room : Int} {us : List U} {k : Value → World → Prop} (H : Tab w h d room us) (hb : ∀ u ∈ us, 0 ≤ u.live ∧ u.live ≤ 1000000) (hn : us.length ≤ 1000)
    (hk : ∀ w', Ex [] w w' → k (.int .i64 (sumL us)) w') : wCall P n_usage_Table_Live [ptr h] w k := by
  refine call_usage_Table_Live _ ?_
  unfold F_usage_Table_Live
  simp only [nil_ptr, fA_T_usage_Table_1]
  obtain ⟨c, hc, hcell⟩ := H.uses
  rw [ld_one o_T_Lcodec_Use hcell, len_s u_T_Lcodec_Use]
  refine loop_up2 us.length (fun i a b w' => a = .int .i64 (sumL (us.take i)) ∧ b = .int .i64 (i : Int) ∧ Ex [] w w') ⟨rfl, rfl, Ex.refl _ _⟩ ?_
  rintro i J a b w1 k' hi ⟨rfl, rfl, hE⟩ hk'
  rw [bin_lss]
  refine wIf_d (fun hlt => ?_) (fun hge => ?_)
  · have hlt : i < us.length := by omega
    have hu := List.getElem?_eq_getElem hlt
    have hub := hb _ (List.getElem_mem hlt)
    have hs := sumL_lt (us := us.take i) fun u hu => hb u (List.mem_of_mem_take hu)
    rw [List.length_take] at hs
    refine ((H.ex0 hE).slg hc).ix s_T_Lcodec_Use (by omega) (fl_length us) (by omega) (by omega) fun b o hcs => ?_
    rw [Int.toNat_natCast, fl_cell hu] at hcs
    rw [ld_agg g_T_codec_Use hcs rfl]
    refine alloc_i z_T_codec_Use rfl fun w2 g2 hg2 hE2 B2 => ?_
    refine st_agg g_T_codec_Use rfl (by simp [U.cells, isC]) B2 (by simp) fun w3 hE3 B3 => ?_
    have hle := hE.le
    have hE' : Ex [] w w3 := hE.trans (hE2.new hE3 (by omega))
    simp only [fA_T_codec_Use_0]
    rw [ld_one o_T_int (v := .int .i64 us[i].live) (by rw [B3.cell]; rfl), bin_add (by omega), bin_add (by omega)]
    refine hk' _ _ _ (by omega) ⟨?_, by simp, hE'⟩
    rw [sumL_take hu]
  · obtain rfl : i = us.length := by omega
    rw [List.take_length]
    exact hk w1 hE
theorem usage_which {h d : Nat} {room : Int} {us : List U} {f : Value} {p : U → Bool} {k : Value → World → Prop} (H : Tab w h d room us) (hn : us.length ≤ 1000)
    (hf : ∀ u ∈ us, ∀ (w1 : World) (k1 : Value → World → Prop), (∀ w', Ex [] w1 w' → k1 (.bool (p u)) w') → wCallV P f [.agg ⟨u.cells⟩] w1 k1)
    (hk : ∀ v w', Ex [] w w' → Own w' w.heap.size T_int 1 v (ivs (idx p us us.length)) → k v w') : wCall P n_usage_Table_which [ptr h, f] w k := by
  refine call_usage_Table_which _ _ ?_
  unfold F_usage_Table_which
  simp only [nil_ptr, fA_T_usage_Table_1]
  obtain ⟨c, hc, hcell⟩ := H.uses
  rw [ld_one o_T_Lcodec_Use hcell, len_s u_T_Lcodec_Use]
  refine loop_up2 us.length (fun i v b w' => b = .int .i64 (i : Int) ∧ Ex [] w w' ∧ Own w' w.heap.size T_int 1 v (ivs (idx p us i))) ⟨rfl, Ex.refl _ _, Own.nil _ _ _ _⟩ ?_
  rintro i J v b w1 k' hi ⟨rfl, hE, hO⟩ hk'
  rw [bin_lss]
  refine wIf_d (fun hlt => ?_) (fun hge => ?_)
  · have hlt : i < us.length := by omega
    have hu := List.getElem?_eq_getElem hlt
    refine ((H.ex0 hE).slg hc).ix s_T_Lcodec_Use (by omega) (fl_length us) (by omega) (by omega) fun b o hcs => ?_
    rw [Int.toNat_natCast, fl_cell hu] at hcs
    rw [ld_agg g_T_codec_Use hcs rfl]
    refine alloc_i z_T_codec_Use rfl fun w2 g2 hg2 hE2 B2 => ?_
    refine st_agg g_T_codec_Use rfl (by simp [U.cells, isC]) B2 (by simp) fun w3 hE3 B3 => ?_
    have hle := hE.le
    have hE' : Ex [] w1 w3 := hE2.new hE3 (by omega)
    have B3' : Blk w3 g2 T_codec_Use us[i].cells := B3
    rw [ld_agg g_T_codec_Use B3'.all rfl]
    refine hf _ (List.getElem_mem hlt) w3 _ fun w4 hE4 => ?_
    have hO4 := (hO.ex0 hE').ex0 hE4
    have hE4' : Ex [] w w4 := (hE.trans hE').trans hE4
    have hlen := idx_le p us i
    refine wIf_i _ (fun hp => ?_) (fun hp => ?_)
    · refine push_int hO4 (n := (idx p us i).length) rfl (by omega) hE4'.le fun v' w5 hO5 hE5 _ => ?_
      rw [bin_add (by omega)]
      refine hk' _ _ _ (by omega) ⟨by simp, hE4'.step hE5 fun y hy => ?_, ?_⟩
      · right
        cases hv : v.ownBlock with
        | none => rw [hv] at hy; simp at hy
        | some g =>
          rw [hv] at hy
          simp at hy
          have := (hO.blk hv).1
          omega
      · rw [idx_succ p hu, if_pos hp]
        exact hO5
    · rw [bin_add (by omega)]
      refine hk' _ _ _ (by omega) ⟨by simp, hE4', ?_⟩
      rw [idx_succ p hu, if_neg (by simp [hp])]
      exact hO4
  · obtain rfl : i = us.length := by omega
    exact hk v w1 hE hO
theorem usage_clean {u : U} {k : Value → World → Prop} (hk : ∀ w', Ex [] w w' → k (.bool (decide (u.state = 0))) w') : wCall P n_usage_clean [.agg ⟨u.cells⟩] w k := by
  refine call_usage_clean _ ?_
  unfold F_usage_clean
  refine box_i (vs := u.cells) rfl fun w1 g1 hg1 hE1 B1 => ?_
  simp only [fA_T_codec_Use_1]
  rw [ld_one o_T_int (v := .int .i64 u.state) (by rw [B1.cell]; rfl), bin_eql]
  exact hk w1 hE1
theorem usage_dirty {u : U} {k : Value → World → Prop} (hk : ∀ w', Ex [] w w' → k (.bool (decide (u.state = 1))) w') : wCall P n_usage_Table_Order_c1 [.agg ⟨u.cells⟩] w k := by
  refine call_usage_Table_Order_c1 _ ?_
  unfold F_usage_Table_Order_c1
  refine box_i (vs := u.cells) rfl fun w1 g1 hg1 hE1 B1 => ?_
  simp only [fA_T_codec_Use_1]
  rw [ld_one o_T_int (v := .int .i64 u.state) (by rw [B1.cell]; rfl), bin_eql]
  exact hk w1 hE1
theorem usage_Clean {h d : Nat} {room : Int} {us : List U} {k : Value → World → Prop} (H : Tab w h d room us) (hn : us.length ≤ 1000)
    (hk : ∀ w', Ex [] w w' → k (.int .i64 ((idx (fun u => decide (u.state = 0)) us us.length).length : Nat)) w') : wCall P n_usage_Table_Clean [ptr h] w k := by
  refine call_usage_Table_Clean _ ?_
  unfold F_usage_Table_Clean
  refine usage_which (p := fun u => decide (u.state = 0)) H hn (fun u _ w1 k1 h1 => ?_) fun v w1 hE hO => ?_
  · rw [callv_0]; exact usage_clean h1
  · rw [hO.slg.len_i u_T_Lint (by omega) (by rw [ivs_length, Nat.mul_one])]
    exact hk w1 hE
/-- Sorting at most one. -/
theorem slices_insert1 {v f : Value} {n : Int} {k : Value → World → Prop} (h1 : n ≤ 1) (hk : k (.tuple #[]) w) : wCall P n_slices_insertionSortCmpFunc_int [v, .int .i64 0, .int .i64 n, f] w k := by
  refine call_slices_insertionSortCmpFunc_int _ _ _ _ ?_
  unfold F_slices_insertionSortCmpFunc_int
  rw [bin_add (by omega)]
  refine loop_up 0 (fun i a w' => a = .int .i64 1 ∧ w' = w) ⟨rfl, rfl⟩ ?_
  rintro i J a w1 k' hi ⟨rfl, rfl⟩ _
  rw [bin_lss, wIf_df (by omega)]
  exact hk
theorem slices_sort1 {v f : Value} {xs : List Value} {k : Value → World → Prop} (S : SlG w 1 v xs) (h1 : xs.length ≤ 1) (hk : k (.tuple #[]) w) : wCall P n_slices_SortStableFunc_int [v, f] w k := by
  refine call_slices_SortStableFunc_int _ _ ?_
  unfold F_slices_SortStableFunc_int
  rw [S.len_i u_T_Lint (by omega) (n := xs.length) (by omega)]
  refine call_slices_stableCmpFunc_int _ _ _ ?_
  unfold F_slices_stableCmpFunc_int wJ1
  refine loop_up2 0 (fun i a b w' => a = .int .i64 0 ∧ b = .int .i64 20 ∧ w' = w) ⟨rfl, rfl, rfl⟩ ?_
  rintro i J a b w1 k' hi ⟨rfl, rfl, rfl⟩ _
  rw [bin_leq, wIf_df (by omega)]
  intro J'
  refine slices_insert1 (n := (xs.length : Int)) (by omega) ?_
  refine loop_up 0 (fun i a w' => a = .int .i64 20 ∧ w' = w1) ⟨rfl, rfl⟩ ?_
  rintro i J a w2 k2 hi ⟨rfl, rfl⟩ _
  rw [bin_lss, wIf_df (by omega)]
  exact hk
theorem usage_Order1 {h d : Nat} {room now : Int} {us : List U} {k : Value → World → Prop} (H : Tab w h d room us) (hn : us.length ≤ 1000) (h1 : (idx (fun u => decide (u.state = 1)) us us.length).length ≤ 1)
    (hk : ∀ v w', Ex [] w w' → Own w' w.heap.size T_int 1 v (ivs (idx (fun u => decide (u.state = 1)) us us.length)) → k v w') : wCall P n_usage_Table_Order [ptr h, .int .u32 now] w k := by
  refine call_usage_Table_Order _ _ ?_
  unfold F_usage_Table_Order
  refine box_i (vs := [ptr h]) rfl fun w1 g1 hg1 hE1 B1 => ?_
  refine box_i (vs := [.int .u32 now]) rfl fun w2 g2 hg2 hE2 B2 => ?_
  rw [ld_one o_T_pusage_Table (v := ptr h) (by rw [(B1.ex hE2 (by simp)).cell]; rfl)]
  refine usage_which (p := fun u => decide (u.state = 1)) ((H.ex0 hE1).ex0 hE2) hn (fun u _ w1 k1 h1 => ?_) fun v w3 hE3 hO => ?_
  · rw [callv_0]; exact usage_dirty h1
  · rw [func_eq]
    refine alloc_i z_T_func_int___uint64__uint64_ rfl fun w4 g4 hg4 hE4 B4 => ?_
    refine st_one o_T_func_int___uint64__uint64_ rfl B4 (by simp) fun w5 hE5 B5 => ?_
    rw [func_eq]
    have hE' : Ex [] w3 w5 := hE4.new hE5 (by omega)
    have hO5 := hO.ex0 hE'
    have l1 := hE1.le
    have l2 := hE2.le
    refine slices_sort1 hO5.slg (by rw [ivs_length]; exact h1) ?_
    exact hk v w5 (((hE1.trans hE2).trans hE3).trans hE') (hO5.base (by omega))
end
end Go.Dn
end
section
/-! Plain facts on floats. -/
set_option linter.unusedVariables false
set_option linter.unusedSimpArgs false
namespace Go.Dn
open Ieee
theorem d_binade : double.binade = 4503599627370496 := rfl
theorem d_inf : double.infRung = 9218868437227405312 := rfl
theorem d_sign : double.signWeight = 9223372036854775808 := rfl
theorem d_least : double.leastPlace = -1074 := rfl
theorem read_word (neg : Bool) {r : Nat} (h : r < 9223372036854775808) : double.read (double.word neg r) =
    if r < double.binade then .number neg r double.leastPlace
    else if r < double.infRung then .number neg (double.binade + r % double.binade) (double.leastPlace + (r / double.binade - 1 : Nat))
    else if r = double.infRung then .infinity neg
    else .nan neg (r - double.infRung) := by
  unfold Format.read Format.word
  have e1 : ((if neg = true then double.signWeight + r else r) / double.signWeight % 2 == 1) = neg := by
    rw [d_sign]
    cases neg
    · simp; omega
    · simp; omega
  have e2 : (if neg = true then double.signWeight + r else r) % double.signWeight = r := by
    rw [d_sign]
    cases neg
    · simp; omega
    · simp; omega
  simp only [e1, e2]
theorem nearest_word (neg : Bool) (m : Nat) (p : Int) : ∃ r, r ≤ double.infRung ∧ double.nearest neg m p = double.word neg r := by
  unfold Format.nearest
  split
  · exact ⟨0, Nat.zero_le _, rfl⟩
  · exact ⟨_, Nat.min_le_right _ _, rfl⟩
def isNum : Datum → Bool
  | .nan .. => false
  | _ => true
theorem order_self {d : Datum} (h : isNum d = true) : d.order d = some .eq := by
  cases d with
  | number s m e => simp [Datum.order]
  | infinity s => simp [Datum.order]
  | nan s f => cases h
theorem read_write {d : Datum} (h : isNum d = true) : isNum (double.read (double.write d)) = true := by
  have key : ∀ neg r, r ≤ double.infRung → isNum (double.read (double.word neg r)) = true := by
    intro neg r hr
    rw [d_inf] at hr
    rw [read_word neg (by omega), d_binade, d_inf]
    repeat' split
    all_goals first | rfl | omega
  cases d with
  | number s m e =>
    obtain ⟨r, hr, he⟩ := nearest_word s m e
    show isNum (double.read (double.nearest s m e)) = true
    rw [he]; exact key s r hr
  | infinity s => exact key s _ (Nat.le_refl _)
  | nan s f => cases h
theorem write_self {d : Datum} (h : isNum d = true) : double.order (double.write d) (double.write d) = some .eq := order_self (read_write h)
theorem cut0 (neg : Bool) (x : Nat) : Toward.even.cut neg x 0 = x := by
  simp [Toward.cut, Nat.mod_one]
theorem nearest_int {m : Nat} (neg : Bool) (h0 : m ≠ 0) (h1 : m < 2 ^ 51) : ∃ r, 4503599627370496 ≤ r ∧ r < 9218868437227405312 ∧ double.nearest neg m 0 = double.word neg r := by
  have hL : m.log2 < 51 := (Nat.log2_lt h0).2 h1
  have hlo : 2 ^ m.log2 ≤ m := Nat.log2_self_le h0
  have hhi : m < 2 ^ (m.log2 + 1) := Nat.lt_log2_self
  unfold Format.nearest
  rw [if_neg h0]
  have hf : (double.fractionBits : Int) = 52 := rfl
  have e1 : max (0 + (m.log2 : Int) - (double.fractionBits : Int)) (-1074 : Int) = (m.log2 : Int) - 52 := by rw [hf]; omega
  simp only [d_least, d_binade, d_inf]
  rw [e1]
  have e2 : ((m.log2 : Int) - 52 - 0).toNat = 0 := by omega
  have e3 : (0 - ((m.log2 : Int) - 52)).toNat = 52 - m.log2 := by omega
  have e4 : ((m.log2 : Int) - 52 - -1074).toNat = m.log2 + 1022 := by omega
  rw [e2, e3, e4, cut0, Nat.shiftLeft_eq]
  have p1 : 2 ^ m.log2 * 2 ^ (52 - m.log2) = 4503599627370496 := by
    rw [← Nat.pow_add, show m.log2 + (52 - m.log2) = 52 by omega]
  have p2 : 2 ^ (m.log2 + 1) * 2 ^ (52 - m.log2) = 9007199254740992 := by
    rw [← Nat.pow_add, show m.log2 + 1 + (52 - m.log2) = 53 by omega]
  have q1 := Nat.mul_le_mul_right (2 ^ (52 - m.log2)) hlo
  have q2 : m * 2 ^ (52 - m.log2) < 2 ^ (m.log2 + 1) * 2 ^ (52 - m.log2) := Nat.mul_lt_mul_of_pos_right hhi (Nat.pow_pos (by decide))
  rw [p1] at q1
  rw [p2] at q2
  generalize hX : m * 2 ^ (52 - m.log2) = X at *
  generalize hLL : m.log2 = L at *
  clear p1 p2 e1 e2 e3 e4 hX hlo hhi
  have a1 : (L + 1022) * 4503599627370496 ≤ 1072 * 4503599627370496 := Nat.mul_le_mul_right _ (by omega)
  have a2 : (L + 1022) * 4503599627370496 + X < 9218868437227405312 := by omega
  rw [Nat.min_eq_left (Nat.le_of_lt a2)]
  exact ⟨(L + 1022) * 4503599627370496 + X, Nat.le_trans q1 (Nat.le_add_left _ _), a2, rfl⟩
theorem near_z (neg : Bool) (p : Int) : double.nearest neg 0 p = double.word neg 0 := by
  unfold Format.nearest
  exact if_pos rfl
theorem near_0 : double.nearest (decide ((0 : Int) < 0)) (0 : Int).natAbs 0 = double.word (decide ((0 : Int) < 0)) 0 := near_z _ _
/-- The float of a small integer. -/
theorem read_int {n : Int} (h : -1125899906842624 ≤ n ∧ n ≤ 1125899906842624) : ∃ m e, double.read (FloatKind.f64.nearest n) = .number (decide (n < 0)) m e ∧ (m = 0 ↔ n = 0) := by
  show ∃ m e, double.read (double.nearest (decide (n < 0)) n.natAbs 0) = .number (decide (n < 0)) m e ∧ (m = 0 ↔ n = 0)
  by_cases h0 : n = 0
  · subst h0
    rw [near_0, read_word _ (by omega), if_pos (by rw [d_binade]; omega)]
    exact ⟨0, _, rfl, by simp⟩
  · obtain ⟨r, hr1, hr2, hr⟩ := nearest_int (m := n.natAbs) (decide (n < 0)) (by omega) (by
      have : (2 : Nat) ^ 51 = 2251799813685248 := rfl
      omega)
    rw [hr, read_word _ (by omega), d_binade, d_inf, if_neg (by omega), if_pos hr2]
    exact ⟨_, _, rfl, by omega⟩
/-- Division of small integers. -/
theorem div_ne {a b : Int} (ha : -1125899906842624 ≤ a ∧ a ≤ 1125899906842624) (hb : -1125899906842624 ≤ b ∧ b ≤ 1125899906842624) (h0 : b ≠ 0) :
    ∃ r, double.div (FloatKind.f64.nearest a) (FloatKind.f64.nearest b) = some r ∧ double.order r r = some .eq := by
  obtain ⟨m, e, h1, _⟩ := read_int ha
  obtain ⟨n, f, h2, h3⟩ := read_int hb
  have hn : n ≠ 0 := fun h => h0 (h3.1 h)
  unfold Format.div
  rw [h1, h2]
  simp only [Datum.quotient, if_neg hn, Option.map_some]
  exact ⟨_, rfl, write_self rfl⟩
theorem read_0 : double.read (FloatKind.f64.nearest 0) = .number false 0 (-1074) := by
  show double.read (double.nearest (decide ((0 : Int) < 0)) (0 : Int).natAbs 0) = _
  rw [near_0, read_word _ (by omega), if_pos (by rw [d_binade]; omega), d_least]
  rfl
theorem div_z0 : double.div (FloatKind.f64.nearest 0) (FloatKind.f64.nearest 0) = none := by
  unfold Format.div
  rw [read_0]
  rfl
theorem div_z {a : Int} (ha : -1125899906842624 ≤ a ∧ a ≤ 1125899906842624) (h0 : a ≠ 0) : double.div (FloatKind.f64.nearest a) (FloatKind.f64.nearest 0) = some (double.word (decide (a < 0)) double.infRung) := by
  obtain ⟨m, e, h1, h3⟩ := read_int ha
  have hm : m ≠ 0 := fun h => h0 (h3.1 h)
  unfold Format.div
  rw [h1, read_0]
  simp [Datum.quotient, hm, Format.write]
theorem inf_gt : double.order (double.word false double.infRung) 9094988921128908188 = some .gt := by decide
theorem inf_lt : double.order (double.word true double.infRung) 18318360957983683996 = some .lt := by decide
theorem nan_ne (x : Nat) (hx : ∃ t : Nat, x = (t % 2) * 2 ^ 63 + 0x7ff0000000000000 + 1 + (t / 2) % (2 ^ 52 - 1)) : double.order x x = none := by
  obtain ⟨t, rfl⟩ := hx
  have e : (t % 2) * 2 ^ 63 + 0x7ff0000000000000 + 1 + (t / 2) % (2 ^ 52 - 1) = double.word (t % 2 == 1) (0x7ff0000000000000 + 1 + (t / 2) % (2 ^ 52 - 1)) := by
    unfold Format.word
    rw [d_sign]
    rcases Nat.mod_two_eq_zero_or_one t with h | h <;> simp [h] <;> omega
  have hlt : (t / 2) % (2 ^ 52 - 1) < 2 ^ 52 - 1 := Nat.mod_lt _ (by decide)
  rw [e]
  unfold Format.order
  rw [read_word _ (by omega), d_binade, d_inf, if_neg (by omega), if_neg (by omega), if_neg (by omega)]
  rfl
end Go.Dn
end
section
/-! Law 09: awake, UsageParts. -/
set_option maxRecDepth 10000
set_option linter.unusedVariables false
set_option linter.unusedSimpArgs false
namespace Go.Dn
open Go
section
variable {w : World} {K : Value → World → Prop}
theorem u_T_pusage_Table : P.underlying T_pusage_Table = some (.pointer T_usage_Table) := by kernel_rfl
theorem law09_awake {k : Value → World → Prop} (hk : ∀ w', Ex [] w w' → k (.bool true) w') : wCall P n_law09_awake [] w k := by
  refine call_law09_awake ?_
  unfold F_law09_awake
  refine usage_New fun w1 h d hh hd hE1 T1 => ?_
  rw [ptr_ne_nil u_T_pusage_Table]
  have T1 : Tab w1 h d 16 [⟨0, 0, 0⟩, ⟨0, 0, 0⟩, ⟨0, 0, 0⟩] := T1
  refine or_w (r := false) (fun _ k' hk' => ?_) fun w2 hE2 => ?_
  · refine usage_Clean T1 (by decide) fun w2 hE2 => ?_
    rw [bin_neq]
    exact hk' w2 hE2
  rw [Bool.false_or, wIf_f]
  have T2 := T1.ex0 hE2
  refine usage_Set T2 (fun hn => absurd (by decide) hn) fun w3 u _ hu _ _ hE3 T3 => ?_
  have hu : some (⟨0, 0, 0⟩ : U) = some u := hu
  injection hu with hu
  subst hu
  have T3 : Tab w3 h d 16 [⟨0, 0, 0⟩, ⟨0, 1, 0⟩, ⟨0, 0, 0⟩] := T3
  refine usage_Count T3 (by decide) (by decide) (fun hn => absurd (by decide) (hn ⟨0, 1, 0⟩ (by decide) rfl)) fun w4 u _ hu _ _ hE4 T4 => ?_
  have hu : some (⟨0, 1, 0⟩ : U) = some u := hu
  injection hu with hu
  subst hu
  have T4 : Tab w4 h d 16 [⟨0, 0, 0⟩, ⟨4, 1, 0⟩, ⟨0, 0, 0⟩] := T4
  refine usage_Order1 T4 (by decide) (by decide) fun v w5 hE5 hO => ?_
  have hO : Own w5 w4.heap.size T_int 1 v (ivs [1]) := hO
  have T5 := T4.ex0 hE5
  have l1 := hE1.le
  have l2 := hE2.le
  have hE : Ex [] w w5 := (((hE1.trans hE2).step hE3 (by simp; omega)).step hE4 (by simp; omega)).trans hE5
  rw [bin_eql]
  refine and_i (r := true) (fun _ k' hk' => by rw [bin_eql]; exact hk') ?_
  refine and_i (r := true) (fun _ k' hk' => ?_) ?_
  · rw [hO.slg.len_i u_T_Lint (by omega) (n := 1) rfl, bin_eql]
    exact hk'
  refine and_i (r := true) (fun _ k' hk' => ?_) ?_
  · refine hO.slg.ix1 (x := .int .i64 1) s_T_Lint (by omega) rfl fun a ha => ?_
    rw [ld_one o_T_int ha, bin_eql]
    exact hk'
  refine and_w (r := true) (fun _ k' hk' => ?_) fun w6 hE6 => ?_
  · refine usage_Live T5 (by decide) (by decide) fun w6 hE6 => ?_
    rw [bin_eql]
    exact hk' w6 hE6
  exact hk w6 (hE.trans hE6)
theorem law09_UsageParts {live room : Int} {k : Value → World → Prop} (hk : ∀ w', Ex [] w w' → k (.bool true) w') : wCall P n_law09_UsageParts [.int .i64 live, .int .i64 room] w k := by
  refine call_law09_UsageParts _ _ ?_
  unfold F_law09_UsageParts
  refine law09_awake fun w1 hE1 => ?_
  rw [un_not]
  rw [show (!true) = false from rfl, wIf_f, min_i, max_i, min_i, max_i]
  generalize ha : max (-1125899906842624) (min live 1125899906842624) = a
  generalize hb : max (-1125899906842624) (min room 1125899906842624) = b
  have ha' : -1125899906842624 ≤ a ∧ a ≤ 1125899906842624 := by omega
  have hb' : -1125899906842624 ≤ b ∧ b ≤ 1125899906842624 := by omega
  have hf : P.underlying T_float64 = some (.float .f64) := by kernel_rfl
  refine call_usage_Part _ _ ?_
  unfold F_usage_Part
  rw [conv_f i_T_int hf, conv_f i_T_int hf]
  by_cases hb0 : b = 0
  · subst hb0
    by_cases ha0 : a = 0
    · subst ha0
      refine quo_none div_z0 fun w2 x hE2 _ => ?_
      dsimp only
      rw [bin_neq, wIf_df (by simp), bin_eql, wIf_dt rfl, bin_fneq, nan_ne (nanB x) ⟨x, rfl⟩]
      exact hk w2 (hE1.trans hE2)
    · refine quo_some (div_z ha' ha0) ?_
      dsimp only
      rw [bin_neq, wIf_df (by simp), bin_eql, wIf_df ha0, bin_gtr]
      refine wIf_d (fun hp => ?_) (fun hp => ?_)
      · rw [bin_fgtr, decide_eq_false (by omega), inf_gt]
        exact hk w1 hE1
      · rw [bin_flss, decide_eq_true (by omega), inf_lt]
        exact hk w1 hE1
  · obtain ⟨r, h1, h2⟩ := div_ne ha' hb' hb0
    refine quo_some h1 ?_
    dsimp only
    rw [bin_neq, wIf_dt hb0, conv_f i_T_int hf, conv_f i_T_int hf]
    refine quo_some h1 ?_
    rw [bin_feql, h2]
    exact hk w1 hE1
end
end Go.Dn
end
section
/-! Contracts of package usage, on: Get, Segs, Uses, First, Load. -/
set_option maxRecDepth 10000
set_option linter.unusedVariables false
set_option linter.unusedSimpArgs false
namespace Go.Dn
open Go
theorem U.cells_c (u : U) : ∀ v ∈ u.cells, isC v = true := by simp [U.cells, isC]
theorem fl_c (us : List U) : ∀ v ∈ fl us, isC v = true := by
  induction us with
  | nil => simp [fl]
  | cons u us ih => rw [fl_cons]; intro v hv; simp only [List.mem_cons] at hv; rcases hv with rfl | rfl | rfl | hv; · rfl
                    · rfl
                    · rfl
                    · exact ih v hv
def fstL (p : U → Bool) : List U → Nat → Int
  | [], _ => -1
  | u :: us, i => if p u = true then (i : Int) else fstL p us (i + 1)
section
variable {w : World} {K : Value → World → Prop}
theorem usage_Segs {h d : Nat} {room : Int} {us : List U} {k : Value → World → Prop} (H : Tab w h d room us) (hk : k (.int .i64 us.length) w) : wCall P n_usage_Table_Segs [ptr h] w k := by
  refine call_usage_Table_Segs _ ?_
  unfold F_usage_Table_Segs
  obtain ⟨c, hc, hcell⟩ := H.uses
  simp only [nil_ptr, fA_T_usage_Table_1]
  rw [ld_one o_T_Lcodec_Use hcell, len_s u_T_Lcodec_Use]
  exact hk
theorem usage_Get {h d : Nat} {room seg : Int} {us : List U} {k : Value → World → Prop} (H : Tab w h d room us)
    (h0 : ¬ (0 ≤ seg ∧ seg < us.length) → ∀ w', Ex [] w w' → k (.tuple #[.agg ⟨(⟨0, 0, 0⟩ : U).cells⟩, .int .i64 1]) w')
    (h1 : ∀ u, 0 ≤ seg → us[seg.toNat]? = some u → ∀ w', Ex [] w w' → k (.tuple #[.agg ⟨u.cells⟩, .int .i64 0]) w') :
    wCall P n_usage_Table_Get [ptr h, .int .i64 seg] w k := by
  refine call_usage_Table_Get _ _ ?_
  unfold F_usage_Table_Get
  refine alloc_i z_T_codec_Use rfl fun w1 g1 hg1 hE1 B1 => ?_
  have H1 := H.ex0 hE1
  refine usage_has H1 ?_
  rw [un_not]
  by_cases hseg : 0 ≤ seg ∧ seg < us.length
  · rw [decide_eq_true hseg, show (!true) = false from rfl, wIf_f]
    have hlt : seg.toNat < us.length := by omega
    have hu := List.getElem?_eq_getElem hlt
    obtain ⟨c, hc, hcell⟩ := H1.uses
    simp only [nil_ptr, fA_T_usage_Table_1]
    rw [ld_one o_T_Lcodec_Use hcell]
    refine (H1.slg hc).ix s_T_Lcodec_Use (by omega) (fl_length us) (by omega) (by omega) fun b o hcs => ?_
    rw [fl_cell hu] at hcs
    rw [ld_agg g_T_codec_Use hcs rfl]
    refine st_agg g_T_codec_Use rfl (U.cells_c _) B1 (by simp) fun w2 hE2 B2 => ?_
    have B2' : Blk w2 g1 T_codec_Use us[seg.toNat].cells := B2
    exact res_agg g_T_codec_Use B2'.all rfl (h1 _ (by omega) hu w2 (hE1.new hE2 (by omega)))
  · rw [decide_eq_false hseg, show (!false) = true from rfl, wIf_t]
    rw [bl_T_codec_Use (cs := (⟨0, 0, 0⟩ : U).cells) rfl]
    refine st_agg g_T_codec_Use rfl (U.cells_c _) B1 (by simp) fun w2 hE2 B2 => ?_
    have B2' : Blk w2 g1 T_codec_Use (⟨0, 0, 0⟩ : U).cells := B2
    exact res_agg g_T_codec_Use B2'.all rfl (h0 hseg w2 (hE1.new hE2 (by omega)))
theorem fst_drop (p : U → Bool) {us : List U} {i : Nat} {u : U} (h : us[i]? = some u) : fstL p (us.drop i) i = if p u = true then (i : Int) else fstL p (us.drop (i + 1)) (i + 1) := by
  have hlt := (List.getElem?_eq_some_iff.1 h).1
  rw [List.drop_eq_getElem_cons hlt, (List.getElem?_eq_some_iff.1 h).2]
  rfl
theorem slices_First {v f : Value} {us : List U} {p : U → Bool} {k : Value → World → Prop} (S : SlG w 3 v (fl us)) (hn : us.length ≤ 100000)
    (hf : ∀ u ∈ us, ∀ (w1 : World) (k1 : Value → World → Prop), (∀ w', Ex [] w1 w' → k1 (.bool (p u)) w') → wCallV P f [.agg ⟨u.cells⟩] w1 k1)
    (hk : ∀ w', Ex [] w w' → k (.int .i64 (fstL p us 0)) w') : wCall P n_slices_IndexFunc_codec_Use [v, f] w k := by
  refine call_slices_IndexFunc_codec_Use _ _ ?_
  unfold F_slices_IndexFunc_codec_Use
  rw [S.len_i u_T_Lcodec_Use (by omega) (fl_length us)]
  refine loop_up us.length (fun i b w' => b = .int .i64 (i : Int) ∧ Ex [] w w' ∧ fstL p us 0 = fstL p (us.drop i) i) ⟨rfl, Ex.refl _ _, rfl⟩ ?_
  rintro i J b w1 k' hi ⟨rfl, hE, hF⟩ hk'
  rw [bin_lss]
  refine wIf_d (fun hlt => ?_) (fun hge => ?_)
  · have hlt : i < us.length := by omega
    have hu := List.getElem?_eq_getElem hlt
    refine (S.ex0 hE).ix s_T_Lcodec_Use (by omega) (fl_length us) (by omega) (by omega) fun b o hcs => ?_
    rw [Int.toNat_natCast, fl_cell hu] at hcs
    rw [ld_agg g_T_codec_Use hcs rfl]
    refine hf _ (List.getElem_mem hlt) w1 _ fun w2 hE2 => ?_
    rw [fst_drop p hu] at hF
    refine wIf_i _ (fun hp => ?_) (fun hp => ?_)
    · rw [if_pos hp] at hF
      rw [← hF]
      exact hk w2 (hE.trans hE2)
    · rw [if_neg (by simp [hp])] at hF
      rw [bin_add (by omega)]
      exact hk' _ _ (by omega) ⟨by simp, hE.trans hE2, hF⟩
  · obtain rfl : i = us.length := by omega
    rw [List.drop_length] at hF
    have : (.int .i64 (-1) : Value) = .int .i64 (fstL p us 0) := by rw [hF]; rfl
    rw [this]
    exact hk w1 hE
theorem usage_First {h d : Nat} {room : Int} {us : List U} {k : Value → World → Prop} (H : Tab w h d room us) (hn : us.length ≤ 1000)
    (hk : ∀ w', Ex [] w w' → k (.int .i64 (fstL (fun u => decide (u.state = 0)) us 0)) w') : wCall P n_usage_Table_First [ptr h] w k := by
  refine call_usage_Table_First _ ?_
  unfold F_usage_Table_First
  obtain ⟨c, hc, hcell⟩ := H.uses
  simp only [nil_ptr, fA_T_usage_Table_1]
  rw [ld_one o_T_Lcodec_Use hcell]
  refine slices_First (p := fun u => decide (u.state = 0)) (H.slg hc) (by omega) (fun u _ w1 k1 h1 => ?_) fun w1 hE => hk w1 hE
  rw [callv_0]; exact usage_clean h1
theorem sl_ne_nil {t e : TypeId} (ht : P.underlying t = some (.slice e)) (a : Option Addr) (l c : Nat) : wBin P .eql t (.slice a l c) (.slice none 0 0) w K = K (.bool a.isNone) w :=
  bin_eq_of (by simp) (by simp) (by simp) (by simp) (fun _ _ => rfl) (fun w' => run_equal_slice_nil w' t e a l c ht)
theorem slices_CloneU {v : Value} {us : List U} {k : Value → World → Prop} (S : SlG w 3 v (fl us)) (hn : us.length ≤ 100000)
    (hk : ∀ v' w', Ex [] w w' → Own w' w.heap.size T_codec_Use 3 v' (fl us) → k v' w') : wCall P n_slices_Clone_codec_Use [v] w k := by
  obtain ⟨A, n, c, rfl, hl, hc, hr⟩ := S
  have hnn : us.length = n := by rw [fl_length] at hl; omega
  refine call_slices_Clone_codec_Use _ ?_
  unfold F_slices_Clone_codec_Use
  rw [sl_ne_nil u_T_Lcodec_Use]
  cases A with
  | none =>
    simp only [Option.isNone_none, wIf_t]
    by_cases h0 : n = 0
    · have : us = [] := List.eq_nil_of_length_eq_zero (by omega)
      subst this
      exact hk _ w (Ex.refl _ _) (Own.nil _ _ _ _)
    · obtain ⟨b, o, h, _⟩ := hr h0
      cases h
  | some a =>
    simp only [Option.isNone_some, wIf_f]
    refine buildS_i (n := 0) (cs := []) u_T_Lcodec_Use (sizeOf_agg g_T_codec_Use) z_T_codec_Use (by omega) rfl fun w1 g1 hg1 hE1 B1 => ?_
    have hO : Own w1 w.heap.size T_codec_Use 3 (.slice (some ⟨g1, 0, none⟩) 0 0) [] := Own.of_blk (n := 0) B1 rfl (by omega) (by omega)
    have hle := hE1.le
    refine app_T_Lcodec_Use (n := 0) (m := n) hO (SlG.ex0 ⟨some a, n, c, rfl, hl, hc, hr⟩ hE1) rfl (by rw [fl_length, hnn]) (fl_c us) (by omega) hle fun v' w2 hO2 hE2 _ => ?_
    refine hk v' w2 (hE1.step hE2 fun x hx => ?_) hO2
    right
    simp [Value.ownBlock] at hx
    omega
end
end Go.Dn
end
