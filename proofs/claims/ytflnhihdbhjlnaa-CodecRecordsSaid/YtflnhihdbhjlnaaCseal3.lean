import Derived.Test.YtflnhihdbhjlnaaCseal2
import Derived.Test.YtflnhihdbhjlnaaCnum4
import Derived.Test.YtflnhihdbhjlnaaCtl
/-! Contracts of package seal: Make, Open. -/
set_option maxRecDepth 10000
set_option linter.unusedVariables false
set_option linter.unusedSimpArgs false
namespace Go.Dn
open Go
theorem splN_app {X l : List Nat} {n o : Nat} (h : o = X.length) (hl : l.length ≤ n) : splN (X ++ List.replicate n 0) o l = X ++ l ++ List.replicate (n - l.length) 0 := by
  subst h
  unfold splN
  rw [List.take_left' rfl, List.drop_append, List.drop_of_length_le (by omega), List.nil_append, List.drop_replicate]
  congr 2
  omega
theorem wcells_zero : wcells zeroS 0 0 = List.replicate 128 (Value.int .u8 0) ++ [.int .i64 0, .int .i64 0] := by
  unfold wcells zeroS
  rw [rep_bvs]
  rfl
section
variable {w : World} {K : Value → World → Prop}
theorem seal_Make {kind : Nat} {v : Value} {body : List Nat} {k : Value → World → Prop} (S : SlG w 1 v (bvs body)) (hkd : kind < 256) (hb : ∀ b ∈ body, b < 256) (hl : body.length ≤ 4000000)
    (hbad : kind = 0 ∨ 120 < body.length → ∀ w', Ex [] w w' → k (.tuple #[sv zeroS, .int .i64 1]) w') (hk : kind ≠ 0 → body.length ≤ 120 → ∀ w', Ex [] w w' → k (.tuple #[sv (sealS kind body), .int .i64 0]) w') :
    wCall P n_seal_Make [.int .u8 (kind : Int), v] w k := by
  refine call_seal_Make _ _ ?_
  unfold F_seal_Make
  refine alloc_i z_T_api_Sector (vs := List.replicate 128 (.int .u8 0)) rfl fun w1 g1 hg1 hE1 B1 => ?_
  have S1 := S.ex0 hE1
  simp only [bin_eql, S1.len_i (P := P) u_T_Luint8 (by omega) (n := body.length) (by rw [bvs_length]; omega), bin_gtr, or_p]
  refine wIf_i _ (fun hc => ?_) (fun hc => ?_)
  · simp only [Bool.or_eq_true, decide_eq_true_eq] at hc
    rw [bl_zero_sector]
    refine st_sector g_T_api_Sector zeroS_length B1 List.length_replicate fun w2 hE2 B2 => ?_
    refine res_sector g_T_api_Sector zeroS_length B2 ?_
    exact hbad (by omega) w2 (hE1.new hE2 (by omega))
  · simp only [Bool.or_eq_false_iff, decide_eq_false_iff_not] at hc
    have hk0 : kind ≠ 0 := by omega
    have hl2 : body.length ≤ 120 := by omega
    have l1 := hE1.le
    refine alloc_i z_T_num_Writer (vs := wcells zeroS 0 0) (by rw [wcells_zero]; rfl) fun w2 g2 hg2 hE2 B2 => ?_
    have l2 := hE2.le
    have e0 : zeroS = [] ++ List.replicate 128 0 := rfl
    refine num_Writer_Num (x := 19671) (wd := 2) B2 zeroS_length (by omega) (by omega) (by omega) (by omega) fun w3 hE3 B3 => ?_
    have e1 : splN zeroS 0 (low 19671 2) = [215, 76] ++ List.replicate 126 0 := by rw [e0, splN_app (X := []) (o := 0) rfl (by rw [low_length]; omega)]; rfl
    rw [e1, Nat.zero_add] at B3
    rw [conv_8_64 hkd]
    refine num_Writer_Num (x := kind) (wd := 1) B3 (by simp) (by omega) (by omega) (by omega) (by omega) fun w4 hE4 B4 => ?_
    have e2 : splN ([215, 76] ++ List.replicate 126 0) 2 (low kind 1) = [215, 76, kind] ++ List.replicate 125 0 := by
      rw [splN_app (X := [215, 76]) (o := 2) rfl (by rw [low_length]; omega), show low kind 1 = [kind] by simp [low]; omega]; rfl
    rw [e2] at B4
    have hx : ∀ {a b c : World}, Ex [] a b → Ex [g2] b c → a.heap.size ≤ g2 → Ex [] a c := fun h h' hle => h.new h' hle
    have E4 : Ex [] w1 w4 := (hE2.new hE3 (by omega)).new hE4 (by omega)
    have S4 := S1.ex0 E4
    rw [S4.len_i (P := P) u_T_Luint8 (by omega) (n := body.length) (by rw [bvs_length]; omega), conv_i_64 (by omega)]
    refine num_Writer_Num (x := body.length) (wd := 1) B4 (by simp) (by omega) (by omega) (by omega) (by omega) fun w5 hE5 B5 => ?_
    have e3 : splN ([215, 76, kind] ++ List.replicate 125 0) (2 + 1) (low body.length 1) = [215, 76, kind, body.length] ++ List.replicate 124 0 := by
      rw [splN_app (X := [215, 76, kind]) (o := 2 + 1) rfl (by rw [low_length]; omega), show low body.length 1 = [body.length] by simp [low]; omega]; rfl
    rw [e3] at B5
    have E5 : Ex [] w1 w5 := E4.new hE5 (by omega)
    have fin : ∀ w6, Ex [g2] w5 w6 → Blk w6 g2 T_num_Writer (wcells ([215, 76, kind, body.length] ++ body ++ List.replicate (124 - body.length) 0) (3 + 1 + 120) 0) →
        (wCall P n_num_Writer_Sector [ptr g2] w6 fun t28 w => wExtract P t28 0 w fun t29 w => wExtract P t28 1 w fun _ w => wAlloc P T_api_Sector w fun t7 w => wStore P T_api_Sector t7 t29 w fun w => wDraw w fun w =>
          wSlice P T_api_Sector t7 none none none w fun t31 w => wSlice P T_api_Sector t7 none (some (.int .i64 124)) none w fun t32 w => wCall P n_seal_Crc [t32] w fun t33 w => wConv P T_uint32 T_uint64 t33 w fun t34 w =>
          wCall P n_num_Put [t31, (.int .i64 124), (.int .i64 4), t34] w fun _ w => wLoad P T_api_Sector t7 w fun t36 w => wStore P T_api_Sector (ptr g1) t36 w fun w => wRes P T_api_Sector (ptr g1) w fun r4 => k (.tuple #[r4, (.int .i64 0)]) w) := by
      intro w6 hE6 B6
      generalize hs6 : [215, 76, kind, body.length] ++ body ++ List.replicate (124 - body.length) 0 = s6 at B6
      have hs6l : s6.length = 128 := by rw [← hs6]; simp; omega
      have hs6h : s6 = sealHead kind body ++ [0, 0, 0, 0] := by
        rw [← hs6]
        unfold sealHead
        rw [show 124 - body.length = (120 - body.length) + 4 by omega, ← List.replicate_append_replicate]
        simp
      refine num_Writer_Sector B6 hs6l fun w7 hE7 => ?_
      rw [ext_0, ext_1]
      refine alloc_i z_T_api_Sector (vs := List.replicate 128 (.int .u8 0)) rfl fun w8 g8 hg8 hE8 B8 => ?_
      refine st_sector g_T_api_Sector hs6l B8 List.length_replicate fun w9 hE9 B9 => ?_
      refine draw_i fun w10 hE10 _ => ?_
      have B10 := B9.ex hE10 (by simp)
      rw [sliceA_all a_T_api_Sector, sliceA_hi a_T_api_Sector (by omega) (by omega)]
      have hhl := sealHead_length (kind := kind) hl2
      have hhb := sealHead_lt hkd hl2 hb
      have hcl := crc_lt (sealHead kind body)
      have hS : SlG w10 1 (.slice (some ⟨g8, 0, none⟩) (124 : Int).toNat 128) (bvs (sealHead kind body)) := by
        refine SlG.of_cs (fun i x hx => ?_) (by rw [bvs_length, hhl]; rfl) (by omega)
        rw [Nat.zero_add, B10.cell, hs6h, bvs_append, List.getElem?_append_left (List.getElem?_eq_some_iff.1 hx).1]
        exact hx
      refine seal_Crc hS hhb (by omega) ?_
      rw [conv_32_64 hcl]
      refine num_Put (o := 0) (cs := bvs s6) B10 (by rw [bvs_length]; omega) (by omega) (by omega) (by omega) (fun hno => absurd ⟨by omega, by omega, by omega, by omega, by simpa using hcl⟩ hno) fun _ w11 hE11 B11 => ?_
      have e11 : splice (bvs s6) (0 + (124 : Int).toNat) (bvs (low (crc (sealHead kind body)) (4 : Int).toNat)) = bvs (sealS kind body) := by
        rw [hs6h, bvs_append]
        unfold splice sealS
        rw [bvs_append, show 0 + (124 : Int).toNat = 124 from rfl, List.take_left' (by rw [bvs_length, hhl]), List.drop_of_length_le (by simp [bvs_length, hhl, low_length]), List.append_nil]
        rfl
      rw [e11] at B11
      have hsn := sealS_length (kind := kind) hl2
      have l5 := E5.le
      have l6 := hE6.le
      have l7 := hE7.le
      have l8 := hE8.le
      have E6 : Ex [] w1 w6 := E5.new hE6 (by omega)
      have E11 : Ex [] w1 w11 := ((((E6.trans hE7).trans hE8).step hE9 (by simp; omega)).trans hE10).step hE11 (by simp; omega)
      rw [ld_sector g_T_api_Sector hsn B11]
      have B1' := B1.ex E11 (by simp)
      refine st_sector g_T_api_Sector hsn B1' List.length_replicate fun w12 hE12 B12 => ?_
      refine res_sector g_T_api_Sector hsn B12 ?_
      exact hk hk0 hl2 w12 ((hE1.trans E11).new hE12 (by omega))
    have S5 := S1.ex0 E5
    refine num_Writer_Bytes (n := 120) B5 (by simp) S5 (by omega) (by omega) fun w6 hE6 B6 => ?_
    have e4 : splN ([215, 76, kind, body.length] ++ List.replicate 124 0) (2 + 1 + 1) body = [215, 76, kind, body.length] ++ body ++ List.replicate (124 - body.length) 0 := splN_app rfl (by omega)
    rw [e4] at B6
    exact fin w6 hE6 B6
theorem seal_Open {s : List Nat} {k : Value → World → Prop} (hs : s.length = 128) (hb : ∀ b ∈ s, b < 256)
    (hbad : sealOp s = none → ∀ w', Ex [] w w' → k (.tuple #[.int .u8 0, .slice none 0 0, .int .i64 21]) w')
    (hk : ∀ kind body, sealOp s = some (kind, body) → ∀ v w', Ex [] w w' → Own w' w.heap.size T_uint8 1 v (bvs body) → k (.tuple #[.int .u8 (kind : Int), v, .int .i64 0]) w') : wCall P n_seal_Open [sv s] w k := by
  refine call_seal_Open _ ?_
  unfold F_seal_Open
  refine box_i (sv_cells s) fun w1 g1 hg1 hE1 B1 => ?_
  have l1 := hE1.le
  rw [ld_sector g_T_api_Sector hs B1]
  refine num_Read hs fun w2 g2 hg2 hE2 B2 => ?_
  have l2 := hE2.le
  refine num_Reader_Num (wd := 2) B2 hs hb (by omega) (by omega) fun w3 hE3 B3 => ?_
  refine num_Reader_Num (wd := 1) B3 hs hb (by omega) (by omega) fun w4 hE4 B4 => ?_
  have hat : ∀ i, i < 128 → numOf ((s.drop i).take 1) = s.getD i 0 := by
    intro i hi
    rw [List.drop_eq_getElem_cons (by omega), List.take_succ_cons, List.take_zero, List.getD_eq_getElem?_getD, List.getElem?_eq_getElem (by omega)]
    simp [numOf]
  have hk2 := getD_lt hb 2
  have hk3 := getD_lt hb 3
  rw [hat _ (by omega), show 0 + 2 = 2 from rfl, conv_64_8, Nat.mod_eq_of_lt hk2]
  refine num_Reader_Num (wd := 1) B4 hs hb (by omega) (by omega) fun w5 hE5 B5 => ?_
  rw [hat _ (by omega), show 0 + 2 + 1 = 3 from rfl, conv_i i_T_uint64 i_T_int, IntWalk.i64_in _ (by omega), bin_gtr]
  have E5 : Ex [] w1 w5 := ((hE2.new hE3 (by omega)).new hE4 (by omega)).new hE5 (by omega)
  refine wIf_d (fun hgt => ?_) (fun hle => ?_)
  · exact hbad (by unfold sealOp; rw [if_pos (by omega)]) w5 (hE1.trans E5)
  · have l5 := E5.le
    refine num_Reader_Bytes B5 hs (by omega) fun v w6 hE6 B6 hO6 => ?_
    have hbody : (s.drop (0 + 2 + 1 + 1)).take (s.getD 3 0) = bodyS s := rfl
    rw [hbody] at hO6
    have hbl := bodyS_length hs (by omega)
    have E6 : Ex [] w1 w6 := E5.new hE6 (by omega)
    have fin : ∀ e m w7, m.length = 128 → Ex [] w6 w7 → (e = (0 : Int) ∧ m = s ↔ sealMk (s.getD 2 0) (bodyS s) = some s) →
        (wExtract P (.tuple #[sv m, .int .i64 e]) 0 w7 fun t30 w => wExtract P (.tuple #[sv m, .int .i64 e]) 1 w fun t31 w => wAlloc P T_api_Sector w fun t9 w => wStore P T_api_Sector t9 t30 w fun w => wBin P .neq T_api_Errno t31 (.int .i64 0) w fun t33 w =>
          wGrp t33 false (fun k37 => wLoad P T_api_Sector t9 w fun t35 w => wLoad P T_api_Sector (ptr g1) w fun t36 w => wBin P .neq T_api_Sector t35 t36 w fun t37 w => k37 t37 w) w fun _ t37 w =>
          wPick t33 (.bool true) t37 w fun t38 w => wIf t38 (k (.tuple #[(.int .u8 0), (.slice none 0 0), (.int .i64 21)]) w) (k (.tuple #[.int .u8 (s.getD 2 0 : Nat), v, (.int .i64 0)]) w)) := by
      intro e m w7 hm hE7 hiff
      have l6 := hE6.le
      have l7 := hE7.le
      rw [ext_0, ext_1]
      refine alloc_i z_T_api_Sector (vs := List.replicate 128 (.int .u8 0)) rfl fun w8 g8 hg8 hE8 B8 => ?_
      refine st_sector g_T_api_Sector hm B8 List.length_replicate fun w9 hE9 B9 => ?_
      have E9 : Ex [] w7 w9 := hE8.new hE9 (by omega)
      have B19 := ((B1.ex E6 (by simp)).ex hE7 (by simp)).ex E9 (by simp)
      rw [bin_neq]
      refine or_i (r := !decide (m = s)) (fun _ k2 hk2 => ?_) ?_
      · rw [ld_sector g_T_api_Sector hm B9, ld_sector g_T_api_Sector hs B19, ne_sector hm hs]
        exact hk2
      · refine wIf_i _ (fun hc => ?_) (fun hc => ?_)
        · refine hbad ?_ w9 (((hE1.trans E6).trans hE7).trans E9)
          unfold sealOp
          rw [if_neg (by omega), if_neg]
          intro h
          obtain ⟨h1, h2⟩ := hiff.2 h
          rw [h1, h2] at hc
          simp at hc
        · simp only [Bool.or_eq_false_iff, decide_eq_false_iff_not, Bool.not_eq_false', decide_eq_true_eq] at hc
          refine hk _ _ ?_ v w9 (((hE1.trans E6).trans hE7).trans E9) (((hO6.ex0 hE7).ex0 E9).base (by omega))
          unfold sealOp
          rw [if_neg (by omega), if_pos (hiff.1 ⟨by omega, hc.2⟩)]
    refine seal_Make hO6.slg hk2 (bodyS_lt hb) (by omega) (fun hc w7 hE7 => ?_) (fun h0 hl2 w7 hE7 => ?_)
    · refine fin 1 zeroS w7 zeroS_length hE7 ?_
      constructor
      · intro h; omega
      · intro h
        unfold sealMk at h
        rw [if_pos hc] at h
        cases h
    · refine fin 0 _ w7 (sealS_length hl2) hE7 ?_
      unfold sealMk
      rw [if_neg (by omega)]
      simp
end
end Go.Dn
