import Derived.Test.YtflnhihdbhjlnaaCl05a
/-! Law 05: CodecRecords; printed by mklaw05.py. -/
set_option maxRecDepth 10000
set_option linter.unusedVariables false
set_option linter.unusedSimpArgs false
namespace Go.Dn
open Go
section
variable {w : World} {K : Value → World → Prop}
theorem law05_CodecRecords {a0 a1 : Value} {rs0 : List (List Int)} {bs : List Nat} {k : Value → World → Prop} (S0 : SlG w 4 a0 (rcs kRecord rs0)) (hlen0 : lenR kRecord rs0) (hin0 : ∀ r ∈ rs0, inR kRecord r) (Sb : SlG w 1 a1 (bvs bs)) (hbs : ∀ b ∈ bs, b < 256)
    (hk : ∀ w', Ex [] w w' → k (.bool true) w') : wCall P n_law05_CodecRecords [a0, a1] w k := by
  refine call_law05_CodecRecords _ _ ?_
  unfold F_law05_CodecRecords
  refine law05_awake fun w1 hE1 => ?_
  rw [un_not, show (!true) = false from rfl, wIf_f]
  have S1 := S0.ex0 hE1
  refine j1_of (fun v w' => w1 = w' ∧ ∃ rs, rs.length ≤ 20 ∧ lenR kRecord rs ∧ (∀ r ∈ rs, inR kRecord r) ∧ SlG w1 4 v (rcs kRecord rs)) (fun k2 hk2 => ?_) ?_
  · rw [S1.len_i u_T_Lref05_Record (by omega) (rcs_length hlen0), bin_gtr]
    refine wIf_d (fun hgt => ?_) (fun hle => ?_)
    · refine S1.hi s_T_Lref05_Record (by omega) (rcs_length hlen0) (by omega) (by omega) fun v' _ S' => ?_
      have htl : lenR kRecord (rs0.take 20) := fun r hr => hlen0 r (List.mem_of_mem_take hr)
      refine hk2 _ _ ⟨rfl, rs0.take 20, by rw [List.length_take]; omega, htl, fun r hr => hin0 r (List.mem_of_mem_take hr), ?_⟩
      have e : (rcs kRecord rs0).take ((20 : Int).toNat * 4) = rcs kRecord (rs0.take 20) := by
        conv => lhs; rw [← List.take_append_drop 20 rs0, rcs_append]
        rw [List.take_left']
        rw [rcs_length htl, List.length_take, Nat.min_eq_left (by omega)]
        rfl
      rw [e] at S'
      exact S'
    · exact hk2 _ _ ⟨rfl, rs0, by omega, hlen0, hin0, S1⟩
  rintro J v0 w' ⟨rfl, rs, hn, hlen, hin, S⟩
  refine j1_of (fun v w' => Ex [] w1 w' ∧ Own w' w1.heap.size T_codec_Record 4 v (rcs kRecord rs)) (fun k2 hk2 => ?_) ?_
  · rw [S.len_i u_T_Lref05_Record (by omega) (rcs_length hlen)]
    refine loop_up2 rs.length (fun i v x w' => x = .int .i64 (i : Int) ∧ Ex [] w1 w' ∧ Own w' w1.heap.size T_codec_Record 4 v (rcs kRecord (rs.take i))) ⟨rfl, Ex.refl _ _, Own.nil _ _ _ _⟩ ?_
    rintro i J v x w2 k3 hi ⟨rfl, hE2, hO⟩ hk3
    have l2 := hE2.le
    rw [bin_lss]
    refine wIf_d (fun hlt => ?_) (fun hge => ?_)
    · have hlt : i < rs.length := by omega
      have hrl : rs[i].length = 4 := hlen _ (List.getElem_mem hlt)
      refine (S.ex0 hE2).ix s_T_Lref05_Record (by omega) (rcs_length hlen) (by omega) (by omega) fun b o hcs => ?_
      rw [Int.toNat_natCast] at hcs
      have hcs := (rcs_elem (ks := kRecord) hlen hlt) ▸ hcs
      rw [ld_agg g_T_ref05_Record hcs (rc_length hrl)]
      refine alloc_i z_T_ref05_Record (vs := rc kRecord (zs kRecord)) rfl fun w3 g6 hg6 hE3 B6 => ?_
      refine st_all g_T_ref05_Record (rc_length hrl) (rc_isC _ _) B6 (rc_length (zs_length kRecord)) fun w4 hE4 B6 => ?_
      have E34 : Ex [] w2 w4 := hE3.new hE4 (by omega)
      have l34 := E34.le
      obtain ⟨a, b, c, d, hrr⟩ : ∃ a b c d, rs[i] = [a, b, c, d] := by
        match h : rs[i], hrl with
        | [a, b, c, d], _ => exact ⟨_, _, _, _, rfl⟩
      rw [hrr] at B6
      have B6 : Blk w4 g6 T_ref05_Record [.int .u32 a, .int .u32 b, .int .i64 c, .int .i64 d] := B6
      rw [fA_T_ref05_Record_0, ld_one o_T_uint32 (B6.cell 0 : _ = some (.int .u32 a)), fA_T_ref05_Record_1, ld_one o_T_uint32 (B6.cell 1 : _ = some (.int .u32 b)), fA_T_ref05_Record_2, ld_one o_T_int (B6.cell 2 : _ = some (.int .i64 c)), fA_T_ref05_Record_3, ld_one o_T_int (B6.cell 3 : _ = some (.int .i64 d))]
      rw [bl_T_codec_Record (cs := rc kRecord [a, b, c, d]) (by rw [fill_cons (off := 0) (size := 1) rfl rfl rfl (by simp [splice]), fill_cons (off := 1) (size := 1) rfl rfl rfl (by simp [splice]), fill_cons (off := 2) (size := 1) rfl rfl rfl (by simp [splice]), fill_cons (off := 3) (size := 1) rfl rfl rfl (by simp [splice])]; rfl)]
      refine buildS_1 (xs := rc kRecord [a, b, c, d]) (size := 4) u_T_Lcodec_Record (fun w => sizeOf_agg g_T_codec_Record w) z_T_codec_Record (by omega) rfl rfl rfl fun w6 g7 hg7 hE6 B7 => ?_
      have l6 := hE6.le
      have htl : lenR kRecord (rs.take i) := fun r hr => hlen r (List.mem_of_mem_take hr)
      refine app_T_Lcodec_Record (n := i) (m := 1) ((hO.ex0 E34).ex0 hE6) (SlG.of_cs B7.all rfl (Nat.le_refl _)) (by rw [rcs_length htl, List.length_take, Nat.min_eq_left (by omega)]; rfl) rfl (rc_isC _ _) (by omega) (by omega) fun v' w7 hO7 hE7 _ => ?_
      rw [bin_add (by omega)]
      refine hk3 _ _ _ (by omega) ⟨by simp, ((hE2.trans E34).trans hE6).step hE7 fun y hy => .inr (hO.newb y hy).1, ?_⟩
      rw [takeR hlt, rcs_append, rcs_one, hrr]
      exact hO7
    · obtain rfl : i = rs.length := by omega
      rw [List.take_length] at hO
      exact hk2 _ _ ⟨hE2, hO⟩
  rintro J v5 w2 ⟨hE2, hO2⟩
  have hn1 : rs.length ≤ 1000 := by omega
  refine codec_WriteRecords hO2.slb hlen hin hn1 fun w3 hE3 => ?_
  have hs128 : ((writeL 7 wRecord (mayL (mayB 3 0 2) 13) rs).getD zeroS).length = 128 := wrV_len writeL_len
  have hslt := getD_s (o := writeL 7 wRecord (mayL (mayB 3 0 2) 13) rs) fun s h => writeL_lt (by omega) h
  generalize ho : writeL 7 wRecord (mayL (mayB 3 0 2) 13) rs = o at *
  unfold wrV
  rw [ext_0, ext_1]
  refine alloc_i z_T_api_Sector (vs := List.replicate 128 (.int .u8 0)) rfl fun w4 g4 hg4 hE4 B4 => ?_
  refine st_sector g_T_api_Sector hs128 B4 List.length_replicate fun w5 hE5 B5 => ?_
  have E25 : Ex [] w2 w5 := hE3.trans (hE4.new hE5 (by omega))
  refine ref05_WriteRecords ((S.ex0 hE2).ex0 E25) hlen hin hn1 fun w6 hE6 => ?_
  rw [ho]
  unfold wrB
  rw [ext_0, ext_1]
  refine alloc_i z_T_A128uint8 (vs := List.replicate 128 (.int .u8 0)) rfl fun w7 g7 hg7 hE7 B7 => ?_
  refine st_sector g_T_A128uint8 hs128 B7 List.length_replicate fun w8 hE8 B8 => ?_
  have E58 : Ex [] w5 w8 := hE6.trans (hE7.new hE8 (by omega))
  have B58 := B5.ex E58 (by simp)
  rw [ld_sector g_T_api_Sector hs128 B58, ld_sector g_T_A128uint8 hs128 B8, ne_sector hs128 hs128, decide_eq_true rfl, show (!true) = false from rfl]
  refine or_i (r := false) (fun _ k' hk' => ?_) ?_
  · have he : decide ((if o.isSome = true then (0 : Int) else 1) = 0) = o.isSome := by cases o <;> rfl
    rw [bin_eql, he, bin_bneq _ _ b_T_bool]
    simpa using hk'
  refine or_i (r := false) (fun _ k' hk' => ?_) ?_
  · rw [un_not]
    refine and_i (r := decide ((if o.isSome = true then (0 : Int) else 1) ≠ 1)) (fun _ k2 hk2 => by rw [bin_neq]; exact hk2) ?_
    have he : (!o.isSome && decide ((if o.isSome = true then (0 : Int) else 1) ≠ 1)) = false := by cases o <;> rfl
    rw [he]
    exact hk'
  rw [show ((false || false) || false) = false from rfl, wIf_f, ld_sector g_T_api_Sector hs128 B58]
  have E8 : Ex [] w w8 := ((hE1.trans hE2).trans E25).trans E58
  refine law05_turn hs128 hslt (Sb.ex0 E8) hbs fun s1 w9 hs1 hb1 hE9 => ?_
  refine alloc_i z_T_api_Sector (vs := List.replicate 128 (.int .u8 0)) rfl fun w10 g10 hg10 hE10 B10 => ?_
  refine st_sector g_T_api_Sector hs1 B10 List.length_replicate fun w11 hE11 B11 => ?_
  have E811 : Ex [] w8 w11 := hE9.trans (hE10.new hE11 (by omega))
  have B511 := B58.ex E811 (by simp)
  have l9 := hE9.le
  have lt5 := B58.lt
  refine j0_of (fun w' => Ex [g10] w11 w' ∧ ∃ s2, s2.length = 128 ∧ (∀ b ∈ s2, b < 256) ∧ Blk w' g10 T_api_Sector (bvs s2)) (fun k3 hk3 => ?_) ?_
  · rw [((Sb.ex0 E8).ex0 E811).len_i u_T_Luint8 (by omega) (n := bs.length) (by rw [bvs_length]; omega), bin_eql]
    refine wIf_d (fun _ => ?_) (fun _ => ?_)
    · rw [ld_sector g_T_api_Sector hs128 B511]
      refine st_sector g_T_api_Sector hs128 B11 (by rw [bvs_length, hs1]) fun w12 hE12 B12 => ?_
      exact hk3 w12 ⟨hE12, _, hs128, hslt, B12⟩
    · exact hk3 w11 ⟨Ex.refl _ _, s1, hs1, hb1, B11⟩
  rintro J w12 ⟨hE12, s2, hs2, hb2, B12⟩
  have E12 : Ex [] w w12 := (E8.trans E811).step hE12 (by have := E8.le; simp; omega)
  rw [ld_sector g_T_api_Sector hs2 B12]
  refine codec_ReadRecords hs2 hb2 (fun hr w13 hE13 => ?_) (fun q hr hlq v9 w13 hE13 hO9 => ?_)
  · rw [ext_0, ext_1, ld_sector g_T_api_Sector hs2 (B12.ex hE13 (by simp))]
    refine ref05_ReadRecords hs2 hb2 (fun _ w14 hE14 => ?_) (fun q hq => by rw [hr] at hq; cases hq)
    rw [ext_0, ext_1, len_s u_T_Lcodec_Record, len_s u_T_Lref05_Record, bin_neq, decide_eq_false (by simp)]
    refine or_i (r := false) (fun _ k' hk' => by rw [bin_eql, bin_bneq _ _ b_T_bool]; simpa using hk') ?_
    refine or_i (r := false) (fun _ k' hk' => ?_) ?_
    · rw [un_not]
      refine and_i (r := false) (fun _ k2 hk2 => by rw [bin_neq]; simpa using hk2) ?_
      exact hk'
    rw [show ((false || false) || false) = false from rfl, wIf_f, len_s u_T_Lcodec_Record]
    refine loop_up 0 (fun i x w' => x = .int .i64 0 ∧ w14 = w') ⟨rfl, rfl⟩ ?_
    rintro i J x w15 k4 hi ⟨rfl, rfl⟩ _
    rw [bin_lss, wIf_df (by omega)]
    exact hk w14 ((E12.trans hE13).trans hE14)
  · rw [ext_0, ext_1, ld_sector g_T_api_Sector hs2 (B12.ex hE13 (by simp))]
    refine ref05_ReadRecords hs2 hb2 (fun hq => by rw [hr] at hq; cases hq) (fun q' hq' _ v10 w14 hE14 hO10 => ?_)
    rw [hr] at hq'
    injection hq' with hq'
    subst hq'
    have hO9 : Own w13 w12.heap.size T_codec_Record 4 v9 (rcs kRecord q) := hO9
    have hO9' := hO9.ex0 hE14
    have hqn : q.length ≤ 13 := by
      unfold readL at hr
      split at hr
      · split at hr
        · split at hr
          · split at hr
            · rename_i hm
              injection hr with hr
              subst hr
              unfold mayL at hm
              simp only [Bool.and_eq_true, decide_eq_true_eq] at hm
              omega
            · cases hr
          · cases hr
        · cases hr
      · cases hr
    rw [ext_0, ext_1, hO9'.slg.len_i u_T_Lcodec_Record (by omega) (rcs_length hlq), hO10.slg.len_i u_T_Lref05_Record (by omega) (rcs_length hlq), bin_neq, decide_eq_false (by simp)]
    refine or_i (r := false) (fun _ k' hk' => by rw [bin_eql, bin_bneq _ _ b_T_bool]; simpa using hk') ?_
    refine or_i (r := false) (fun _ k' hk' => ?_) ?_
    · rw [un_not]
      refine and_i (r := true) (fun h => by cases h) ?_
      exact hk'
    rw [show ((false || false) || false) = false from rfl, wIf_f, hO9'.slg.len_i u_T_Lcodec_Record (by omega) (rcs_length hlq)]
    refine loop_up q.length (fun i x w' => x = .int .i64 (i : Int) ∧ Ex [] w14 w') ⟨rfl, Ex.refl _ _⟩ ?_
    rintro i J x w15 k4 hi ⟨rfl, hE15⟩ hk4
    rw [bin_lss]
    refine wIf_d (fun hlt => ?_) (fun hge => ?_)
    · have hlt : i < q.length := by omega
      have hrl : q[i].length = 4 := hlq _ (List.getElem_mem hlt)
      obtain ⟨a, b, c, d, hrr⟩ : ∃ a b c d, q[i] = [a, b, c, d] := by
        match h : q[i], hrl with
        | [a, b, c, d], _ => exact ⟨_, _, _, _, rfl⟩
      refine draw_i fun w16 hE16 _ => ?_
      have hEb : Ex [] w13 w16 := hE14.trans (hE15.trans hE16)
      have hEc : Ex [] w14 w16 := hE15.trans hE16
      refine (hO9.slg.ex0 hEb).ix s_T_Lcodec_Record (by omega) (rcs_length hlq) (by omega) (by omega) fun b1 o1 hc1 => ?_
      rw [Int.toNat_natCast] at hc1
      have hc1 := (rcs_elem (ks := kRecord) hlq hlt) ▸ hc1
      rw [hrr] at hc1
      rw [fA_T_codec_Record_0, ld_one o_T_uint32 (show w16.cell? ⟨b1, o1, none⟩ = some (.int .u32 a) from hc1 0 _ rfl)]
      refine (hO10.slg.ex0 hEc).ix s_T_Lref05_Record (by omega) (rcs_length hlq) (by omega) (by omega) fun b2 o2 hc2 => ?_
      rw [Int.toNat_natCast] at hc2
      have hc2 := (rcs_elem (ks := kRecord) hlq hlt) ▸ hc2
      rw [hrr] at hc2
      rw [fA_T_ref05_Record_0, ld_one o_T_uint32 (show w16.cell? ⟨b2, o2, none⟩ = some (.int .u32 a) from hc2 0 _ rfl), bin_neq, decide_eq_false (by simp)]
      refine or_i (r := false) (fun _ k' hk' => ?_) ?_
      · refine (hO9.slg.ex0 hEb).ix s_T_Lcodec_Record (by omega) (rcs_length hlq) (by omega) (by omega) fun b1 o1 hc1 => ?_
        rw [Int.toNat_natCast] at hc1
        have hc1 := (rcs_elem (ks := kRecord) hlq hlt) ▸ hc1
        rw [hrr] at hc1
        rw [fA_T_codec_Record_1, ld_one o_T_uint32 (show w16.cell? ⟨b1, o1+ 1, none⟩ = some (.int .u32 b) from hc1 1 _ rfl)]
        refine (hO10.slg.ex0 hEc).ix s_T_Lref05_Record (by omega) (rcs_length hlq) (by omega) (by omega) fun b2 o2 hc2 => ?_
        rw [Int.toNat_natCast] at hc2
        have hc2 := (rcs_elem (ks := kRecord) hlq hlt) ▸ hc2
        rw [hrr] at hc2
        rw [fA_T_ref05_Record_1, ld_one o_T_uint32 (show w16.cell? ⟨b2, o2+ 1, none⟩ = some (.int .u32 b) from hc2 1 _ rfl), bin_neq, decide_eq_false (by simp)]
        exact hk'
      refine or_i (r := false) (fun _ k' hk' => ?_) ?_
      · refine (hO9.slg.ex0 hEb).ix s_T_Lcodec_Record (by omega) (rcs_length hlq) (by omega) (by omega) fun b1 o1 hc1 => ?_
        rw [Int.toNat_natCast] at hc1
        have hc1 := (rcs_elem (ks := kRecord) hlq hlt) ▸ hc1
        rw [hrr] at hc1
        rw [fA_T_codec_Record_2, ld_one o_T_int (show w16.cell? ⟨b1, o1+ 2, none⟩ = some (.int .i64 c) from hc1 2 _ rfl)]
        refine (hO10.slg.ex0 hEc).ix s_T_Lref05_Record (by omega) (rcs_length hlq) (by omega) (by omega) fun b2 o2 hc2 => ?_
        rw [Int.toNat_natCast] at hc2
        have hc2 := (rcs_elem (ks := kRecord) hlq hlt) ▸ hc2
        rw [hrr] at hc2
        rw [fA_T_ref05_Record_2, ld_one o_T_int (show w16.cell? ⟨b2, o2+ 2, none⟩ = some (.int .i64 c) from hc2 2 _ rfl), bin_neq, decide_eq_false (by simp)]
        exact hk'
      refine or_i (r := false) (fun _ k' hk' => ?_) ?_
      · refine (hO9.slg.ex0 hEb).ix s_T_Lcodec_Record (by omega) (rcs_length hlq) (by omega) (by omega) fun b1 o1 hc1 => ?_
        rw [Int.toNat_natCast] at hc1
        have hc1 := (rcs_elem (ks := kRecord) hlq hlt) ▸ hc1
        rw [hrr] at hc1
        rw [fA_T_codec_Record_3, ld_one o_T_int (show w16.cell? ⟨b1, o1+ 3, none⟩ = some (.int .i64 d) from hc1 3 _ rfl)]
        refine (hO10.slg.ex0 hEc).ix s_T_Lref05_Record (by omega) (rcs_length hlq) (by omega) (by omega) fun b2 o2 hc2 => ?_
        rw [Int.toNat_natCast] at hc2
        have hc2 := (rcs_elem (ks := kRecord) hlq hlt) ▸ hc2
        rw [hrr] at hc2
        rw [fA_T_ref05_Record_3, ld_one o_T_int (show w16.cell? ⟨b2, o2+ 3, none⟩ = some (.int .i64 d) from hc2 3 _ rfl), bin_neq, decide_eq_false (by simp)]
        exact hk'
      rw [show (((false || false) || false) || false) = false from rfl, wIf_f, bin_add (by omega)]
      exact hk4 _ _ (by omega) ⟨by simp, hEc⟩
    · exact hk w15 (((E12.trans hE13).trans hE14).trans hE15)
end
end Go.Dn
