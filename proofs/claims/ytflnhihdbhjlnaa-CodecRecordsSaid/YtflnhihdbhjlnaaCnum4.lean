import Derived.Test.YtflnhihdbhjlnaaCnum3
/-! Contracts of package num: Reader. -/
set_option linter.unusedVariables false
set_option linter.unusedSimpArgs false
namespace Go.Dn
open Go
section
variable {w : World} {K : Value → World → Prop}
theorem sv_cells (s : List Nat) : (sv s).cells = ⟨bvs s⟩ := rfl
theorem splice_front {cs vs : List Value} {n : Nat} (h : vs.length = n) (hc : n ≤ cs.length) : splice cs 0 vs = vs ++ cs.drop n := by simp [splice, h]
theorem num_Read {s : List Nat} {k : Value → World → Prop} (hs : s.length = 128)
    (hk : ∀ w' g, w.heap.size ≤ g → Ex [] w w' → Blk w' g T_num_Reader (wcells s 0 0) → k (.pointer (some ⟨g, 0, none⟩)) w') : wCall P n_num_Read [sv s] w k := by
  refine call_num_Read _ ?_
  unfold F_num_Read
  refine box_i (sv_cells s) fun w1 g1 hg1 hE1 B1 => ?_
  rw [ld_agg g_T_api_Sector B1.all (by rw [bvs_length, hs])]
  rw [bl_T_num_Reader (cs := wcells s 0 0) (by
    rw [fill_cons (off := 0) (size := 128) rfl rfl (by rw [bvs_length, hs]) (by simp), splice_front (n := 128) (by rw [bvs_length, hs]) (by simp)]
    exact fill_nil)]
  refine box_i (vs := wcells s 0 0) rfl fun w2 g2 hg2 hE2 B2 => ?_
  have := hE1.le
  exact hk w2 g2 (by omega) (hE1.trans hE2) B2
/-- A number is read. -/
theorem num_Reader_Num {g at_ wd : Nat} {s : List Nat} {k : Value → World → Prop} (H : Blk w g T_num_Reader (wcells s at_ 0)) (hs : s.length = 128) (hb : ∀ b ∈ s, b < 256) (hw : 1 ≤ wd ∧ wd ≤ 8) (ha : at_ + wd ≤ 128)
    (hk : ∀ w', Ex [g] w w' → Blk w' g T_num_Reader (wcells s (at_ + wd) 0) → k (.int .u64 (numOf ((s.drop at_).take wd) : Nat)) w') :
    wCall P n_num_Reader_Num [.pointer (some ⟨g, 0, none⟩), .int .i64 (wd : Int)] w k := by
  refine call_num_Reader_Num _ _ ?_
  unfold F_num_Reader_Num
  simp only [nil_ptr, fA_T_num_Reader_2, fA_T_num_Reader_0, fA_T_num_Reader_1, Nat.zero_add]
  rw [ld_one o_T_api_Errno ((H.cell 129).trans (wcells_e hs _ _)), bin_neq, wIf_df (by simp)]
  refine draw_i fun w1 hE1 hh1 => ?_
  have H1 := H.heap hh1
  rw [sliceA_all a_T_api_Sector, ld_one o_T_int ((H1.cell 128).trans (wcells_at hs _ _))]
  have hc : Cs w1 g 0 (bvs s) := by
    have := H1.cs 0 128
    rw [List.drop_zero, wcells, List.take_append_of_le_length (by rw [bvs_length]; omega), List.take_of_length_le (by rw [bvs_length]; omega)] at this
    exact this
  refine num_Get (bs := s) (SlG.of_cs hc (by rw [bvs_length]; omega) (by omega)) hb hs (by omega) (by omega) (fun hn => absurd ⟨by omega, by omega, by omega, by omega⟩ hn) fun _ => ?_
  rw [ext_0, ext_1]
  refine st_one o_T_api_Errno rfl H1 (by rw [wcells_len hs]; omega) fun w3 hE3 H3 => ?_
  rw [wcells_setE hs] at H3
  rw [bin_eql, wIf_dt rfl, ld_one o_T_int ((H3.cell 128).trans (wcells_at hs _ _)), bin_add (by omega)]
  refine st_one o_T_int rfl H3 (by rw [wcells_len hs]; omega) fun w4 hE4 H4 => ?_
  rw [show ((at_ : Int) + (wd : Int)) = ((at_ + wd : Nat) : Int) by omega, wcells_setA hs] at H4
  simp only [Int.toNat_natCast]
  exact hk w4 ((hE1.nil.trans hE3).trans hE4) H4
theorem num_Reader_Left {g at_ : Nat} {s : List Nat} {k : Value → World → Prop} (H : Blk w g T_num_Reader (wcells s at_ 0)) (hs : s.length = 128) (ha : at_ ≤ 128)
    (hk : k (.int .i64 ((128 - at_ : Nat) : Int)) w) : wCall P n_num_Reader_Left [.pointer (some ⟨g, 0, none⟩)] w k := by
  refine call_num_Reader_Left _ ?_
  unfold F_num_Reader_Left
  simp only [nil_ptr, fA_T_num_Reader_1, Nat.zero_add]
  rw [ld_one o_T_int ((H.cell 128).trans (wcells_at hs _ _)), bin_sub (by omega), show ((128 : Int) - (at_ : Int)) = ((128 - at_ : Nat) : Int) by omega]
  exact hk
theorem num_Reader_Bytes {g at_ n : Nat} {s : List Nat} {k : Value → World → Prop} (H : Blk w g T_num_Reader (wcells s at_ 0)) (hs : s.length = 128) (ha : at_ + n ≤ 128)
    (hk : ∀ v w', Ex [g] w w' → Blk w' g T_num_Reader (wcells s (at_ + n) 0) → Own w' w.heap.size T_uint8 1 v (bvs ((s.drop at_).take n)) → k v w') :
    wCall P n_num_Reader_Bytes [.pointer (some ⟨g, 0, none⟩), .int .i64 (n : Int)] w k := by
  refine call_num_Reader_Bytes _ _ ?_
  unfold F_num_Reader_Bytes wJ0
  simp only [nil_ptr, fA_T_num_Reader_2, fA_T_num_Reader_0, fA_T_num_Reader_1, Nat.zero_add]
  rw [ld_one o_T_api_Errno ((H.cell 129).trans (wcells_e hs _ _)), bin_eql]
  refine and_i (r := false) (fun _ k' hk' => ?_) ?_
  · rw [bin_lss]
    refine or_i (r := false) (fun _ k2 hk2 => ?_) ?_
    · refine num_Reader_Left H hs (by omega) ?_
      rw [bin_gtr, show decide (((128 - at_ : Nat) : Int) < (n : Int)) = false from by simp; omega]
      exact hk2
    · rw [show (decide ((n : Int) < 0) || false) = false from by simp]
      exact hk'
  · rw [Bool.and_false, wIf_f]
    intro _
    rw [ld_one o_T_api_Errno ((H.cell 129).trans (wcells_e hs _ _)), bin_neq, wIf_df (by simp), ld_one o_T_int ((H.cell 128).trans (wcells_at hs _ _)), bin_add (by omega)]
    refine st_one o_T_int rfl H (by rw [wcells_len hs]; omega) fun w1 hE1 H1 => ?_
    rw [show ((at_ : Int) + (n : Int)) = ((at_ + n : Nat) : Int) by omega, wcells_setA hs] at H1
    refine draw_i fun w2 hE2 hh2 => ?_
    have H2 := H1.heap hh2
    rw [ld_one o_T_int ((H2.cell 128).trans (wcells_at hs _ _)), bin_sub (by omega), ld_one o_T_int ((H2.cell 128).trans (wcells_at hs _ _)),
      show (((at_ + n : Nat) : Int) - (n : Int)) = (at_ : Int) by omega, sliceA_lohi a_T_api_Sector (by omega) (by omega) (by omega)]
    have hc : Cs w2 g 0 (bvs s) := by
      have := H2.cs 0 128
      rw [List.drop_zero, wcells, List.take_append_of_le_length (by rw [bvs_length]; omega), List.take_of_length_le (by rw [bvs_length]; omega)] at this
      exact this
    have hS : SlG w2 1 (.slice (some ⟨g, if 128 = (at_ : Int).toNat then 0 else 0 + (at_ : Int).toNat * 1, none⟩) (((at_ + n : Nat) : Int).toNat - (at_ : Int).toNat) (128 - (at_ : Int).toNat)) (bvs ((s.drop at_).take n)) := by
      rw [show ((at_ + n : Nat) : Int).toNat - (at_ : Int).toNat = n by omega, show 128 - (at_ : Int).toNat = 128 - at_ by omega]
      refine ⟨_, n, 128 - at_, rfl, ?_, by omega, fun hn => ⟨g, at_, ?_, ?_⟩⟩
      · rw [bvs_length, List.length_take, List.length_drop]; omega
      · rw [if_neg (by omega), show 0 + (at_ : Int).toNat * 1 = at_ by omega]
      · have := hc.sub at_ n
        rw [Nat.zero_add] at this
        rw [bvs, List.map_take, List.map_drop]
        exact this
    have e1 := hE1.le
    have e2 := hE2.le
    refine app_T_Luint8 (base := w2.heap.size) (n := 0) (m := n) (Own.nil _ _ _ _) hS rfl (by rw [bvs_length, List.length_take, List.length_drop]; omega) (bvs_isC _) (by omega) (Nat.le_refl _) fun v w3 hO3 hE3 _ => ?_
    refine hk v w3 ((hE1.trans hE2.nil).trans (hE3.mono (by simp [Value.ownBlock]))) (H2.ex hE3 (by simp [Value.ownBlock])) ?_
    simpa using hO3.base (by omega)
end
end Go.Dn
