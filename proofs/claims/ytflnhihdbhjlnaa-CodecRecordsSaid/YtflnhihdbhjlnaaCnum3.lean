import Derived.Test.YtflnhihdbhjlnaaCnum2
import Derived.Test.YtflnhihdbhjlnaaMem6
/-! Contracts of package num: the rest. -/
set_option linter.unusedVariables false
set_option linter.unusedSimpArgs false
namespace Go.Dn
open Go
section
variable {w : World} {K : Value → World → Prop}
def sv (s : List Nat) : Value := .agg ⟨bvs s⟩
theorem num_Writer_Bytes {g at_ n : Nat} {s bs : List Nat} {src : Value} {k : Value → World → Prop} (H : Blk w g T_num_Writer (wcells s at_ 0)) (hs : s.length = 128) (S : SlG w 1 src (bvs bs))
    (hl : bs.length ≤ n) (ha : at_ + n ≤ 128) (hk : ∀ w', Ex [g] w w' → Blk w' g T_num_Writer (wcells (splN s at_ bs) (at_ + n) 0) → k (.tuple #[]) w') :
    wCall P n_num_Writer_Bytes [.pointer (some ⟨g, 0, none⟩), .int .i64 (n : Int), src] w k := by
  refine call_num_Writer_Bytes _ _ _ ?_
  unfold F_num_Writer_Bytes wJ0
  simp only [nil_ptr, fA_T_num_Writer_2, fA_T_num_Writer_0, fA_T_num_Writer_1, Nat.zero_add]
  rw [ld_one o_T_api_Errno ((H.cell 129).trans (wcells_e hs _ _)), bin_eql]
  have hsub : -9223372036854775808 ≤ (128 : Int) - (at_ : Int) ∧ (128 : Int) - (at_ : Int) ≤ 9223372036854775807 := by omega
  simp only [S.len_i (P := P) u_T_Luint8 (by omega) (n := bs.length) (by rw [bvs_length]; omega), bin_lss, ld_one o_T_int ((H.cell 128).trans (wcells_at hs _ _)), bin_sub hsub, bin_gtr, or_p, and_p]
  refine wIf_i _ (fun hb => absurd hb (by simp; omega)) (fun _ => ?_)
  intro _
  rw [ld_one o_T_api_Errno ((H.cell 129).trans (wcells_e hs _ _)), bin_eql, wIf_dt rfl]
  refine draw_i fun w1 hE1 hh1 => ?_
  have H1 := H.heap hh1
  rw [ld_one o_T_int ((H1.cell 128).trans (wcells_at hs _ _)), sliceA_lo a_T_api_Sector (by omega) (by omega)]
  have fin : ∀ o, (bs ≠ [] → o = at_) → o ≤ 128 → wBuiltin P .copy #[T_Luint8, T_Luint8] [.slice (some ⟨g, o, none⟩) (128 - (at_ : Int).toNat) (128 - (at_ : Int).toNat), src] w1 fun _ w => wLoad P T_int (.pointer (some ⟨g, 128, none⟩)) w fun t47 w => wBin P .add T_int t47 (.int .i64 (n : Int)) w fun t49 w => wStore P T_int (.pointer (some ⟨g, 128, none⟩)) t49 w fun w => k (.tuple #[]) w := by
    intro o ho ho128
    have hm : min (bvs bs).length (128 - (at_ : Int).toNat) = bs.length := by rw [bvs_length]; omega
    refine copy_i u_T_Luint8 o_T_uint8 H1 (S.ex0 hE1) (bvs_isC bs) ?_ fun w2 hE2 H2 => ?_
    · rw [hm, wcells_len hs]
      by_cases hb : bs = []
      · subst hb; simp; omega
      · rw [ho hb]; omega
    · have ht : (bvs bs).take (128 - (at_ : Int).toNat) = bvs bs := List.take_of_length_le (by rw [bvs_length]; omega)
      rw [ht] at H2
      have e : splice (wcells s at_ 0) o (bvs bs) = wcells (splN s at_ bs) at_ 0 := by
        by_cases hb : bs = []
        · subst hb; simp [splice, bvs, splN, wcells]
        · rw [ho hb, wcells_splice hs (by omega)]
      rw [e] at H2
      have hs2 : (splN s at_ bs).length = 128 := by rw [splN_length (by omega), hs]
      rw [ld_one o_T_int ((H2.cell 128).trans (wcells_at hs2 _ _)), bin_add (by omega)]
      refine st_one o_T_int rfl H2 (by rw [wcells_len hs2]; omega) fun w3 hE3 H3 => ?_
      rw [show ((at_ : Int) + (n : Int)) = ((at_ + n : Nat) : Int) by omega, wcells_setA hs2] at H3
      exact hk w3 ((hE1.nil.trans hE2).trans hE3) H3
  refine fin _ (fun hb => ?_) ?_
  · have : bs.length ≠ 0 := fun h => hb (List.eq_nil_of_length_eq_zero h)
    rw [if_neg (by omega)]
    omega
  · split <;> omega
theorem num_Writer_Sector {g at_ : Nat} {s : List Nat} {k : Value → World → Prop} (H : Blk w g T_num_Writer (wcells s at_ 0)) (hs : s.length = 128)
    (hk : ∀ w', Ex [] w w' → k (.tuple #[sv s, .int .i64 0]) w') : wCall P n_num_Writer_Sector [.pointer (some ⟨g, 0, none⟩)] w k := by
  refine call_num_Writer_Sector _ ?_
  unfold F_num_Writer_Sector
  refine alloc_i z_T_api_Sector (vs := List.replicate 128 (.int .u8 0)) rfl fun w1 g1 hg1 hE1 B1 => ?_
  simp only [nil_ptr, fA_T_num_Writer_2, fA_T_num_Writer_0, Nat.zero_add]
  have H1 := H.ex hE1 (by simp)
  have hc : Cs w1 g 0 (bvs s) := by
    have := H1.cs 0 128
    rw [List.drop_zero, wcells, List.take_append_of_le_length (by rw [bvs_length]; omega), List.take_of_length_le (by rw [bvs_length]; omega)] at this
    exact this
  rw [ld_one o_T_api_Errno ((H1.cell 129).trans (wcells_e hs _ _)), bin_neq, wIf_df (by simp), ld_agg g_T_api_Sector hc (by rw [bvs_length, hs])]
  refine st_agg g_T_api_Sector (by rw [bvs_length, hs]) (bvs_isC s) B1 (by simp) fun w2 hE2 B2 => ?_
  have e : splice (List.replicate 128 (Value.int .u8 0)) 0 (bvs s) = bvs s := by simp [splice, bvs_length, hs]
  rw [e] at B2
  refine res_agg g_T_api_Sector B2.all (by rw [bvs_length, hs]) ?_
  exact hk w2 (hE1.new hE2 (by omega))
end
end Go.Dn
