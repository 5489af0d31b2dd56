import Derived.Test.YtflnhihdbhjlnaaCref
import Derived.Test.YtflnhihdbhjlnaaGref02
import Derived.Test.YtflnhihdbhjlnaaGseal
/-! Contracts of seal and of its reference: Crc. -/
set_option linter.unusedVariables false
set_option linter.unusedSimpArgs false
namespace Go.Dn
open Go
section
variable {w : World} {K : Value → World → Prop}
theorem conv_8_32 {x : Nat} (h : x < 256) : wConv P T_uint8 T_uint32 (.int .u8 (x : Int)) w K = K (.int .u32 (x : Int)) w := by
  rw [conv_i i_T_uint8 i_T_uint32, wrapN rfl (by simp only [IntKind.bits]; omega)]
theorem conv_32_64 {x : Nat} (h : x < 4294967296) : wConv P T_uint32 T_uint64 (.int .u32 (x : Int)) w K = K (.int .u64 (x : Int)) w := by
  rw [conv_i i_T_uint32 i_T_uint64, wrapN rfl (by simp only [IntKind.bits]; omega)]
theorem conv_i_8 {x : Nat} (h : x < 256) : wConv P T_int T_uint8 (.int .i64 (x : Int)) w K = K (.int .u8 (x : Int)) w := by
  rw [conv_i i_T_int i_T_uint8, wrapN rfl (by simp only [IntKind.bits]; omega)]
theorem conv_8_i {x : Nat} (h : x < 256) : wConv P T_uint8 T_int (.int .u8 (x : Int)) w K = K (.int .i64 (x : Int)) w := by
  rw [conv_i i_T_uint8 i_T_int, IntWalk.i64_in _ (by omega)]
theorem conv_i_64 {x : Nat} (h : x ≤ 9223372036854775807) : wConv P T_int T_uint64 (.int .i64 (x : Int)) w K = K (.int .u64 (x : Int)) w := by
  rw [conv_i i_T_int i_T_uint64, wrapN rfl (by simp only [IntKind.bits]; omega)]
theorem xor_ones {x : Nat} (h : x < 4294967296) : 4294967295 ^^^ x = 4294967295 - x := by
  have h1 : (BitVec.allOnes 32 ^^^ BitVec.ofNat 32 x).toNat = (~~~ (BitVec.ofNat 32 x)).toNat := by
    rw [BitVec.xor_comm, BitVec.xor_allOnes]
  rw [BitVec.toNat_xor, BitVec.toNat_not, BitVec.toNat_allOnes, BitVec.toNat_ofNat] at h1
  have : x % 2 ^ 32 = x := Nat.mod_eq_of_lt h
  rw [this] at h1
  exact h1
theorem shr1_u32 {x : Nat} : wBin P .shr T_uint32 (.int .u32 x) (.int .u64 1) w K = K (.int .u32 ((x / 2 : Nat) : Int)) w := by
  rw [bin_shr (by omega)]
  congr 2
  rw [Int.fdiv_eq_ediv_of_nonneg _ (by exact Int.le_of_lt (Int.pow_pos (by decide)))]
  simp [IntKind.bits]
theorem and1_u32 {x : Nat} (h : x < 4294967296) : wBin P .and T_uint32 (.int .u32 x) (.int .u32 1) w K = K (.int .u32 ((x % 2 : Nat) : Int)) w := by
  have e1 : (1 : Int) = ((1 : Nat) : Int) := rfl
  rw [e1, bin_andN (by simp only [IntKind.bits]; omega) (by simp only [IntKind.bits]; omega) rfl, Nat.and_one_is_mod]
attribute [local semireducible] wUn in
theorem un_xor32 {x : Nat} (h : x < 4294967296) : wUn P .xor (.int .u32 x) w K = K (.int .u32 ((4294967295 - x : Nat) : Int)) w := by
  refine pureW_eq (fun w' => ?_) w K
  have e : (IntKind.max .u32) = ((4294967295 : Nat) : Int) := by decide
  have h1 : BitVec.ofInt 32 ((4294967295 : Nat) : Int) = BitVec.allOnes 32 := by decide
  simp only [Op.unary, IntKind.signed, Bool.false_eq_true, if_false, e, Op.intBits, BitVec.toNat_xor]
  rw [show IntKind.u32.bits = 32 from rfl, ofInt_nat (by omega), ofInt_nat (by omega), xor_ones h, wrapN rfl (by simp only [IntKind.bits]; omega)]
  rfl
theorem take_get {bs : List Nat} {i : Nat} (h : i < bs.length) : bs.take (i + 1) = bs.take i ++ [bs[i]] := List.take_succ_eq_append_getElem h
theorem ref02_Crc {v : Value} {bs : List Nat} {k : Value → World → Prop} (S : SlG w 1 v (bvs bs)) (hb : ∀ b ∈ bs, b < 256) (hl : bs.length ≤ 4611686018427387904) (hk : k (.int .u32 (crc bs : Nat)) w) : wCall P n_ref02_Crc [v] w k := by
  refine call_ref02_Crc _ ?_
  unfold F_ref02_Crc
  simp only [wJ1]
  refine loop_up2 bs.length (fun i a u w' => a = .int .u32 (crcGo 4294967295 (bs.take i) : Nat) ∧ u = .int .i64 (i : Int) ∧ w' = w) ⟨by simp [crcGo], rfl, rfl⟩ ?_
  rintro i J a u w' k' hi ⟨rfl, rfl, rfl⟩ hk'
  rw [S.len_i u_T_Luint8 (by omega) (n := bs.length) (by rw [bvs_length]; omega), bin_lss]
  have hgo : crcGo 4294967295 (bs.take i) < 4294967296 := crcGo_lt (fun b h => hb b (List.mem_of_mem_take h)) (by omega)
  refine wIf_d (fun hlt => ?_) (fun hge => ?_)
  · have hlt' : i < bs.length := by omega
    have hbl := hb _ (List.getElem_mem hlt')
    refine S.ix1 (x := .int .u8 (bs[i] : Nat)) s_T_Luint8 (by omega) (bvs_get (List.getElem?_eq_getElem hlt')) fun ad had => ?_
    have hx := Nat.xor_lt_two_pow (n := 32) hgo (show bs[i] < 2 ^ 32 by omega)
    rw [ld_one o_T_uint8 had, conv_8_32 hbl, bin_xorN (by simp only [IntKind.bits]; omega) (by simp only [IntKind.bits]; omega) rfl]
    refine loop_up2 8 (fun m a u w2 => a = .int .u32 (crcSteps m (crcGo 4294967295 (bs.take i) ^^^ bs[i]) : Nat) ∧ u = .int .i64 (m : Int) ∧ w2 = w') ⟨rfl, rfl, rfl⟩ ?_
    rintro m J2 a u w2 k2 hm ⟨rfl, rfl, rfl⟩ hk2
    have hst := crcSteps_lt hx m
    rw [bin_lss]
    refine wIf_d (fun hm8 => ?_) (fun hm8 => ?_)
    · have e2 : (2 : Int) = ((2 : Nat) : Int) := rfl
      rw [e2, bin_remN (by decide), bin_eql]
      have e1 : (1 : Int) = ((1 : Nat) : Int) := rfl
      refine wIf_d (fun h1 => ?_) (fun h1 => ?_)
      · have e3 : (3988292384 : Int) = ((3988292384 : Nat) : Int) := rfl
        rw [bin_quoN rfl (by simp only [IntKind.bits]; omega) (by decide), e3, bin_xorN (by simp only [IntKind.bits]; omega) (by simp only [IntKind.bits]; omega) rfl, bin_add (by omega)]
        refine hk2 _ _ _ (by omega) ⟨?_, rfl, rfl⟩
        simp only [crcSteps, crcStep]
        rw [if_pos (by omega)]
      · rw [bin_quoN rfl (by simp only [IntKind.bits]; omega) (by decide), bin_add (by omega)]
        refine hk2 _ _ _ (by omega) ⟨?_, rfl, rfl⟩
        simp only [crcSteps, crcStep]
        rw [if_neg (by omega)]
    · obtain rfl : m = 8 := by omega
      intro _
      rw [bin_add (by omega)]
      refine hk' _ _ _ (by omega) ⟨?_, rfl, rfl⟩
      rw [take_get hlt', crcGo_snoc]
  · obtain rfl : i = bs.length := by omega
    intro _
    rw [List.take_of_length_le (Nat.le_refl _)] at hgo ⊢
    rw [bin_subw, show ((4294967295 : Int) - ((crcGo 4294967295 bs : Nat) : Int)) = ((4294967295 - crcGo 4294967295 bs : Nat) : Int) by omega, wrapN rfl (by simp only [IntKind.bits]; omega)]
    exact hk
theorem seal_Crc {v : Value} {bs : List Nat} {k : Value → World → Prop} (S : SlG w 1 v (bvs bs)) (hb : ∀ b ∈ bs, b < 256) (hl : bs.length ≤ 4611686018427387904) (hk : k (.int .u32 (crc bs : Nat)) w) : wCall P n_seal_Crc [v] w k := by
  refine call_seal_Crc _ ?_
  unfold F_seal_Crc
  simp only [wJ1]
  rw [S.len_i u_T_Luint8 (by omega) (n := bs.length) (by rw [bvs_length]; omega)]
  refine loop_up2 bs.length (fun i a u w' => a = .int .u32 (crcGo 4294967295 (bs.take i) : Nat) ∧ u = .int .i64 (i : Int) ∧ w' = w) ⟨by simp [crcGo], rfl, rfl⟩ ?_
  rintro i J a u w' k' hi ⟨rfl, rfl, rfl⟩ hk'
  rw [bin_lss]
  have hgo : crcGo 4294967295 (bs.take i) < 4294967296 := crcGo_lt (fun b h => hb b (List.mem_of_mem_take h)) (by omega)
  refine wIf_d (fun hlt => ?_) (fun hge => ?_)
  · have hlt' : i < bs.length := by omega
    have hbl := hb _ (List.getElem_mem hlt')
    refine S.ix1 (x := .int .u8 (bs[i] : Nat)) s_T_Luint8 (by omega) (bvs_get (List.getElem?_eq_getElem hlt')) fun ad had => ?_
    have hx := Nat.xor_lt_two_pow (n := 32) hgo (show bs[i] < 2 ^ 32 by omega)
    rw [ld_one o_T_uint8 had, conv_8_32 hbl, bin_xorN (by simp only [IntKind.bits]; omega) (by simp only [IntKind.bits]; omega) rfl]
    refine loop_up2 8 (fun m a u w2 => a = .int .u32 (crcSteps m (crcGo 4294967295 (bs.take i) ^^^ bs[i]) : Nat) ∧ u = .int .i64 (m : Int) ∧ w2 = w') ⟨rfl, rfl, rfl⟩ ?_
    rintro m J2 a u w2 k2 hm ⟨rfl, rfl, rfl⟩ hk2
    have hst := crcSteps_lt hx m
    rw [bin_lss]
    refine wIf_d (fun hm8 => ?_) (fun hm8 => ?_)
    · rw [and1_u32 hst]
      rw [shr1_u32, bin_eql]
      refine wIf_d (fun h1 => ?_) (fun h1 => ?_)
      · have e3 : (3988292384 : Int) = ((3988292384 : Nat) : Int) := rfl
        rw [e3, bin_xorN (by simp only [IntKind.bits]; omega) (by simp only [IntKind.bits]; omega) rfl, bin_add (by omega)]
        refine hk2 _ _ _ (by omega) ⟨?_, rfl, rfl⟩
        simp only [crcSteps, crcStep]
        rw [if_pos (by omega)]
      · rw [bin_add (by omega)]
        refine hk2 _ _ _ (by omega) ⟨?_, rfl, rfl⟩
        simp only [crcSteps, crcStep]
        rw [if_neg (by omega)]
    · obtain rfl : m = 8 := by omega
      intro _
      rw [bin_add (by omega)]
      refine hk' _ _ _ (by omega) ⟨?_, rfl, rfl⟩
      rw [take_get hlt', crcGo_snoc]
  · obtain rfl : i = bs.length := by omega
    intro _
    rw [List.take_of_length_le (Nat.le_refl _)] at hgo ⊢
    rw [un_xor32 hgo]
    exact hk
end
end Go.Dn
