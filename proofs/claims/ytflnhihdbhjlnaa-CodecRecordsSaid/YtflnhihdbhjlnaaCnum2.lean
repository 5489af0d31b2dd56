import Derived.Test.YtflnhihdbhjlnaaCnum
/-! Contracts of package num: Get, Writer, Reader. -/
set_option linter.unusedVariables false
set_option linter.unusedSimpArgs false
namespace Go.Dn
open Go
section
variable {w : World} {K : Value → World → Prop}
theorem or_shift {n b i : Nat} (hn : n < 256 ^ i) : n ||| b * 256 ^ i = n + b * 256 ^ i := by
  have h := Nat.two_pow_add_eq_or_of_lt (i := 8 * i) (b := n) (by rw [pow_256]; exact hn) b
  rw [pow_256] at h
  rw [Nat.or_comm, Nat.mul_comm b, ← h, Nat.add_comm]
theorem numOf_take_snoc {bs : List Nat} {p i b : Nat} (h : bs[p + i]? = some b) : numOf ((bs.drop p).take (i + 1)) = numOf ((bs.drop p).take i) + 256 ^ i * b := by
  have hlt := (List.getElem?_eq_some_iff.1 h).1
  have hb := (List.getElem?_eq_some_iff.1 h).2
  have e : min i (bs.drop p).length = i := by rw [List.length_drop]; omega
  rw [List.take_succ_eq_append_getElem (by rw [List.length_drop]; omega), numOf_snoc, List.length_take, e]
  simp [hb]
def getOk (n : Nat) (a wd : Int) : Prop := 1 ≤ wd ∧ wd ≤ 8 ∧ 0 ≤ a ∧ a + wd ≤ n
theorem pow256_le {i : Nat} (h : i ≤ 8) : 256 ^ i ≤ 18446744073709551616 := Nat.le_trans (Nat.pow_le_pow_right (by decide) h) (by decide)
theorem num_Get {A : Option Addr} {n c : Nat} {bs : List Nat} {a wd : Int} {k : Value → World → Prop} (H : SlG w 1 (.slice A n c) (bvs bs)) (hbs : ∀ b ∈ bs, b < 256) (hnl : bs.length = n) (hn : n ≤ 9223372036854775807) (ha : a ≤ 9223372036854775807)
    (hbad : ¬ getOk n a wd → k (.tuple #[.int .u64 0, .int .i64 1]) w) (hk : getOk n a wd → k (.tuple #[.int .u64 (numOf ((bs.drop a.toNat).take wd.toNat) : Nat), .int .i64 0]) w) :
    wCall P n_num_Get [.slice A n c, .int .i64 a, .int .i64 wd] w k := by
  refine call_num_Get _ _ _ ?_
  unfold F_num_Get
  refine num_fits hn ha ?_
  simp only [un_not]
  by_cases hf : 1 ≤ wd ∧ wd ≤ 8 ∧ 0 ≤ a ∧ a + wd ≤ n
  · have hok : getOk n a wd := hf
    obtain ⟨m, rfl⟩ : ∃ m : Nat, wd = m := ⟨wd.toNat, by omega⟩
    obtain ⟨p, rfl⟩ : ∃ p : Nat, a = p := ⟨a.toNat, by omega⟩
    simp only [Int.toNat_natCast] at *
    rw [decide_eq_true hf, Bool.not_true, wIf_f]
    refine loop_up2 m (fun i v u w' => v = .int .u64 (numOf ((bs.drop p).take i) : Nat) ∧ u = .int .i64 (i : Int) ∧ w' = w) ⟨by simp [numOf], rfl, rfl⟩ ?_
    rintro i J v u w' k' hi ⟨rfl, rfl, rfl⟩ hk'
    simp only [bin_lss]
    refine wIf_d (fun hlt => ?_) (fun hge => ?_)
    · have hpi : p + i < bs.length := by omega
      have hb : bs[p + i]? = some bs[p + i] := List.getElem?_eq_getElem hpi
      have hbl := hbs _ (List.getElem_mem hpi)
      have hm' : ((8 : Int) * (i : Int)) = ((8 * i : Nat) : Int) := by omega
      rw [bin_add (by omega)]
      refine H.ix1 (x := .int .u8 (bs[p + i] : Nat)) s_T_Luint8 (by omega) (by rw [show ((p : Int) + (i : Int)).toNat = p + i by omega]; exact bvs_get hb) fun ad had => ?_
      have hlow : numOf ((bs.drop p).take i) < 256 ^ i := by
        have h1 := numOf_lt ((bs.drop p).take i) (fun b hb => hbs b (List.mem_of_mem_drop (List.mem_of_mem_take hb)))
        rwa [List.length_take, List.length_drop, Nat.min_eq_left (by omega)] at h1
      have h8 : bs[p + i] * 256 ^ i < 256 ^ (i + 1) := by
        rw [Nat.pow_succ, Nat.mul_comm]; exact Nat.mul_lt_mul_of_pos_left hbl (Nat.pow_pos (by decide))
      have h9 : 256 ^ (i + 1) ≤ 18446744073709551616 := pow256_le (by omega)
      have h10 : 256 ^ i ≤ 18446744073709551616 := pow256_le (by omega)
      rw [ld_one o_T_uint8 had, conv_8_64 hbl, bin_mul (by omega), hm', bin_shl (by omega)]
      have e1 : (IntKind.u64.wrap (((bs[p + i] : Nat) : Int) * 2 ^ (min ((8 * i : Nat) : Int).toNat IntKind.u64.bits))) = ((bs[p + i] * 256 ^ i : Nat) : Int) := by
        have : min ((8 * i : Nat) : Int).toNat IntKind.u64.bits = 8 * i := by simp [IntKind.bits]; omega
        rw [this]
        have e2 : ((bs[p + i] : Nat) : Int) * 2 ^ (8 * i) = ((bs[p + i] * 256 ^ i : Nat) : Int) := by
          rw [← pow_256]; norm_cast
        rw [e2]
        exact wrapN rfl (by simp only [IntKind.bits]; omega)
      rw [e1, bin_orN (by simp only [IntKind.bits]; omega) (by simp only [IntKind.bits]; omega) rfl, or_shift hlow, bin_add (by omega)]
      refine hk' _ _ _ (by omega) ⟨?_, rfl, rfl⟩
      rw [numOf_take_snoc hb, Nat.mul_comm (256 ^ i)]
    · obtain rfl : i = m := by omega
      exact hk hok
  · rw [decide_eq_false hf, Bool.not_false, wIf_t]
    exact hbad hf

/-! Writer: a block of 128 bytes, a place, an error. -/
def wcells (s : List Nat) (at_ : Nat) (e : Int) : List Value := bvs s ++ [.int .i64 (at_ : Int), .int .i64 e]
theorem wcells_at {s : List Nat} (hs : s.length = 128) (a : Nat) (e : Int) : (wcells s a e)[128]? = some (.int .i64 (a : Int)) := by
  rw [wcells, List.getElem?_append_right (by simp [bvs_length, hs])]; simp [bvs_length, hs]
theorem wcells_e {s : List Nat} (hs : s.length = 128) (a : Nat) (e : Int) : (wcells s a e)[129]? = some (.int .i64 e) := by
  rw [wcells, List.getElem?_append_right (by simp [bvs_length, hs])]; simp [bvs_length, hs]
theorem wcells_len {s : List Nat} (hs : s.length = 128) (a : Nat) (e : Int) : (wcells s a e).length = 130 := by simp [wcells, bvs_length, hs]
theorem wcells_setE {s : List Nat} (hs : s.length = 128) (a : Nat) (e e' : Int) : (wcells s a e).set 129 (.int .i64 e') = wcells s a e' := by
  rw [wcells, List.set_append_right _ _ (by simp [bvs_length, hs])]; simp [bvs_length, hs, wcells]
theorem wcells_setA {s : List Nat} (hs : s.length = 128) (a a' : Nat) (e : Int) : (wcells s a e).set 128 (.int .i64 (a' : Int)) = wcells s a' e := by
  rw [wcells, List.set_append_right _ _ (by simp [bvs_length, hs])]; simp [bvs_length, hs, wcells]
def splN (s : List Nat) (o : Nat) (l : List Nat) : List Nat := s.take o ++ l ++ s.drop (o + l.length)
theorem splN_length {s l : List Nat} {o : Nat} (h : o + l.length ≤ s.length) : (splN s o l).length = s.length := by simp [splN]; omega
theorem wcells_splice {s l : List Nat} (hs : s.length = 128) {o : Nat} (h : o + l.length ≤ 128) (a : Nat) (e : Int) : splice (wcells s a e) o (bvs l) = wcells (splN s o l) a e := by
  unfold splice wcells splN
  rw [bvs_length, List.take_append_of_le_length (by rw [bvs_length]; omega), List.drop_append_of_le_length (by rw [bvs_length]; omega)]
  simp [bvs, List.map_take, List.map_drop]
theorem num_Writer_Num {g at_ x wd : Nat} {s : List Nat} {k : Value → World → Prop} (H : Blk w g T_num_Writer (wcells s at_ 0)) (hs : s.length = 128) (hx : x < 18446744073709551616)
    (hw : 1 ≤ wd ∧ wd ≤ 8) (ha : at_ + wd ≤ 128) (hxw : x < 256 ^ wd) (hk : ∀ w', Ex [g] w w' → Blk w' g T_num_Writer (wcells (splN s at_ (low x wd)) (at_ + wd) 0) → k (.tuple #[]) w') :
    wCall P n_num_Writer_Num [.pointer (some ⟨g, 0, none⟩), .int .i64 (wd : Int), .int .u64 x] w k := by
  refine call_num_Writer_Num _ _ _ ?_
  unfold F_num_Writer_Num wJ0
  simp only [nil_ptr, fA_T_num_Writer_2, fA_T_num_Writer_0, fA_T_num_Writer_1, Nat.zero_add]
  rw [ld_one o_T_api_Errno ((H.cell 129).trans (wcells_e hs _ _)), bin_eql, wIf_dt rfl]
  refine draw_i fun w1 hE1 hh1 => ?_
  have H1 := H.heap hh1
  rw [sliceA_all a_T_api_Sector, ld_one o_T_int ((H1.cell 128).trans (wcells_at hs _ _))]
  refine num_Put H1 (by rw [wcells_len hs]; omega) (by omega) (by omega) hx (fun hn => absurd ⟨by omega, by omega, by omega, by omega, by simpa using hxw⟩ hn) fun _ w2 hE2 H2 => ?_
  rw [show 0 + (at_ : Int).toNat = at_ by omega, show ((wd : Nat) : Int).toNat = wd by omega, wcells_splice hs (by rw [low_length]; omega)] at H2
  have hs2 : (splN s at_ (low x wd)).length = 128 := by rw [splN_length (by rw [low_length]; omega), hs]
  refine st_one o_T_api_Errno rfl H2 (by rw [wcells_len hs2]; omega) fun w3 hE3 H3 => ?_
  rw [wcells_setE hs2] at H3
  intro _
  rw [ld_one o_T_api_Errno ((H3.cell 129).trans (wcells_e hs2 _ _)), bin_eql, wIf_dt rfl, ld_one o_T_int ((H3.cell 128).trans (wcells_at hs2 _ _)), bin_add (by omega)]
  refine st_one o_T_int rfl H3 (by rw [wcells_len hs2]; omega) fun w4 hE4 H4 => ?_
  rw [show ((at_ : Int) + (wd : Int)) = ((at_ + wd : Nat) : Int) by omega, wcells_setA hs2] at H4
  exact hk w4 (((hE1.nil.trans hE2).trans hE3).trans hE4) H4
end
end Go.Dn
