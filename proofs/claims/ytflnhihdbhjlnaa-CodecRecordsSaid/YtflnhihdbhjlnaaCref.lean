import Derived.Test.YtflnhihdbhjlnaaCnum4
import Derived.Test.YtflnhihdbhjlnaaGref01
import Derived.Test.YtflnhihdbhjlnaaPseal
/-! Contracts of the reference's plain things. -/
set_option linter.unusedVariables false
set_option linter.unusedSimpArgs false
namespace Go.Dn
open Go
section
variable {w : World} {K : Value → World → Prop}
theorem conv_64_8r {x : Nat} : wConv P T_uint64 T_uint8 (.int .u64 (x : Int)) w K = K (.int .u8 ((x % 256 : Nat) : Int)) w := conv_64_8
/-- 'append(l, x)' of bytes. -/
theorem push_u8 {base n : Nat} {v : Value} {xs : List Nat} {b : Nat} {K : Value → World → Prop} (ho : Own w base T_uint8 1 v (bvs xs)) (hn : xs.length = n) (hb : n ≤ 1000000) (hba : base ≤ w.heap.size)
    (hk : ∀ v' w', Own w' base T_uint8 1 v' (bvs (xs ++ [b])) → Ex v.ownBlock.toList w w' → (v'.ownBlock = v.ownBlock ∨ ∃ g, v'.ownBlock = some g ∧ w.heap.size ≤ g) → K v' w') :
    wBuildS P T_Luint8 1 [(0, .int .u8 (b : Int))] w fun t w => wBuiltin P .append #[T_Luint8, T_Luint8] [v, t] w K := by
  refine buildS_1 u_T_Luint8 (sizeOf_one o_T_uint8) z_T_uint8 (by omega) rfl rfl rfl fun w1 g1 hg1 hE1 B1 => ?_
  have hle := hE1.le
  refine app_T_Luint8 (n := n) (m := 1) (ho.ex0 hE1) (SlG.of_cs B1.all (by simp) (Nat.le_refl _)) (by rw [bvs_length]; omega) (by simp) (by intro u hu; simp at hu; subst hu; rfl) (by omega) (by omega) fun v' w2 hO hE hv => ?_
  refine hk v' w2 (by rw [bvs_append]; exact hO) (hE1.nil.trans hE) ?_
  rcases hv with h | h
  · exact .inl h
  · exact .inr ⟨_, h, by omega⟩
theorem ref01_Low {x wd : Nat} {k : Value → World → Prop} (hx : x < 18446744073709551616) (hw : wd ≤ 1000)
    (hk : ∀ v w', Ex [] w w' → Own w' w.heap.size T_uint8 1 v (bvs (low x wd)) → k v w') : wCall P n_ref01_Low [.int .u64 x, .int .i64 (wd : Int)] w k := by
  refine call_ref01_Low _ _ ?_
  unfold F_ref01_Low
  refine loop_up3 wd (fun i a v u w' => a = .int .u64 (x / 256 ^ i : Nat) ∧ u = .int .i64 (i : Int) ∧ Ex [] w w' ∧ Own w' w.heap.size T_uint8 1 v (bvs (low x i))) ⟨by simp, rfl, Ex.refl _ _, by simpa [low, bvs] using Own.nil w w.heap.size T_uint8 1⟩ ?_
  rintro i J a v u w' k' hi ⟨rfl, rfl, hE, hO⟩ hk'
  have hle := hE.le
  have hd : x / 256 ^ i < 18446744073709551616 := Nat.lt_of_le_of_lt (Nat.div_le_self _ _) hx
  rw [bin_lss]
  refine wIf_d (fun hlt => ?_) (fun hge => ?_)
  · have e256 : (256 : Int) = ((256 : Nat) : Int) := rfl
    rw [e256, bin_remN (by decide), conv_64_8]
    refine push_u8 hO (n := i) (low_length _ _) (by omega) hle fun v' w2 hO2 hE2 _ => ?_
    rw [bin_quoN rfl (by simp only [IntKind.bits]; omega) (by decide), bin_add (by omega)]
    refine hk' _ _ _ _ (by omega) ⟨?_, rfl, hE.step hE2 fun y hy => ?_, ?_⟩
    · rw [Nat.div_div_eq_div_mul, Nat.pow_succ]
    · right
      cases hv : v.ownBlock with
      | none => rw [hv] at hy; simp at hy
      | some g =>
        rw [hv] at hy
        simp at hy
        have := (hO.blk hv).1
        omega
    · rw [low_snoc]
      have : x / 256 ^ i % 256 % 256 = x / 256 ^ i % 256 := by omega
      rw [this] at hO2
      exact hO2
  · obtain rfl : i = wd := by omega
    exact hk v w' hE hO
theorem ref01_Num {v : Value} {bs : List Nat} {k : Value → World → Prop} (S : SlG w 1 v (bvs bs)) (hb : ∀ b ∈ bs, b < 256) (hl : bs.length ≤ 8) (hk : k (.int .u64 (numOf bs : Nat)) w) : wCall P n_ref01_Num [v] w k := by
  refine call_ref01_Num _ ?_
  unfold F_ref01_Num
  rw [S.len_i u_T_Luint8 (by omega) (n := bs.length) (by rw [bvs_length]; omega), bin_sub (by omega)]
  refine loop_up2 bs.length (fun i a u w' => a = .int .u64 (numOf (bs.drop (bs.length - i)) : Nat) ∧ u = .int .i64 ((bs.length : Int) - 1 - (i : Int)) ∧ w' = w) ⟨by simp [numOf], by simp, rfl⟩ ?_
  rintro i J a u w' k' hi ⟨rfl, rfl, rfl⟩ hk'
  rw [bin_geq]
  refine wIf_d (fun hge => ?_) (fun hlt => ?_)
  · have hlt : bs.length - 1 - i < bs.length := by omega
    have e1 : bs.drop (bs.length - (i + 1)) = bs[bs.length - 1 - i] :: bs.drop (bs.length - i) := by
      rw [show bs.length - (i + 1) = bs.length - 1 - i by omega, List.drop_eq_getElem_cons hlt]
      congr 2
      omega
    have hbl := hb _ (List.getElem_mem hlt)
    have hnum : numOf (bs.drop (bs.length - (i + 1))) < 18446744073709551616 := by
      have := numOf_lt (bs.drop (bs.length - (i + 1))) (fun b hm => hb b (List.mem_of_mem_drop hm))
      exact Nat.lt_of_lt_of_le this (pow256_le (by rw [List.length_drop]; omega))
    rw [e1] at hnum
    simp only [numOf] at hnum
    rw [bin_mulw, show IntKind.u64.wrap ((256 : Int) * ((numOf (bs.drop (bs.length - i)) : Nat) : Int)) = ((256 * numOf (bs.drop (bs.length - i)) : Nat) : Int) from by
      rw [show ((256 : Int) * ((numOf (bs.drop (bs.length - i)) : Nat) : Int)) = ((256 * numOf (bs.drop (bs.length - i)) : Nat) : Int) by omega]
      exact wrapN rfl (by simp only [IntKind.bits]; omega)]
    refine S.ix1 (x := .int .u8 (bs[bs.length - 1 - i] : Nat)) s_T_Luint8 (by omega) (by rw [show ((bs.length : Int) - 1 - (i : Int)).toNat = bs.length - 1 - i by omega]; exact bvs_get (List.getElem?_eq_getElem hlt)) fun ad had => ?_
    rw [ld_one o_T_uint8 had, conv_8_64 hbl, bin_addw, show IntKind.u64.wrap (((256 * numOf (bs.drop (bs.length - i)) : Nat) : Int) + ((bs[bs.length - 1 - i] : Nat) : Int)) = ((bs[bs.length - 1 - i] + 256 * numOf (bs.drop (bs.length - i)) : Nat) : Int) from by
      rw [show (((256 * numOf (bs.drop (bs.length - i)) : Nat) : Int) + ((bs[bs.length - 1 - i] : Nat) : Int)) = ((bs[bs.length - 1 - i] + 256 * numOf (bs.drop (bs.length - i)) : Nat) : Int) by omega]
      exact wrapN rfl (by simp only [IntKind.bits]; omega), bin_sub (by omega)]
    refine hk' _ _ _ (by omega) ⟨?_, by congr 1; omega, rfl⟩
    rw [e1]
    rfl
  · obtain rfl : i = bs.length := by omega
    rw [Nat.sub_self, List.drop_zero]
    exact hk
theorem ref01_Has {x : Nat} {wd : Int} {k : Value → World → Prop} (hx : x < 18446744073709551616) (hk : k (.bool (decide (1 ≤ wd ∧ wd ≤ 8 ∧ x < 256 ^ wd.toNat))) w) : wCall P n_ref01_Has [.int .i64 wd, .int .u64 x] w k := by
  refine call_ref01_Has _ _ ?_
  unfold F_ref01_Has
  simp only [bin_lss, bin_gtr, or_p]
  refine wIf_i _ (fun hb => ?_) (fun hb => ?_)
  · simp only [Bool.or_eq_true, decide_eq_true_eq] at hb
    have hn : ¬ (1 ≤ wd ∧ wd ≤ 8 ∧ x < 256 ^ wd.toNat) := fun h => by omega
    rw [decide_eq_false hn] at hk
    exact hk
  · simp only [Bool.or_eq_false_iff, decide_eq_false_iff_not] at hb
    obtain ⟨m, rfl⟩ : ∃ m : Nat, wd = m := ⟨wd.toNat, by omega⟩
    unfold wJ1
    refine loop_up2 m (fun i a u w' => a = .int .u64 (x / 256 ^ i : Nat) ∧ u = .int .i64 (i : Int) ∧ w' = w) ⟨by simp, rfl, rfl⟩ ?_
    rintro i J a u w' k' hi ⟨rfl, rfl, rfl⟩ hk'
    have hd : x / 256 ^ i < 18446744073709551616 := Nat.lt_of_le_of_lt (Nat.div_le_self _ _) hx
    rw [bin_lss]
    refine wIf_d (fun hlt => ?_) (fun hge => ?_)
    · have e256 : (256 : Int) = ((256 : Nat) : Int) := rfl
      rw [e256, bin_quoN rfl (by simp only [IntKind.bits]; omega) (by decide), bin_add (by omega)]
      exact hk' _ _ _ (by omega) ⟨by rw [Nat.div_div_eq_div_mul, Nat.pow_succ], rfl, rfl⟩
    · obtain rfl : i = m := by omega
      intro _
      rw [bin_eql]
      have : decide (((x / 256 ^ i : Nat) : Int) = 0) = decide (1 ≤ (i : Int) ∧ (i : Int) ≤ 8 ∧ x < 256 ^ ((i : Nat) : Int).toNat) := by
        congr 1
        simp only [eq_iff_iff, Int.toNat_natCast]
        have hp : 0 < 256 ^ i := Nat.pow_pos (by decide)
        constructor
        · intro h0
          refine ⟨by omega, by omega, ?_⟩
          rcases Nat.lt_or_ge x (256 ^ i) with h | h
          · exact h
          · have := Nat.div_pos h hp; omega
        · intro ⟨_, _, h⟩
          rw [Nat.div_eq_of_lt h]; rfl
      rw [this]
      exact hk
theorem ref01_Full {v : Value} {bs : List Nat} {k : Value → World → Prop} (S : SlG w 1 v (bvs bs)) (hl : bs.length ≤ 4611686018427387904)
    (hk : ∀ w', Ex [] w w' → k (sv (bs.take 128 ++ List.replicate (128 - bs.length) 0)) w') : wCall P n_ref01_Full [v] w k := by
  refine call_ref01_Full _ ?_
  unfold F_ref01_Full
  refine alloc_i z_T_A128uint8 (vs := List.replicate 128 (.int .u8 0)) rfl fun w1 g1 hg1 hE1 B1 => ?_
  refine alloc_i z_T_A128uint8 (vs := List.replicate 128 (.int .u8 0)) rfl fun w2 g2 hg2 hE2 B2 => ?_
  have hle1 := hE1.le
  have hle2 := hE2.le
  have hlt1 := B1.lt
  have B1' := B1.ex hE2 (by simp)
  have E2 := hE1.trans hE2
  have hz : ∀ n, bvs (List.replicate n 0) = List.replicate n (Value.int .u8 0) := by intro n; simp [bvs]
  unfold wJ0
  refine loop_up (min bs.length 128) (fun i u w' => u = .int .i64 (i : Int) ∧ Ex [g2] w2 w' ∧ Blk w' g2 T_A128uint8 (bvs (bs.take i ++ List.replicate (128 - i) 0))) ⟨rfl, Ex.refl _ _, by rw [List.take_zero, List.nil_append, Nat.sub_zero, hz]; exact B2⟩ ?_
  rintro i J u w' k' hi ⟨rfl, hE, hB⟩ hk'
  have S3 : SlG w' 1 v (bvs bs) := S.ex0 (E2.new hE (by omega))
  simp only [S3.len_i (P := P) u_T_Luint8 (by omega) (n := bs.length) (by rw [bvs_length]; omega), bin_lss, and_p]
  refine wIf_i _ (fun hb => ?_) (fun hb => ?_)
  · simp only [Bool.and_eq_true, decide_eq_true_eq] at hb
    have hlt : i < bs.length := by omega
    refine S3.ix1 (x := .int .u8 (bs[i] : Nat)) s_T_Luint8 (by omega) (bvs_get (List.getElem?_eq_getElem hlt)) fun ad had => ?_
    rw [ld_one o_T_uint8 had, indexA_i a_T_A128uint8 (by omega) (by omega)]
    refine st_one o_T_uint8 rfl hB (by simp [bvs_length]; omega) fun w3 hE3 B3 => ?_
    rw [bin_add (by omega)]
    refine hk' _ _ (by omega) ⟨rfl, hE.trans hE3, ?_⟩
    have e : (bvs (bs.take i ++ List.replicate (128 - i) 0)).set (0 + ((i : Nat) : Int).toNat * 1) (.int .u8 ((bs[i] : Nat) : Int)) = bvs (bs.take (i + 1) ++ List.replicate (128 - (i + 1)) 0) := by
      rw [show 0 + ((i : Nat) : Int).toNat * 1 = i by omega]
      have : bvs ((bs.take i ++ List.replicate (128 - i) 0).set i bs[i]) = (bvs (bs.take i ++ List.replicate (128 - i) 0)).set i (.int .u8 ((bs[i] : Nat) : Int)) := by simp [bvs, List.map_set]
      rw [← this]
      congr 1
      rw [List.set_append_right _ _ (by simp; omega), List.take_succ_eq_append_getElem hlt]
      have : 128 - i = (128 - (i + 1)) + 1 := by omega
      rw [this, List.replicate_succ]
      have h0 : i - (bs.take i).length = 0 := by simp; omega
      rw [h0, List.set_cons_zero, List.append_assoc, List.singleton_append]
    rw [e] at B3
    exact B3
  · have hi' : i = min bs.length 128 := by
      simp only [Bool.and_eq_false_iff, decide_eq_false_iff_not] at hb
      omega
    intro _
    have e : bs.take i ++ List.replicate (128 - i) 0 = bs.take 128 ++ List.replicate (128 - bs.length) 0 := by
      subst hi'
      rcases Nat.le_total bs.length 128 with h | h
      · rw [Nat.min_eq_left h, List.take_of_length_le (Nat.le_refl _), List.take_of_length_le h]
      · rw [Nat.min_eq_right h]; simp [show 128 - bs.length = 0 by omega]
    rw [e] at hB
    have hlen : (bvs (bs.take 128 ++ List.replicate (128 - bs.length) 0)).length = 128 := by rw [bvs_length]; simp; omega
    rw [ld_agg g_T_A128uint8 hB.all hlen]
    have hne : g1 ≠ g2 := by omega
    have B1'' := B1'.ex hE (by simp; exact hne)
    refine st_agg g_T_A128uint8 hlen (bvs_isC _) B1'' (by simp) fun w4 hE4 B4 => ?_
    have e2 : splice (List.replicate 128 (Value.int .u8 0)) 0 (bvs (bs.take 128 ++ List.replicate (128 - bs.length) 0)) = bvs (bs.take 128 ++ List.replicate (128 - bs.length) 0) := by
      rw [splice_front hlen (by rw [List.length_replicate]; exact Nat.le_refl _), List.drop_of_length_le (by rw [List.length_replicate]; exact Nat.le_refl _), List.append_nil]
    rw [e2] at B4
    refine res_agg g_T_A128uint8 B4.all hlen ?_
    exact hk w4 ((E2.new hE (by omega)).new hE4 (by omega))
end
end Go.Dn
