import Derived.Test.YtflnhihdbhjlnaaGnum
import Derived.Test.YtflnhihdbhjlnaaGt
import Derived.Test.YtflnhihdbhjlnaaPnum
/-! Contracts of package num. -/
set_option linter.unusedVariables false
set_option linter.unusedSimpArgs false
namespace Go.Dn
open Go
def bvs (l : List Nat) : List Value := l.map fun n : Nat => .int .u8 (n : Int)
theorem bvs_length (l : List Nat) : (bvs l).length = l.length := by simp [bvs]
theorem bvs_isC (l : List Nat) : ∀ v ∈ bvs l, isC v = true := by
  intro v hv
  obtain ⟨n, _, rfl⟩ := List.mem_map.1 hv
  rfl
theorem bvs_get {l : List Nat} {i : Nat} {b : Nat} (h : l[i]? = some b) : (bvs l)[i]? = some (.int .u8 b) := by simp [bvs, h]
theorem bvs_append (l m : List Nat) : bvs (l ++ m) = bvs l ++ bvs m := by simp [bvs]
theorem bvs_inj {l m : List Nat} (h : bvs l = bvs m) : l = m := by
  have : ∀ a b : Nat, Value.int .u8 (a : Int) = Value.int .u8 (b : Int) → a = b := by
    intro a b h
    injection h with _ h
    exact Int.ofNat.inj h
  induction l generalizing m with
  | nil => cases m <;> simp [bvs] at h; rfl
  | cons x l ih =>
    cases m with
    | nil => simp [bvs] at h
    | cons y m =>
      simp only [bvs, List.map_cons, List.cons.injEq] at h
      rw [this _ _ h.1, ih h.2]
theorem pow_256 (n : Nat) : 2 ^ (8 * n) = 256 ^ n := by rw [Nat.pow_mul]
theorem splice_snoc {cs vs : List Value} {o i : Nat} {v : Value} (hl : vs.length = i) (hlt : o + i < cs.length) : (splice cs o vs).set (o + i) v = splice cs o (vs ++ [v]) := by
  subst hl
  unfold splice
  rw [List.set_append_right _ _ (by simp; omega)]
  have h1 : o + vs.length - (cs.take o ++ vs).length = 0 := by simp; omega
  rw [h1, List.drop_eq_getElem_cons hlt]
  simp [Nat.add_assoc]
section nums
variable {w : World} {K : Value → World → Prop}
theorem num_fits {A : Option Addr} {n c : Nat} {a wd : Int} {w : World} {k : Value → World → Prop} (hn : n ≤ 9223372036854775807) (ha : a ≤ 9223372036854775807)
    (h : k (.bool (decide (1 ≤ wd ∧ wd ≤ 8 ∧ 0 ≤ a ∧ a + wd ≤ n))) w) : wCall P n_num_fits [.slice A n c, .int .i64 a, .int .i64 wd] w k := by
  refine call_num_fits _ _ _ ?_
  unfold F_num_fits
  simp only [bin_geq, bin_leq, and_p, len_s u_T_Luint8]
  refine and_i (r := decide (a + wd ≤ n)) (fun hb k' hk => ?_) ?_
  · simp only [Bool.and_eq_true, decide_eq_true_eq] at hb
    rw [bin_sub (by omega)]
    simp only [bin_geq]
    rw [show decide (wd ≤ (n : Int) - a) = decide (a + wd ≤ n) from by congr 1; simp only [eq_iff_iff]; omega]
    exact hk
  · have e : (decide (1 ≤ wd) && decide (wd ≤ 8) && decide (0 ≤ a) && decide (a ≤ (n : Int)) && decide (a + wd ≤ n)) = decide (1 ≤ wd ∧ wd ≤ 8 ∧ 0 ≤ a ∧ a + wd ≤ n) := by
      rw [Bool.eq_iff_iff]; simp; omega
    rw [e]
    exact h
theorem shr_u64 {x s : Nat} {yk : IntKind} : wBin P .shr T_uint64 (.int .u64 x) (.int yk (s : Int)) w K = K (.int .u64 ((x / 2 ^ (min s 64) : Nat) : Int)) w := by
  rw [bin_shr (by omega)]
  congr 2
  rw [Int.fdiv_eq_ediv_of_nonneg _ (by exact Int.le_of_lt (Int.pow_pos (by decide)))]
  simp [IntKind.bits]
theorem conv_64_8 {x : Nat} : wConv P T_uint64 T_uint8 (.int .u64 (x : Int)) w K = K (.int .u8 ((x % 256 : Nat) : Int)) w := by
  rw [conv_i i_T_uint64 i_T_uint8, IntKind.wrap_u8]
  congr 2
theorem conv_8_64 {x : Nat} (h : x < 256) : wConv P T_uint8 T_uint64 (.int .u8 (x : Int)) w K = K (.int .u64 (x : Int)) w := by
  rw [conv_i i_T_uint8 i_T_uint64, IntWalk.u64_in _ (by omega)]
def putOk (n : Nat) (a wd : Int) (x : Nat) : Prop := 1 ≤ wd ∧ wd ≤ 8 ∧ 0 ≤ a ∧ a + wd ≤ n ∧ x < 256 ^ wd.toNat
theorem num_Put {g o n c x : Nat} {t : TypeId} {cs : List Value} {a wd : Int} {w : World} {k : Value → World → Prop} (H : Blk w g t cs) (hl : o + n ≤ cs.length) (hn : n ≤ 9223372036854775807) (ha : a ≤ 9223372036854775807) (hx : x < 18446744073709551616)
    (hbad : ¬ putOk n a wd x → k (.int .i64 1) w) (hk : putOk n a wd x → ∀ w', Ex [g] w w' → Blk w' g t (splice cs (o + a.toNat) (bvs (low x wd.toNat))) → k (.int .i64 0) w') :
    wCall P n_num_Put [.slice (some ⟨g, o, none⟩) n c, .int .i64 a, .int .i64 wd, .int .u64 x] w k := by
  refine call_num_Put _ _ _ _ ?_
  unfold F_num_Put
  refine num_fits hn ha ?_
  simp only [un_not, bin_lss]
  by_cases hf : 1 ≤ wd ∧ wd ≤ 8 ∧ 0 ≤ a ∧ a + wd ≤ n
  · obtain ⟨m, rfl⟩ : ∃ m : Nat, wd = m := ⟨wd.toNat, by omega⟩
    obtain ⟨p, rfl⟩ : ∃ p : Nat, a = p := ⟨a.toNat, by omega⟩
    simp only [Int.toNat_natCast] at *
    rw [decide_eq_true hf]
    have hm : ((8 : Int) * (m : Int)) = ((8 * m : Nat) : Int) := by omega
    have h8 : min (8 * m) 64 = 8 * m := by omega
    simp only [Bool.not_true, bin_mul (P := P) (t := T_int) (w := w) (show -9223372036854775808 ≤ (8 : Int) * m ∧ (8 : Int) * m ≤ 9223372036854775807 by omega), hm, shr_u64, bin_neq, and_p, or_p, h8, pow_256, Bool.false_or]
    refine wIf_i _ (fun hb => hbad fun hok => ?_) (fun hb => ?_)
    · simp only [Bool.and_eq_true, decide_eq_true_eq] at hb
      have h0 : x / 256 ^ m = 0 := Nat.div_eq_of_lt hok.2.2.2.2
      rw [h0] at hb
      exact hb.2 rfl
    · have hlt : x < 256 ^ m := by
        rcases Nat.lt_or_ge m 8 with h | h
        · have : ¬ ((x / 256 ^ m : Nat) : Int) ≠ 0 := by
            intro hne
            have : (decide ((m : Int) < 8) && decide (((x / 256 ^ m : Nat) : Int) ≠ 0)) = true := by
              rw [decide_eq_true (by omega : (m : Int) < 8), decide_eq_true hne]; rfl
            rw [this] at hb; cases hb
          rcases Nat.lt_or_ge x (256 ^ m) with h' | h'
          · exact h'
          · have := Nat.div_pos h' (Nat.pow_pos (by decide))
            omega
        · obtain rfl : m = 8 := by omega
          exact hx
      have hok : putOk n (p : Int) (m : Int) x := ⟨hf.1, hf.2.1, hf.2.2.1, hf.2.2.2, by simpa using hlt⟩
      refine loop_up m (fun i v w' => v = .int .i64 (i : Int) ∧ Ex [g] w w' ∧ Blk w' g t (splice cs (o + p) (bvs (low x i)))) ⟨rfl, Ex.refl _ _, by simpa [low, bvs, splice] using H⟩ ?_
      rintro i J v w' k' hi ⟨rfl, hE, hB⟩ hk'
      simp only [bin_lss]
      refine wIf_d (fun hlt' => ?_) (fun hge => ?_)
      · have hm' : ((8 : Int) * (i : Int)) = ((8 * i : Nat) : Int) := by omega
        have h8' : min (8 * i) 64 = 8 * i := by omega
        rw [bin_add (by omega), bin_mul (by omega), hm', shr_u64, h8', pow_256, conv_64_8, indexS_i s_T_Luint8 (by omega) (by omega)]
        refine st_one o_T_uint8 rfl hB (by rw [splice_length (by rw [bvs_length, low_length]; omega)]; omega) fun w2 hE2 hB2 => ?_
        rw [bin_add (by omega)]
        refine hk' _ _ (by omega) ⟨rfl, hE.trans hE2, ?_⟩
        have e1 : o + ((p : Int) + (i : Int)).toNat * 1 = o + p + i := by omega
        rw [e1] at hB2
        have e2 : (splice cs (o + p) (bvs (low x i))).set (o + p + i) (.int .u8 ((x / 256 ^ i % 256 : Nat) : Int)) = splice cs (o + p) (bvs (low x (i + 1))) := by
          rw [low_snoc, bvs_append]
          exact splice_snoc (by rw [bvs_length, low_length]) (by omega)
        rw [e2] at hB2
        exact hB2
      · obtain rfl : i = m := by omega
        exact hk hok w' hE hB
  · rw [decide_eq_false hf]
    refine wGrp_or (r := true) (fun h => by cases h) fun J v _ => ?_
    simp only [Bool.not_false, wPick_b, if_true, wIf_t]
    exact hbad fun hok => hf ⟨hok.1, hok.2.1, hok.2.2.1, hok.2.2.2.1⟩
end nums
end Go.Dn
