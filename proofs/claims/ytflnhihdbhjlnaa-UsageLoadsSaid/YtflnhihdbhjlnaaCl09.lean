import Derived.Test.YtflnhihdbhjlnaaCuse2
import Derived.Test.YtflnhihdbhjlnaaPfl
/-! Law 09: awake, UsageParts. -/
set_option maxRecDepth 10000
set_option linter.unusedVariables false
set_option linter.unusedSimpArgs false
namespace Go.Dn
open Go
theorem or_w {b r : Bool} {body : (Value → World → Prop) → Prop} {w : World} {k : Value → World → Prop} (h : b = false → ∀ k', (∀ w', Ex [] w w' → k' (.bool r) w') → body k')
    (hk : ∀ w', Ex [] w w' → k (.bool (b || r)) w') : wGrp (.bool b) false body w fun _ v w => wPick (.bool b) (.bool true) v w k := by
  unfold wGrp
  cases b
  · simp only [if_true]
    exact h rfl _ fun w' hE J => hk w' hE
  · simp only [Bool.true_eq_false, if_false]
    exact fun J => hk w (Ex.refl _ _)
theorem and_w {b r : Bool} {body : (Value → World → Prop) → Prop} {w : World} {k : Value → World → Prop} (h : b = true → ∀ k', (∀ w', Ex [] w w' → k' (.bool r) w') → body k')
    (hk : ∀ w', Ex [] w w' → k (.bool (b && r)) w') : wGrp (.bool b) true body w fun _ v w => wPick (.bool b) v (.bool false) w k := by
  unfold wGrp
  cases b
  · simp only [Bool.false_eq_true, if_false]
    exact fun J => hk w (Ex.refl _ _)
  · simp only [if_true]
    exact h rfl _ fun w' hE J => hk w' hE
section
variable {w : World} {K : Value → World → Prop}
theorem ptr_ne_nil {t d : TypeId} (ht : P.underlying t = some (.pointer d)) (a : Addr) : wBin P .eql t (.pointer (some a)) (.pointer none) w K = K (.bool false) w := by
  refine bin_eq_of (by simp) (by simp) (by simp) (by simp) (fun _ _ => rfl) (fun w' => ?_)
  unfold Op.equal Op.maxDepth
  rw [Op.equalIn]
  simp only [Sem.run_bind, und_run ht, Result.andThen_ok]
  rfl
theorem u_T_pusage_Table : P.underlying T_pusage_Table = some (.pointer T_usage_Table) := by kernel_rfl
theorem law09_awake {k : Value → World → Prop} (hk : ∀ w', Ex [] w w' → k (.bool true) w') : wCall P n_law09_awake [] w k := by
  refine call_law09_awake ?_
  unfold F_law09_awake
  refine usage_New fun w1 h d hh hd hE1 T1 => ?_
  rw [ptr_ne_nil u_T_pusage_Table]
  have T1 : Tab w1 h d 16 [⟨0, 0, 0⟩, ⟨0, 0, 0⟩, ⟨0, 0, 0⟩] := T1
  refine or_w (r := false) (fun _ k' hk' => ?_) fun w2 hE2 => ?_
  · refine usage_Clean T1 (by decide) fun w2 hE2 => ?_
    rw [bin_neq]
    exact hk' w2 hE2
  rw [Bool.false_or, wIf_f]
  have T2 := T1.ex0 hE2
  refine usage_Set T2 (fun hn => absurd (by decide) hn) fun w3 u _ hu _ _ hE3 T3 => ?_
  have hu : some (⟨0, 0, 0⟩ : U) = some u := hu
  injection hu with hu
  subst hu
  have T3 : Tab w3 h d 16 [⟨0, 0, 0⟩, ⟨0, 1, 0⟩, ⟨0, 0, 0⟩] := T3
  refine usage_Count T3 (by decide) (by decide) (fun hn => absurd (by decide) (hn ⟨0, 1, 0⟩ (by decide) rfl)) fun w4 u _ hu _ _ hE4 T4 => ?_
  have hu : some (⟨0, 1, 0⟩ : U) = some u := hu
  injection hu with hu
  subst hu
  have T4 : Tab w4 h d 16 [⟨0, 0, 0⟩, ⟨4, 1, 0⟩, ⟨0, 0, 0⟩] := T4
  refine usage_Order1 T4 (by decide) (by decide) fun v w5 hE5 hO => ?_
  have hO : Own w5 w4.heap.size T_int 1 v (ivs [1]) := hO
  have T5 := T4.ex0 hE5
  have l1 := hE1.le
  have l2 := hE2.le
  have hE : Ex [] w w5 := (((hE1.trans hE2).step hE3 (by simp; omega)).step hE4 (by simp; omega)).trans hE5
  rw [bin_eql]
  refine and_i (r := true) (fun _ k' hk' => by rw [bin_eql]; exact hk') ?_
  refine and_i (r := true) (fun _ k' hk' => ?_) ?_
  · rw [hO.slg.len_i u_T_Lint (by omega) (n := 1) rfl, bin_eql]
    exact hk'
  refine and_i (r := true) (fun _ k' hk' => ?_) ?_
  · refine hO.slg.ix1 (x := .int .i64 1) s_T_Lint (by omega) rfl fun a ha => ?_
    rw [ld_one o_T_int ha, bin_eql]
    exact hk'
  refine and_w (r := true) (fun _ k' hk' => ?_) fun w6 hE6 => ?_
  · refine usage_Live T5 (by decide) (by decide) fun w6 hE6 => ?_
    rw [bin_eql]
    exact hk' w6 hE6
  exact hk w6 (hE.trans hE6)
theorem law09_UsageParts {live room : Int} {k : Value → World → Prop} (hk : ∀ w', Ex [] w w' → k (.bool true) w') : wCall P n_law09_UsageParts [.int .i64 live, .int .i64 room] w k := by
  refine call_law09_UsageParts _ _ ?_
  unfold F_law09_UsageParts
  refine law09_awake fun w1 hE1 => ?_
  rw [un_not]
  rw [show (!true) = false from rfl, wIf_f, min_i, max_i, min_i, max_i]
  generalize ha : max (-1125899906842624) (min live 1125899906842624) = a
  generalize hb : max (-1125899906842624) (min room 1125899906842624) = b
  have ha' : -1125899906842624 ≤ a ∧ a ≤ 1125899906842624 := by omega
  have hb' : -1125899906842624 ≤ b ∧ b ≤ 1125899906842624 := by omega
  have hf : P.underlying T_float64 = some (.float .f64) := by kernel_rfl
  refine call_usage_Part _ _ ?_
  unfold F_usage_Part
  rw [conv_f i_T_int hf, conv_f i_T_int hf]
  by_cases hb0 : b = 0
  · subst hb0
    by_cases ha0 : a = 0
    · subst ha0
      refine quo_none div_z0 fun w2 x hE2 _ => ?_
      dsimp only
      rw [bin_neq, wIf_df (by simp), bin_eql, wIf_dt rfl, bin_fneq, nan_ne (nanB x) ⟨x, rfl⟩]
      exact hk w2 (hE1.trans hE2)
    · refine quo_some (div_z ha' ha0) ?_
      dsimp only
      rw [bin_neq, wIf_df (by simp), bin_eql, wIf_df ha0, bin_gtr]
      refine wIf_d (fun hp => ?_) (fun hp => ?_)
      · rw [bin_fgtr, decide_eq_false (by omega), inf_gt]
        exact hk w1 hE1
      · rw [bin_flss, decide_eq_true (by omega), inf_lt]
        exact hk w1 hE1
  · obtain ⟨r, h1, h2⟩ := div_ne ha' hb' hb0
    refine quo_some h1 ?_
    dsimp only
    rw [bin_neq, wIf_dt hb0, conv_f i_T_int hf, conv_f i_T_int hf]
    refine quo_some h1 ?_
    rw [bin_feql, h2]
    exact hk w1 hE1
end
end Go.Dn
