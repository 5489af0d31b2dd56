import Derived.Test.YtflnhihdbhjlnaaCuse
import Derived.Test.YtflnhihdbhjlnaaGlaw09
/-! Contracts of package usage, on. -/
set_option maxRecDepth 10000
set_option linter.unusedVariables false
set_option linter.unusedSimpArgs false
namespace Go.Dn
open Go
def sumL : List U → Int
  | [] => 0
  | u :: us => u.live + sumL us
theorem sumL_append (a b : List U) : sumL (a ++ b) = sumL a + sumL b := by
  induction a with
  | nil => simp [sumL]
  | cons u a ih => simp only [List.cons_append, sumL, ih]; omega
theorem sumL_take {us : List U} {i : Nat} {u : U} (h : us[i]? = some u) : sumL (us.take (i + 1)) = sumL (us.take i) + u.live := by
  rw [List.take_add_one, h, sumL_append]; simp [sumL]
theorem sumL_lt {us : List U} (h : ∀ u ∈ us, 0 ≤ u.live ∧ u.live ≤ 1000000) : 0 ≤ sumL us ∧ sumL us ≤ us.length * 1000000 := by
  induction us with
  | nil => simp [sumL]
  | cons u us ih =>
    have := ih fun x hx => h x (List.mem_cons_of_mem _ hx)
    have := h u (List.mem_cons_self ..)
    simp only [sumL, List.length_cons]; omega
def idx (p : U → Bool) (us : List U) (n : Nat) : List Nat := (List.range n).filter fun i => match us[i]? with | some u => p u | none => false
theorem idx_succ (p : U → Bool) {us : List U} {i : Nat} {u : U} (h : us[i]? = some u) : idx p us (i + 1) = if p u = true then idx p us i ++ [i] else idx p us i := by
  unfold idx
  rw [List.range_succ, List.filter_append]
  by_cases hp : p u = true
  · rw [if_pos hp]; simp [h, hp]
  · rw [if_neg hp]; simp [h, hp]
theorem idx_le (p : U → Bool) (us : List U) (n : Nat) : (idx p us n).length ≤ n := by
  have := List.length_filter_le (fun i => match us[i]? with | some u => p u | none => false) (List.range n)
  rw [List.length_range] at this
  exact this
section
variable {w : World} {K : Value → World → Prop}
theorem usage_Count {h d : Nat} {room seg n : Int} {us : List U} {k : Value → World → Prop} (H : Tab w h d room us) (hr : 0 ≤ room ∧ room ≤ 1000000) (hb : ∀ u ∈ us, 0 ≤ u.live ∧ u.live ≤ 1000000)
    (h0 : (∀ u, 0 ≤ seg → us[seg.toNat]? = some u → ¬ (n ≤ room - u.live ∧ -u.live ≤ n)) → ∀ w', Ex [] w w' → Tab w' h d room us → k (.int .i64 1) w')
    (h1 : ∀ w' u, 0 ≤ seg → us[seg.toNat]? = some u → n ≤ room - u.live → -u.live ≤ n → Ex [d] w w' → Tab w' h d room (us.set seg.toNat { u with live := u.live + n }) → k (.int .i64 0) w') :
    wCall P n_usage_Table_Count [ptr h, .int .i64 seg, .int .i64 n] w k := by
  refine call_usage_Table_Count _ _ _ ?_
  unfold F_usage_Table_Count
  refine draw_i fun w0 hE0 _ => ?_
  have H0 := H.ex0 hE0
  refine usage_has H0 ?_
  simp only [un_not, nil_ptr, fA_T_usage_Table_0, fA_T_usage_Table_1]
  obtain ⟨c, hc, hcell⟩ := H0.uses
  by_cases hseg : 0 ≤ seg ∧ seg < us.length
  · have hlt : seg.toNat < us.length := by omega
    have hu := List.getElem?_eq_getElem hlt
    obtain ⟨u, hu'⟩ : ∃ u, u = us[seg.toNat] := ⟨_, rfl⟩
    rw [← hu'] at hu
    obtain ⟨e1, e2, e3⟩ := H0.elem hu
    have hub := hb u (List.mem_of_getElem? hu)
    rw [decide_eq_true hseg]
    refine or_i (r := decide (room - u.live < n)) (fun _ k' hk' => ?_) ?_
    · rw [ld_one o_T_int H0.room, ld_one o_T_Lcodec_Use hcell, indexS_i s_T_Lcodec_Use (by omega) (by omega)]
      simp only [fA_T_codec_Use_0]
      rw [ld_one o_T_int e1, bin_sub (by omega), bin_gtr]
      exact hk'
    · refine or_i (r := decide (n < - u.live)) (fun _ k' hk' => ?_) ?_
      · rw [ld_one o_T_Lcodec_Use hcell, indexS_i s_T_Lcodec_Use (by omega) (by omega)]
        simp only [fA_T_codec_Use_0]
        rw [ld_one o_T_int e1, un_neg (by omega), bin_lss]
        exact hk'
      · refine wIf_i _ (fun hh => ?_) (fun hh => ?_)
        · refine h0 (fun u' _ hu2 => ?_) w0 hE0 H0
          rw [hu] at hu2
          injection hu2 with hu2
          subst hu2
          simp only [Bool.not_true, Bool.false_or, Bool.or_eq_true, decide_eq_true_eq] at hh
          omega
        · simp only [Bool.not_true, Bool.false_or, Bool.or_eq_false_iff, decide_eq_false_iff_not] at hh
          rw [ld_one o_T_Lcodec_Use hcell, indexS_i s_T_Lcodec_Use (by omega) (by omega)]
          simp only [fA_T_codec_Use_0]
          rw [ld_one o_T_int e1, bin_add (by omega), indexS_i s_T_Lcodec_Use (by omega) (by omega)]
          simp only [fA_T_codec_Use_0]
          obtain ⟨r, hrr⟩ := H0.ub
          refine st_one o_T_int rfl hrr (by rw [List.length_append, fl_length]; omega) fun w1 hE1 B1 => ?_
          rw [Nat.zero_add] at B1
          exact h1 w1 _ (by omega) hu (by omega) (by omega) (hE0.nil.trans hE1) (H0.put (by simp) hE1 (fl_set hu (u.live + n) 0 0).1 (by rw [fl_length]; omega) B1)
  · rw [decide_eq_false hseg]
    refine or_i (r := true) (fun hh => by cases hh) ?_
    refine or_i (r := true) (fun hh => by cases hh) ?_
    refine h0 (fun u h1 h2 => absurd ⟨h1, ?_⟩ hseg) w0 hE0 H0
    have := (List.getElem?_eq_some_iff.1 h2).1
    omega
theorem usage_Live {h d : Nat} {room : Int} {us : List U} {k : Value → World → Prop} (H : Tab w h d room us) (hb : ∀ u ∈ us, 0 ≤ u.live ∧ u.live ≤ 1000000) (hn : us.length ≤ 1000)
    (hk : ∀ w', Ex [] w w' → k (.int .i64 (sumL us)) w') : wCall P n_usage_Table_Live [ptr h] w k := by
  refine call_usage_Table_Live _ ?_
  unfold F_usage_Table_Live
  simp only [nil_ptr, fA_T_usage_Table_1]
  obtain ⟨c, hc, hcell⟩ := H.uses
  rw [ld_one o_T_Lcodec_Use hcell, len_s u_T_Lcodec_Use]
  refine loop_up2 us.length (fun i a b w' => a = .int .i64 (sumL (us.take i)) ∧ b = .int .i64 (i : Int) ∧ Ex [] w w') ⟨rfl, rfl, Ex.refl _ _⟩ ?_
  rintro i J a b w1 k' hi ⟨rfl, rfl, hE⟩ hk'
  rw [bin_lss]
  refine wIf_d (fun hlt => ?_) (fun hge => ?_)
  · have hlt : i < us.length := by omega
    have hu := List.getElem?_eq_getElem hlt
    have hub := hb _ (List.getElem_mem hlt)
    have hs := sumL_lt (us := us.take i) fun u hu => hb u (List.mem_of_mem_take hu)
    rw [List.length_take] at hs
    refine ((H.ex0 hE).slg hc).ix s_T_Lcodec_Use (by omega) (fl_length us) (by omega) (by omega) fun b o hcs => ?_
    rw [Int.toNat_natCast, fl_cell hu] at hcs
    rw [ld_agg g_T_codec_Use hcs rfl]
    refine alloc_i z_T_codec_Use rfl fun w2 g2 hg2 hE2 B2 => ?_
    refine st_agg g_T_codec_Use rfl (by simp [U.cells, isC]) B2 (by simp) fun w3 hE3 B3 => ?_
    have hle := hE.le
    have hE' : Ex [] w w3 := hE.trans (hE2.new hE3 (by omega))
    simp only [fA_T_codec_Use_0]
    rw [ld_one o_T_int (v := .int .i64 us[i].live) (by rw [B3.cell]; rfl), bin_add (by omega), bin_add (by omega)]
    refine hk' _ _ _ (by omega) ⟨?_, by simp, hE'⟩
    rw [sumL_take hu]
  · obtain rfl : i = us.length := by omega
    rw [List.take_length]
    exact hk w1 hE
theorem usage_which {h d : Nat} {room : Int} {us : List U} {f : Value} {p : U → Bool} {k : Value → World → Prop} (H : Tab w h d room us) (hn : us.length ≤ 1000)
    (hf : ∀ u ∈ us, ∀ (w1 : World) (k1 : Value → World → Prop), (∀ w', Ex [] w1 w' → k1 (.bool (p u)) w') → wCallV P f [.agg ⟨u.cells⟩] w1 k1)
    (hk : ∀ v w', Ex [] w w' → Own w' w.heap.size T_int 1 v (ivs (idx p us us.length)) → k v w') : wCall P n_usage_Table_which [ptr h, f] w k := by
  refine call_usage_Table_which _ _ ?_
  unfold F_usage_Table_which
  simp only [nil_ptr, fA_T_usage_Table_1]
  obtain ⟨c, hc, hcell⟩ := H.uses
  rw [ld_one o_T_Lcodec_Use hcell, len_s u_T_Lcodec_Use]
  refine loop_up2 us.length (fun i v b w' => b = .int .i64 (i : Int) ∧ Ex [] w w' ∧ Own w' w.heap.size T_int 1 v (ivs (idx p us i))) ⟨rfl, Ex.refl _ _, Own.nil _ _ _ _⟩ ?_
  rintro i J v b w1 k' hi ⟨rfl, hE, hO⟩ hk'
  rw [bin_lss]
  refine wIf_d (fun hlt => ?_) (fun hge => ?_)
  · have hlt : i < us.length := by omega
    have hu := List.getElem?_eq_getElem hlt
    refine ((H.ex0 hE).slg hc).ix s_T_Lcodec_Use (by omega) (fl_length us) (by omega) (by omega) fun b o hcs => ?_
    rw [Int.toNat_natCast, fl_cell hu] at hcs
    rw [ld_agg g_T_codec_Use hcs rfl]
    refine alloc_i z_T_codec_Use rfl fun w2 g2 hg2 hE2 B2 => ?_
    refine st_agg g_T_codec_Use rfl (by simp [U.cells, isC]) B2 (by simp) fun w3 hE3 B3 => ?_
    have hle := hE.le
    have hE' : Ex [] w1 w3 := hE2.new hE3 (by omega)
    have B3' : Blk w3 g2 T_codec_Use us[i].cells := B3
    rw [ld_agg g_T_codec_Use B3'.all rfl]
    refine hf _ (List.getElem_mem hlt) w3 _ fun w4 hE4 => ?_
    have hO4 := (hO.ex0 hE').ex0 hE4
    have hE4' : Ex [] w w4 := (hE.trans hE').trans hE4
    have hlen := idx_le p us i
    refine wIf_i _ (fun hp => ?_) (fun hp => ?_)
    · refine push_int hO4 (n := (idx p us i).length) rfl (by omega) hE4'.le fun v' w5 hO5 hE5 _ => ?_
      rw [bin_add (by omega)]
      refine hk' _ _ _ (by omega) ⟨by simp, hE4'.step hE5 fun y hy => ?_, ?_⟩
      · right
        cases hv : v.ownBlock with
        | none => rw [hv] at hy; simp at hy
        | some g =>
          rw [hv] at hy
          simp at hy
          have := (hO.blk hv).1
          omega
      · rw [idx_succ p hu, if_pos hp]
        exact hO5
    · rw [bin_add (by omega)]
      refine hk' _ _ _ (by omega) ⟨by simp, hE4', ?_⟩
      rw [idx_succ p hu, if_neg (by simp [hp])]
      exact hO4
  · obtain rfl : i = us.length := by omega
    exact hk v w1 hE hO
theorem usage_clean {u : U} {k : Value → World → Prop} (hk : ∀ w', Ex [] w w' → k (.bool (decide (u.state = 0))) w') : wCall P n_usage_clean [.agg ⟨u.cells⟩] w k := by
  refine call_usage_clean _ ?_
  unfold F_usage_clean
  refine box_i (vs := u.cells) rfl fun w1 g1 hg1 hE1 B1 => ?_
  simp only [fA_T_codec_Use_1]
  rw [ld_one o_T_int (v := .int .i64 u.state) (by rw [B1.cell]; rfl), bin_eql]
  exact hk w1 hE1
theorem usage_dirty {u : U} {k : Value → World → Prop} (hk : ∀ w', Ex [] w w' → k (.bool (decide (u.state = 1))) w') : wCall P n_usage_Table_Order_c1 [.agg ⟨u.cells⟩] w k := by
  refine call_usage_Table_Order_c1 _ ?_
  unfold F_usage_Table_Order_c1
  refine box_i (vs := u.cells) rfl fun w1 g1 hg1 hE1 B1 => ?_
  simp only [fA_T_codec_Use_1]
  rw [ld_one o_T_int (v := .int .i64 u.state) (by rw [B1.cell]; rfl), bin_eql]
  exact hk w1 hE1
theorem usage_Clean {h d : Nat} {room : Int} {us : List U} {k : Value → World → Prop} (H : Tab w h d room us) (hn : us.length ≤ 1000)
    (hk : ∀ w', Ex [] w w' → k (.int .i64 ((idx (fun u => decide (u.state = 0)) us us.length).length : Nat)) w') : wCall P n_usage_Table_Clean [ptr h] w k := by
  refine call_usage_Table_Clean _ ?_
  unfold F_usage_Table_Clean
  refine usage_which (p := fun u => decide (u.state = 0)) H hn (fun u _ w1 k1 h1 => ?_) fun v w1 hE hO => ?_
  · rw [callv_0]; exact usage_clean h1
  · rw [hO.slg.len_i u_T_Lint (by omega) (by rw [ivs_length, Nat.mul_one])]
    exact hk w1 hE
/-- Sorting at most one. -/
theorem slices_insert1 {v f : Value} {n : Int} {k : Value → World → Prop} (h1 : n ≤ 1) (hk : k (.tuple #[]) w) : wCall P n_slices_insertionSortCmpFunc_int [v, .int .i64 0, .int .i64 n, f] w k := by
  refine call_slices_insertionSortCmpFunc_int _ _ _ _ ?_
  unfold F_slices_insertionSortCmpFunc_int
  rw [bin_add (by omega)]
  refine loop_up 0 (fun i a w' => a = .int .i64 1 ∧ w' = w) ⟨rfl, rfl⟩ ?_
  rintro i J a w1 k' hi ⟨rfl, rfl⟩ _
  rw [bin_lss, wIf_df (by omega)]
  exact hk
theorem slices_sort1 {v f : Value} {xs : List Value} {k : Value → World → Prop} (S : SlG w 1 v xs) (h1 : xs.length ≤ 1) (hk : k (.tuple #[]) w) : wCall P n_slices_SortStableFunc_int [v, f] w k := by
  refine call_slices_SortStableFunc_int _ _ ?_
  unfold F_slices_SortStableFunc_int
  rw [S.len_i u_T_Lint (by omega) (n := xs.length) (by omega)]
  refine call_slices_stableCmpFunc_int _ _ _ ?_
  unfold F_slices_stableCmpFunc_int wJ1
  refine loop_up2 0 (fun i a b w' => a = .int .i64 0 ∧ b = .int .i64 20 ∧ w' = w) ⟨rfl, rfl, rfl⟩ ?_
  rintro i J a b w1 k' hi ⟨rfl, rfl, rfl⟩ _
  rw [bin_leq, wIf_df (by omega)]
  intro J'
  refine slices_insert1 (n := (xs.length : Int)) (by omega) ?_
  refine loop_up 0 (fun i a w' => a = .int .i64 20 ∧ w' = w1) ⟨rfl, rfl⟩ ?_
  rintro i J a w2 k2 hi ⟨rfl, rfl⟩ _
  rw [bin_lss, wIf_df (by omega)]
  exact hk
theorem usage_Order1 {h d : Nat} {room now : Int} {us : List U} {k : Value → World → Prop} (H : Tab w h d room us) (hn : us.length ≤ 1000) (h1 : (idx (fun u => decide (u.state = 1)) us us.length).length ≤ 1)
    (hk : ∀ v w', Ex [] w w' → Own w' w.heap.size T_int 1 v (ivs (idx (fun u => decide (u.state = 1)) us us.length)) → k v w') : wCall P n_usage_Table_Order [ptr h, .int .u32 now] w k := by
  refine call_usage_Table_Order _ _ ?_
  unfold F_usage_Table_Order
  refine box_i (vs := [ptr h]) rfl fun w1 g1 hg1 hE1 B1 => ?_
  refine box_i (vs := [.int .u32 now]) rfl fun w2 g2 hg2 hE2 B2 => ?_
  rw [ld_one o_T_pusage_Table (v := ptr h) (by rw [(B1.ex hE2 (by simp)).cell]; rfl)]
  refine usage_which (p := fun u => decide (u.state = 1)) ((H.ex0 hE1).ex0 hE2) hn (fun u _ w1 k1 h1 => ?_) fun v w3 hE3 hO => ?_
  · rw [callv_0]; exact usage_dirty h1
  · rw [func_eq]
    refine alloc_i z_T_func_int___uint64__uint64_ rfl fun w4 g4 hg4 hE4 B4 => ?_
    refine st_one o_T_func_int___uint64__uint64_ rfl B4 (by simp) fun w5 hE5 B5 => ?_
    rw [func_eq]
    have hE' : Ex [] w3 w5 := hE4.new hE5 (by omega)
    have hO5 := hO.ex0 hE'
    have l1 := hE1.le
    have l2 := hE2.le
    refine slices_sort1 hO5.slg (by rw [ivs_length]; exact h1) ?_
    exact hk v w5 (((hE1.trans hE2).trans hE3).trans hE') (hO5.base (by omega))
end
end Go.Dn
