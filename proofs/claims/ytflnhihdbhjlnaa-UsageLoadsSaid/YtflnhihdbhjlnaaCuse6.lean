import Derived.Test.YtflnhihdbhjlnaaCuse5
/-! Law 09: is. -/
set_option maxRecDepth 10000
set_option linter.unusedVariables false
set_option linter.unusedSimpArgs false
namespace Go.Dn
open Go
theorem loop_up4 {w0 : World} {x0 y0 z0 u0 : Value} {step : Env → Value → Value → Value → Value → World → (Value → Value → Value → Value → World → Prop) → Prop} (N : Nat) (I : Nat → Value → Value → Value → Value → World → Prop) (h0 : I 0 x0 y0 z0 u0 w0)
    (hs : ∀ i J x y z u w k, i ≤ N → I i x y z u w → (∀ x' y' z' u' w', i < N → I (i + 1) x' y' z' u' w' → k x' y' z' u' w') → step J x y z u w k) : wL4 x0 y0 z0 u0 w0 step := by
  refine ⟨fun n x y z u w => ∃ i, i ≤ N ∧ n = N - i ∧ I i x y z u w, ⟨N, 0, Nat.zero_le _, rfl, h0⟩, ?_⟩
  rintro n J x y z u w ⟨i, hi, rfl, hI⟩
  exact hs i J x y z u w _ hi hI fun x' y' z' u' w' hlt hI' => ⟨N - (i + 1), by omega, i + 1, by omega, rfl, hI'⟩
theorem fstL_ge (p : U → Bool) : ∀ (l : List U) (j : Nat), fstL p l j = -1 ∨ 0 ≤ fstL p l j
  | [], _ => .inl rfl
  | u :: l, j => by
    unfold fstL
    split
    · right; omega
    · exact fstL_ge p l (j + 1)
theorem fstL_snoc (p : U → Bool) (u : U) : ∀ (l : List U) (j : Nat), fstL p (l ++ [u]) j = if fstL p l j < 0 then (if p u = true then ((j + l.length : Nat) : Int) else -1) else fstL p l j
  | [], j => by simp [fstL]
  | x :: l, j => by
    simp only [List.cons_append, fstL]
    by_cases hx : p x = true
    · simp only [hx, if_true]
      rw [if_neg (by omega)]
    · simp only [hx, if_false]
      rw [fstL_snoc p u l (j + 1)]
      simp only [List.length_cons]
      rw [show j + 1 + l.length = j + (l.length + 1) by omega]
      simp
def cleanU (u : U) : Bool := decide (u.state = 0)
section
variable {w : World} {K : Value → World → Prop}
theorem keep1 {t : TypeId} {a : Addr} {v : Value} (hT : oneT P t = true) (h : w.cell? a = some v) : wKeep P [(t, .pointer (some a), v)] w := keep_cons (loadAt_one hT h) keep_nil
theorem keepU {g : Nat} {u : U} (h : Blk w g T_ref05_Use u.cells) : wKeep P [(T_ref05_Use, ptr g, .agg ⟨u.cells⟩)] w := keep_cons (loadAt_agg g_T_ref05_Use h.all rfl) keep_nil
theorem law09_is {h d : Nat} {room r2 : Int} {us : List U} {v : Value} {k : Value → World → Prop} (H : Tab w h d room us) (S : SlG w 3 v (fl us)) (hb : ∀ u ∈ us, 0 ≤ u.live ∧ u.live ≤ 1000000) (hn : us.length ≤ 1000)
    (hk : ∀ w', Ex [] w w' → k (.bool true) w') : wCall P n_law09_is [ptr h, .agg ⟨[.int .i64 r2, v]⟩] w k := by
  refine call_law09_is _ _ ?_
  unfold F_law09_is wJ3
  refine box_i (vs := [.int .i64 r2, v]) rfl fun w1 g1 hg1 hE1 B1 => ?_
  refine draw_i fun w2 hE2 hh2 => ?_
  have B2 := B1.heap hh2
  have E2 := hE1.trans hE2
  have H2 := H.ex0 E2
  have S2 := S.ex0 E2
  have c1 : w2.cell? ⟨g1, 0 + 1, none⟩ = some v := B2.cell 1
  simp only [fA_T_ref09_Table_1]
  rw [ld_one o_T_Lref05_Use c1, S2.len_i u_T_Lref05_Use (by omega) (fl_length us)]
  refine usage_Segs H2 ?_
  refine ⟨keep1 o_T_Lref05_Use c1, ?_⟩
  rw [bin_neq, decide_eq_false (by simp)]
  refine or_w (r := false) (fun _ k' hk' => ?_) fun w3 hE3 => ?_
  · rw [ld_one o_T_Lref05_Use c1, S2.len_i u_T_Lref05_Use (by omega) (fl_length us)]
    refine usage_Uses H2 hn fun v' w3 hE3 hO => ?_
    refine ⟨keep1 o_T_Lref05_Use ((B2.ex hE3 (by simp)).cell 1), ?_⟩
    rw [hO.slg.len_i u_T_Lcodec_Use (by omega) (fl_length us), bin_neq, decide_eq_false (by simp)]
    exact hk' w3 hE3
  rw [Bool.or_false, wIf_f]
  have B3 := B2.ex hE3 (by simp)
  have c3 : w3.cell? ⟨g1, 0 + 1, none⟩ = some v := B3.cell 1
  have H3 := H2.ex0 hE3
  have S3 := S2.ex0 hE3
  rw [ld_one o_T_Lref05_Use c3, S3.len_i u_T_Lref05_Use (by omega) (fl_length us)]
  refine loop_up4 us.length (fun i a b c x w' => a = .int .i64 ((idx cleanU us i).length : Nat) ∧ b = .int .i64 (fstL cleanU (us.take i) 0) ∧ c = .int .i64 (sumL (us.take i)) ∧ x = .int .i64 (i : Int) ∧ Ex [] w3 w') ⟨rfl, rfl, rfl, rfl, Ex.refl _ _⟩ ?_
  rintro i J a b c x w4 k' hi ⟨rfl, rfl, rfl, rfl, hE4⟩ hk'
  rw [bin_lss]
  refine wIf_d (fun hlt => ?_) (fun hge => ?_)
  · have hlt : i < us.length := by omega
    have hu := List.getElem?_eq_getElem hlt
    have hub := hb _ (List.getElem_mem hlt)
    have hs := sumL_lt (us := us.take i) fun u hu => hb u (List.mem_of_mem_take hu)
    rw [List.length_take] at hs
    have hil := idx_le cleanU us i
    refine (S3.ex0 hE4).ix s_T_Lref05_Use (by omega) (fl_length us) (by omega) (by omega) fun b o hcs => ?_
    rw [Int.toNat_natCast, fl_cell hu] at hcs
    rw [ld_agg g_T_ref05_Use hcs rfl]
    refine alloc_i z_T_ref05_Use rfl fun w5 g5 hg5 hE5 B5 => ?_
    refine st_agg g_T_ref05_Use rfl (U.cells_c _) B5 (by simp) fun w6 hE6 B6 => ?_
    have B6 : Blk w6 g5 T_ref05_Use us[i].cells := B6
    have E6 : Ex [] w3 w6 := hE4.trans (hE5.new hE6 (by omega))
    refine usage_Get (H3.ex0 E6) (fun hh => absurd (by omega) hh) fun u _ hu' w7 hE7 => ?_
    rw [Int.toNat_natCast, hu] at hu'
    injection hu' with hu'
    subst hu'
    rw [ext_0, ext_1]
    refine alloc_i z_T_codec_Use rfl fun w8 g8 hg8 hE8 B8 => ?_
    refine st_agg g_T_codec_Use rfl (U.cells_c _) B8 (by simp) fun w9 hE9 B9 => ?_
    have B9 : Blk w9 g8 T_codec_Use us[i].cells := B9
    have E69 : Ex [] w6 w9 := hE7.trans (hE8.new hE9 (by omega))
    refine draw_i fun wa hEa hha => ?_
    have Ea : Ex [] w6 wa := E69.trans hEa
    have Ba := B9.heap hha
    have Ra := B6.ex Ea (by simp)
    have Ha := (H3.ex0 E6).ex0 Ea
    rw [bin_neq, decide_eq_false (by simp)]
    refine or_w (r := false) (fun _ k' hk' => ?_) fun wb hEb => ?_
    · rw [ld_agg g_T_codec_Use Ba.all rfl, ld_agg g_T_ref05_Use Ra.all rfl]
      refine law09_told fun wb hEb => ?_
      refine ⟨keepU (Ra.ex hEb (by simp)), ?_⟩
      rw [ne_ref05_Use, decide_eq_true rfl]
      exact hk' wb hEb
    rw [Bool.or_false]
    have Rb := Ra.ex hEb (by simp)
    refine or_w (r := false) (fun _ k' hk' => ?_) fun wc hEc => ?_
    · rw [ld_agg g_T_ref05_Use Rb.all rfl]
      refine usage_Uses (Ha.ex0 hEb) hn fun v' wc hEc hO => ?_
      have Rc := Rb.ex hEc (by simp)
      refine ⟨keepU Rc, ?_⟩
      refine hO.slg.ix s_T_Lcodec_Use (by omega) (fl_length us) (by omega) (by omega) fun b o hcs => ?_
      rw [Int.toNat_natCast, fl_cell hu] at hcs
      rw [ld_agg g_T_codec_Use hcs rfl]
      refine law09_told fun wd hEd => ?_
      refine ⟨keepU (Rc.ex hEd (by simp)), ?_⟩
      rw [ne_ref05_Use, decide_eq_true rfl]
      exact hk' wd (hEc.trans hEd)
    rw [Bool.or_false, wIf_f]
    have Rc := Rb.ex hEc (by simp)
    have E3c : Ex [] w3 wc := ((E6.trans Ea).trans hEb).trans hEc
    have d0 : wc.cell? ⟨g5, 0, none⟩ = some (.int .i64 us[i].live) := Rc.cell 0
    have d1 : wc.cell? ⟨g5, 0 + 1, none⟩ = some (.int .i64 us[i].state) := Rc.cell 1
    simp only [fA_T_ref05_Use_0, fA_T_ref05_Use_1]
    have A1 : ∀ (t : TypeId) (w : World) (K : Value → World → Prop), wBin P .add t (.int .i64 (sumL (us.take i))) (.int .i64 us[i].live) w K = K (.int .i64 (sumL (us.take i) + us[i].live)) w := fun t w K => bin_add (by omega)
    have A2 : ∀ (t : TypeId) (w : World) (K : Value → World → Prop), wBin P .add t (.int .i64 (i : Int)) (.int .i64 1) w K = K (.int .i64 ((i : Int) + 1)) w := fun t w K => bin_add (by omega)
    have A3 : ∀ (t : TypeId) (w : World) (K : Value → World → Prop), wBin P .add t (.int .i64 (((idx cleanU us i).length : Nat) : Int)) (.int .i64 1) w K = K (.int .i64 ((((idx cleanU us i).length : Nat) : Int) + 1)) w := fun t w K => bin_add (by omega)
    simp only [ld_one o_T_int d0, ld_one o_T_int d1, bin_eql, bin_lss, A1, A2, A3]
    have hf := fstL_snoc cleanU us[i] (us.take i) 0
    have htk : us.take (i + 1) = us.take i ++ [us[i]] := by rw [List.take_add_one, hu]; rfl
    have hlen : (us.take i).length = i := by rw [List.length_take]; omega
    have hsum := sumL_take hu
    have hix := idx_succ cleanU hu
    refine wIf_d (fun hcl => ?_) (fun hcl => ?_)
    · have hc : cleanU us[i] = true := by simp [cleanU, hcl]
      rw [if_pos hc] at hix
      rw [hc, if_pos rfl, hlen, ← htk] at hf
      have ha : (Value.int .i64 ((((idx cleanU us i).length : Nat) : Int) + 1)) = .int .i64 ((idx cleanU us (i + 1)).length : Nat) := by rw [hix]; simp
      refine wIf_d (fun hneg => ?_) (fun hneg => ?_)
      · rw [if_pos hneg] at hf
        exact hk' _ _ _ _ _ (by omega) ⟨ha, by rw [hf]; simp, by rw [hsum], by simp, E3c⟩
      · rw [if_neg hneg] at hf
        exact hk' _ _ _ _ _ (by omega) ⟨ha, by rw [hf], by rw [hsum], by simp, E3c⟩
    · have hc : ¬ cleanU us[i] = true := by simp [cleanU, hcl]
      rw [if_neg hc] at hix
      rw [if_neg hc, ← htk] at hf
      refine hk' _ _ _ _ _ (by omega) ⟨by rw [hix], ?_, by rw [hsum], by simp, E3c⟩
      rw [hf]
      split
      · rcases fstL_ge cleanU (us.take i) 0 with h | h
        · rw [h]
        · omega
      · rfl
  · obtain rfl : i = us.length := by omega
    intro J2
    have B4 := B3.ex hE4 (by simp)
    have c4 : w4.cell? ⟨g1, 0 + 1, none⟩ = some v := B4.cell 1
    have H4 := H3.ex0 hE4
    rw [ld_one o_T_Lref05_Use c4, (S3.ex0 hE4).len_i u_T_Lref05_Use (by omega) (fl_length us)]
    refine usage_Get H4 (fun _ w5 hE5 => ?_) fun u _ hu' _ _ => ?_
    · rw [ext_0, ext_1]
      refine alloc_i z_T_codec_Use rfl fun w6 g6 hg6 hE6 B6 => ?_
      refine st_agg g_T_codec_Use rfl (U.cells_c _) B6 (by simp) fun w7 hE7 B7 => ?_
      have E7 : Ex [] w4 w7 := hE5.trans (hE6.new hE7 (by omega))
      have H7 := H4.ex0 E7
      refine usage_Clean H7 hn fun w8 hE8 => ?_
      rw [bin_eql, show (fun u : U => decide (u.state = 0)) = cleanU from rfl, decide_eq_true rfl]
      have H8 := H7.ex0 hE8
      refine and_w (r := true) (fun _ k' hk' => ?_) fun w9 hE9 => ?_
      · refine usage_First H8 hn fun w9 hE9 => ?_
        rw [bin_eql, List.take_length, show (fun u : U => decide (u.state = 0)) = cleanU from rfl, decide_eq_true rfl]
        exact hk' w9 hE9
      refine and_w (r := true) (fun _ k' hk' => ?_) fun wa hEa => ?_
      · refine usage_Live (H8.ex0 hE9) hb hn fun wa hEa => ?_
        rw [bin_eql, List.take_length, decide_eq_true rfl]
        exact hk' wa hEa
      refine and_i (r := true) (fun _ k' hk' => by rw [bin_eql]; exact hk') ?_
      exact hk wa ((((((E2.trans hE3).trans hE4).trans E7).trans hE8).trans hE9).trans hEa)
    · rw [Int.toNat_natCast] at hu'
      simp at hu'
end
end Go.Dn
