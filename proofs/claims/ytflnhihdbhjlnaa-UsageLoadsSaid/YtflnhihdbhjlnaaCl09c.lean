import Derived.Test.YtflnhihdbhjlnaaCl09b
/-! Law 09: UsageLoads. -/
set_option maxRecDepth 10000
set_option linter.unusedVariables false
set_option linter.unusedSimpArgs false
namespace Go.Dn
open Go
theorem j1_of {body : (Value → World → Prop) → Prop} {k : Env → Value → World → Prop} (I : Value → World → Prop) (hb : ∀ k', (∀ v w', I v w' → k' v w') → body k') (hk : ∀ J v w', I v w' → k J v w') : wJ1 body k :=
  hb _ fun v w' h J => hk J v w' h
theorem j2_of {body : (Value → Value → World → Prop) → Prop} {k : Env → Value → Value → World → Prop} (I : Value → Value → World → Prop) (hb : ∀ k', (∀ u v w', I u v w' → k' u v w') → body k') (hk : ∀ J u v w', I u v w' → k J u v w') : wJ2 body k :=
  hb _ fun u v w' h J => hk J u v w' h
def fineB (R : Int) (u : U) : Bool := decide (0 ≤ u.live) && decide (u.live ≤ R) && decide (0 ≤ u.state) && decide (u.state ≤ 3)
theorem fineB_iff (R : Int) (u : U) : fineB R u = true ↔ fineU R u := by
  unfold fineB fineU
  simp only [Bool.and_eq_true, decide_eq_true_eq]
  omega
theorem okB_iff (R : Int) (us : List U) : ((decide ((0 : Int) < us.length) && decide ((us.length : Int) ≤ 200)) && us.all (fineB R)) = true ↔ loadOk R us := by
  unfold loadOk
  simp only [Bool.and_eq_true, decide_eq_true_eq, List.all_eq_true, fineB_iff]
  rw [← List.length_pos_iff]
  exact ⟨fun ⟨⟨h1, h2⟩, h3⟩ => ⟨by omega, by omega, h3⟩, fun ⟨h1, h2, h3⟩ => ⟨⟨by omega, by omega⟩, h3⟩⟩
section
variable {w : World} {K : Value → World → Prop}
theorem nil_eq_nil {t d : TypeId} (ht : P.underlying t = some (.pointer d)) : wBin P .eql t (.pointer none) (.pointer none) w K = K (.bool true) w := by
  refine bin_eq_of (by simp) (by simp) (by simp) (by simp) (fun _ _ => rfl) (fun w' => ?_)
  unfold Op.equal Op.maxDepth
  rw [Op.equalIn]
  simp only [Sem.run_bind, und_run ht, Result.andThen_ok]
  rfl
theorem law09_UsageLoads {room : Int} {v : Value} {us0 : List U} {k : Value → World → Prop} (S0 : SlG w 3 v (fl us0)) (hk : ∀ w', Ex [] w w' → k (.bool true) w') : wCall P n_law09_UsageLoads [.int .i64 room, v] w k := by
  refine call_law09_UsageLoads _ _ ?_
  unfold F_law09_UsageLoads
  refine law09_awake fun w1 hE1 => ?_
  rw [un_not, show (!true) = false from rfl, wIf_f]
  have S1 := S0.ex0 hE1
  refine j1_of (fun v1 w' => w' = w1 ∧ ∃ us : List U, us.length ≤ 210 ∧ SlG w1 3 v1 (fl us)) (fun k' hk' => ?_) ?_
  · rw [S1.len_i u_T_Lref05_Use (by omega) (fl_length us0), bin_gtr]
    refine wIf_d (fun hlt => ?_) (fun hge => ?_)
    · refine S1.hi s_T_Lref05_Use (by omega) (fl_length us0) (by omega) (by omega) fun v' _ S' => ?_
      refine hk' _ _ ⟨rfl, us0.take 210, by simp; omega, ?_⟩
      rw [show (210 : Int).toNat * 3 = 210 * 3 from rfl, fl_take] at S'
      exact S'
    · exact hk' _ _ ⟨rfl, us0, by omega, S1⟩
  rintro J v1 w' ⟨rfl, us, hn, S⟩
  refine ref09_New fun w2 d2 hd2 hE2 B2 => ?_
  generalize hR : max 1 (min room 4096) = R
  refine alloc_i z_T_ref09_Table rfl fun w3 g3 hg3 hE3 B3 => ?_
  refine st_agg g_T_ref09_Table rfl (by simp [isC]) B3 (by simp) fun w4 hE4 B4 => ?_
  have E24 : Ex [] w2 w4 := hE3.new hE4 (by omega)
  have S4 := (S.ex0 hE2).ex0 E24
  have B4 : Blk w4 g3 T_ref09_Table [.int .i64 R, .slice (some ⟨d2, 0, none⟩) 1 1] := B4
  rw [S4.len_i u_T_Lref05_Use (by omega) (fl_length us), bin_gtr]
  refine and_i (r := decide ((us.length : Int) ≤ 200)) (fun _ k' hk' => ?_) ?_
  · rw [S4.len_i u_T_Lref05_Use (by omega) (fl_length us), bin_leq]
    exact hk'
  refine j2_of (fun a b w' => Ex [] w4 w' ∧ Own w' w4.heap.size T_codec_Use 3 a (fl us) ∧ b = .bool ((decide ((0 : Int) < us.length) && decide ((us.length : Int) ≤ 200)) && us.all (fineB R))) (fun k' hk' => ?_) ?_
  · rw [S4.len_i u_T_Lref05_Use (by omega) (fl_length us)]
    refine loop_up3 us.length (fun i a b c w' => c = .int .i64 (i : Int) ∧ Ex [] w4 w' ∧ Own w' w4.heap.size T_codec_Use 3 a (fl (us.take i)) ∧ b = .bool ((decide ((0 : Int) < us.length) && decide ((us.length : Int) ≤ 200)) && (us.take i).all (fineB R)))
      ⟨rfl, Ex.refl _ _, Own.nil _ _ _ _, by simp⟩ ?_
    rintro i J a b c w5 k2 hi ⟨rfl, hE5, hO, rfl⟩ hk2
    rw [bin_lss]
    refine wIf_d (fun hlt => ?_) (fun hge => ?_)
    · have hlt : i < us.length := by omega
      have hu := List.getElem?_eq_getElem hlt
      refine (S4.ex0 hE5).ix s_T_Lref05_Use (by omega) (fl_length us) (by omega) (by omega) fun b o hcs => ?_
      rw [Int.toNat_natCast, fl_cell hu] at hcs
      rw [ld_agg g_T_ref05_Use hcs rfl]
      refine alloc_i z_T_ref05_Use rfl fun w6 g6 hg6 hE6 B6 => ?_
      refine st_agg g_T_ref05_Use rfl (U.cells_c _) B6 (by simp) fun w7 hE7 B7 => ?_
      have B7 : Blk w7 g6 T_ref05_Use us[i].cells := B7
      have E57 : Ex [] w5 w7 := hE6.new hE7 (by omega)
      have d0 : w7.cell? ⟨g6, 0, none⟩ = some (.int .i64 us[i].live) := B7.cell 0
      have d1 : w7.cell? ⟨g6, 0 + 1, none⟩ = some (.int .i64 us[i].state) := B7.cell 1
      have d2 : w7.cell? ⟨g6, 0 + 2, none⟩ = some (.int .u32 us[i].age) := B7.cell 2
      simp only [fA_T_ref05_Use_0, fA_T_ref05_Use_1, fA_T_ref05_Use_2, fA_T_ref09_Table_0]
      rw [ld_one o_T_int d0, ld_one o_T_int d1, ld_one o_T_uint32 d2]
      rw [bl_T_codec_Use (cs := us[i].cells) (by
        rw [fill_cons (off := 0) (size := 1) rfl rfl rfl (by simp), fill_cons (off := 1) (size := 1) rfl rfl rfl (by simp [splice]), fill_cons (off := 2) (size := 1) rfl rfl rfl (by simp [splice])]
        rfl)]
      have hle := hE5.le
      have hle2 := E57.le
      refine push_use (hO.ex0 E57) (by rw [List.length_take]; omega) (by omega) fun a' w8 hO8 hE8 => ?_
      have hnb : ∀ x ∈ a.ownBlock.toList, w4.heap.size ≤ x ∧ x < w5.heap.size := by
        intro x hx
        cases hv : a.ownBlock with
        | none => rw [hv] at hx; simp at hx
        | some g =>
          rw [hv] at hx
          simp at hx
          subst hx
          have := hO.blk hv
          exact ⟨this.1, this.2.1⟩
      have E48 : Ex [] w4 w8 := (hE5.trans E57).step hE8 fun y hy => .inr (hnb y hy).1
      have B8 : Blk w8 g6 T_ref05_Use us[i].cells := B7.ex hE8 fun hm => by have := (hnb _ hm).2; omega
      have T8 := B4.ex E48 (by simp)
      have e0 : w8.cell? ⟨g6, 0, none⟩ = some (.int .i64 us[i].live) := B8.cell 0
      have e1 : w8.cell? ⟨g6, 0 + 1, none⟩ = some (.int .i64 us[i].state) := B8.cell 1
      have e2 : w8.cell? ⟨g3, 0, none⟩ = some (.int .i64 R) := T8.cell 0
      simp only [ld_one o_T_int e0, ld_one o_T_int e1, ld_one o_T_int e2, bin_geq, bin_leq, and_p]
      rw [bin_add (by omega)]
      have htk : us.take (i + 1) = us.take i ++ [us[i]] := by rw [List.take_add_one, hu]; rfl
      refine hk2 _ _ _ _ (by omega) ⟨by simp, E48, by rw [htk]; exact hO8, ?_⟩
      rw [htk, List.all_append]
      simp only [List.all_cons, List.all_nil, Bool.and_true, fineB, Bool.and_assoc]
    · obtain rfl : i = us.length := by omega
      rw [List.take_length] at hO ⊢
      exact hk' _ _ _ ⟨hE5, hO, rfl⟩
  rintro J5 a b w5 ⟨hE5, hO5, rfl⟩
  have hok := okB_iff R us
  generalize ((decide ((0 : Int) < us.length) && decide ((us.length : Int) ≤ 200)) && us.all (fineB R)) = ok at hok ⊢
  have E5 : Ex [] w w5 := ((hE1.trans hE2).trans E24).trans hE5
  have S5 := S4.ex0 hE5
  have T5 := B4.ex hE5 (by simp)
  have hb : loadOk R us → ∀ u ∈ us, 0 ≤ u.live ∧ u.live ≤ 1000000 := fun hl u hu => by
    have := hl.2.2 u hu
    unfold fineU at this
    omega
  refine usage_Load hO5.slg (by omega) (fun hno w6 hE6 => ?_) fun hyes w6 h d hh hd hE6 T6 => ?_
  · rw [hR] at hno
    have : ok = false := by cases ok; rfl; exact absurd (hok.1 rfl) hno
    subst this
    rw [ext_0, ext_1, un_not, show (!false) = true from rfl, wIf_t, bin_eql]
    refine and_i (r := true) (fun _ k' hk' => ?_) ?_
    · rw [nil_eq_nil u_T_pusage_Table]; exact hk'
    · exact hk w6 (E5.trans hE6)
  · rw [hR] at hyes T6
    have : ok = true := hok.2 hyes
    subst this
    rw [ext_0, ext_1, un_not, show (!true) = false from rfl, wIf_f]
    have hbb := hb hyes
    have hne := hyes.1
    have hn200 := hyes.2.1
    have T6' := T5.ex hE6 (by simp)
    have S6 := S5.ex0 hE6
    have hv1 : isC v1 = true := by
      obtain ⟨A, n, c, rfl, _⟩ := S
      rfl
    simp only [fA_T_ref09_Table_1]
    refine st_one o_T_Lref05_Use hv1 T6' (by simp) fun w7 hE7 B7 => ?_
    have B7 : Blk w7 g3 T_ref09_Table [.int .i64 R, v1] := B7
    have l2 := hE2.le
    have l4 := E24.le
    have l5 := hE5.le
    have hg3 : g3 < w5.heap.size := by have := B4.lt; omega
    have H7 : Tab w7 h d R us := T6.ex hE7 (by simp; omega) (by simp; omega)
    have hvb : ∀ g, v1.ownBlock = some g → g < w2.heap.size := by
      intro g hg
      obtain ⟨A, n, c, rfl, hl, _, hr⟩ := S
      have hp := List.length_pos_iff.2 hne
      obtain ⟨b, o, rfl, hcs⟩ := hr (by rw [fl_length] at hl; omega)
      have hlt := hcs.lt (by intro e; rw [← List.length_eq_zero_iff, fl_length] at e; omega)
      simp only [Value.ownBlock, Option.some.injEq] at hg
      omega
    have S7 : SlG w7 3 v1 (fl us) := S6.ex hE7 fun g hg hm => by
      have := hvb g hg
      have := hE3.le
      simp at hm
      omega
    rw [bin_neq, decide_eq_false (by simp)]
    refine or_w (r := false) (fun _ k' hk' => ?_) fun w8 hE8 => ?_
    · rw [ld_agg g_T_ref09_Table B7.all rfl]
      refine law09_is H7 S7 hbb (by omega) fun w8 hE8 => ?_
      rw [un_not]
      exact hk' w8 hE8
    rw [Bool.or_false, wIf_f]
    have H8 := H7.ex0 hE8
    have S8 := S7.ex0 hE8
    have B8 := B7.ex hE8 (by simp)
    refine usage_Uses H8 (by omega) fun v9 w9 hE9 hO9 => ?_
    refine usage_Load hO9.slg (by omega) (fun hno => absurd (by rw [hR]; exact hyes) hno) fun _ w10 h2 dd2 hh2 hdd2 hE10 T10 => ?_
    rw [hR] at T10
    rw [ext_0, ext_1]
    obtain ⟨g5, c5, rest, rfl, hc5, hg5, B5⟩ := own_blk hO5 hne
    have hp := List.length_pos_iff.2 hne
    have hlt5 := B5.lt
    have l6 := hE6.le
    have l7 := hE7.le
    have l8 := hE8.le
    have l9 := hE9.le
    have B10 : Blk w10 g5 T_codec_Use (fl us ++ rest) := (((((B5.ex hE6 (by simp)).ex hE7 (by have := B4.lt; simp; omega)).ex hE8 (by simp)).ex hE9 (by simp)).ex hE10 (by simp))
    rw [indexS_i s_T_Lcodec_Use (by omega) (by omega)]
    simp only [fA_T_codec_Use_0]
    refine st_one o_T_int rfl B10 (by rw [List.length_append, fl_length]; simp; omega) fun w11 hE11 _ => ?_
    have H11 : Tab w11 h d R us := ((H8.ex0 hE9).ex0 hE10).ex hE11 (by simp; omega) (by simp; omega)
    have HB11 : Tab w11 h2 dd2 R us := T10.ex hE11 (by simp; omega) (by simp; omega)
    have S11 : SlG w11 3 v1 (fl us) := ((S8.ex0 hE9).ex0 hE10).ex hE11 fun g hg hm => by
      have := hvb g hg
      simp at hm
      omega
    have B11 : Blk w11 g3 T_ref09_Table [.int .i64 R, v1] := ((B8.ex hE9 (by simp)).ex hE10 (by simp)).ex hE11 (by have := B4.lt; simp; omega)
    have E511 : Ex [] w w11 := ((((E5.trans hE6).step hE7 (by intro x hx; right; have := hE1.le; have := hE3.le; simp at hx; omega)).trans hE8).trans hE9 |>.trans hE10).step hE11 (by intro x hx; right; have := hE1.le; simp at hx; omega)
    rw [bin_eql, decide_eq_true rfl]
    refine and_w (r := true) (fun _ k' hk' => ?_) fun w12 hE12 => ?_
    · rw [ld_agg g_T_ref09_Table B11.all rfl]
      exact law09_is HB11 S11 hbb (by omega) hk'
    refine and_w (r := true) (fun _ k' hk' => ?_) fun w13 hE13 => ?_
    · rw [ld_agg g_T_ref09_Table (B11.ex hE12 (by simp)).all rfl]
      exact law09_is (H11.ex0 hE12) (S11.ex0 hE12) hbb (by omega) hk'
    exact hk w13 ((E511.trans hE12).trans hE13)
end
end Go.Dn
