import Derived.Test.YtflnhihdbhjlnaaCuse3
/-! Contracts of package usage, on: Uses, Load. -/
set_option maxRecDepth 10000
set_option linter.unusedVariables false
set_option linter.unusedSimpArgs false
namespace Go.Dn
open Go
def fineU (room : Int) (u : U) : Prop := 0 ≤ u.live ∧ u.live ≤ room ∧ 0 ≤ u.state ∧ u.state ≤ 3
def loadOk (room : Int) (us : List U) : Prop := us ≠ [] ∧ us.length ≤ 200 ∧ ∀ u ∈ us, fineU room u
section
variable {w : World} {K : Value → World → Prop}
theorem usage_Uses {h d : Nat} {room : Int} {us : List U} {k : Value → World → Prop} (H : Tab w h d room us) (hn : us.length ≤ 1000)
    (hk : ∀ v' w', Ex [] w w' → Own w' w.heap.size T_codec_Use 3 v' (fl us) → k v' w') : wCall P n_usage_Table_Uses [ptr h] w k := by
  refine call_usage_Table_Uses _ ?_
  unfold F_usage_Table_Uses
  obtain ⟨c, hc, hcell⟩ := H.uses
  simp only [nil_ptr, fA_T_usage_Table_1]
  rw [ld_one o_T_Lcodec_Use hcell]
  exact slices_CloneU (H.slg hc) (by omega) hk
theorem own_blk {base : Nat} {v : Value} {us : List U} (h : Own w base T_codec_Use 3 v (fl us)) (hne : us ≠ []) : ∃ g c rest, v = .slice (some ⟨g, 0, none⟩) us.length c ∧ us.length ≤ c ∧ base ≤ g ∧ Blk w g T_codec_Use (fl us ++ rest) := by
  obtain ⟨n, hl, h⟩ := h
  have hn : us.length = n := by rw [fl_length] at hl; omega
  rcases h with ⟨rfl, rfl⟩ | ⟨g, cap, cur, rfl, hb, hh, h1, h2, h3, h4⟩
  · exact absurd (List.eq_nil_of_length_eq_zero hn) hne
  · refine ⟨g, cap, cur.toList.drop (n * 3), by rw [hn], by omega, hb, ?_⟩
    have : fl us ++ cur.toList.drop (n * 3) = cur.toList := by
      rw [← h4]
      exact List.take_append_drop _ _
    rw [this]
    exact hh
theorem usage_Load {room : Int} {v : Value} {us : List U} {k : Value → World → Prop} (S : SlG w 3 v (fl us)) (hn : us.length ≤ 100000)
    (h0 : ¬ loadOk (max 1 (min room 4096)) us → ∀ w', Ex [] w w' → k (.tuple #[.pointer none, .int .i64 1]) w')
    (h1 : loadOk (max 1 (min room 4096)) us → ∀ w' h d, w.heap.size ≤ h → w.heap.size ≤ d → Ex [] w w' → Tab w' h d (max 1 (min room 4096)) us → k (.tuple #[ptr h, .int .i64 0]) w') :
    wCall P n_usage_Load [.int .i64 room, v] w k := by
  refine call_usage_Load _ _ ?_
  unfold F_usage_Load
  rw [S.len_i u_T_Lcodec_Use (by omega) (fl_length us), bin_eql]
  refine or_i (r := decide ((200 : Int) < us.length)) (fun _ k' hk' => ?_) ?_
  · rw [S.len_i u_T_Lcodec_Use (by omega) (fl_length us), bin_gtr]
    exact hk'
  refine wIf_i _ (fun hh => ?_) (fun hh => ?_)
  · refine h0 (fun hl => ?_) w (Ex.refl _ _)
    simp only [Bool.or_eq_true, decide_eq_true_eq] at hh
    have h2 := List.length_pos_iff.2 hl.1
    have h3 := hl.2.1
    omega
  simp only [Bool.or_eq_false_iff, decide_eq_false_iff_not] at hh
  have hne : us ≠ [] := fun e => by subst e; simp at hh
  refine usage_among ?_
  generalize hR : max 1 (min room 4096) = R
  rw [hR] at h0 h1
  refine slices_CloneU S hn fun v1 w1 hE1 hO1 => ?_
  obtain ⟨d, c, rest, rfl, hc, hd, Bd⟩ := own_blk hO1 hne
  rw [bl_T_usage_Table (cs := [.int .i64 R, .slice (some ⟨d, 0, none⟩) us.length c]) (by
    rw [fill_cons (off := 0) (size := 1) rfl rfl rfl (by simp), fill_cons (off := 1) (size := 1) rfl rfl rfl (by simp [splice])]
    rfl)]
  refine box_i (vs := [.int .i64 R, .slice (some ⟨d, 0, none⟩) us.length c]) rfl fun w2 h hg2 hE2 B2 => ?_
  have l1 := hE1.le
  have hE12 := hE1.trans hE2
  have T2 : Tab w2 h d R us := ⟨⟨c, B2, hc⟩, ⟨rest, Bd.ex hE2 (by simp)⟩⟩
  rw [(S.ex0 hE12).len_i u_T_Lcodec_Use (by omega) (fl_length us)]
  refine loop_up us.length (fun i b w' => b = .int .i64 (i : Int) ∧ Ex [] w2 w' ∧ ∀ u ∈ us.take i, fineU R u) ⟨rfl, Ex.refl _ _, by simp⟩ ?_
  rintro i J b w3 k' hi ⟨rfl, hE3, hF⟩ hk'
  rw [bin_lss]
  refine wIf_d (fun hlt => ?_) (fun hge => ?_)
  · have hlt : i < us.length := by omega
    have hu := List.getElem?_eq_getElem hlt
    refine ((S.ex0 hE12).ex0 hE3).ix s_T_Lcodec_Use (by omega) (fl_length us) (by omega) (by omega) fun b o hcs => ?_
    rw [Int.toNat_natCast, fl_cell hu] at hcs
    rw [ld_agg g_T_codec_Use hcs rfl]
    refine alloc_i z_T_codec_Use rfl fun w4 g4 hg4 hE4 B4 => ?_
    refine st_agg g_T_codec_Use rfl (U.cells_c _) B4 (by simp) fun w5 hE5 B5 => ?_
    have B5' : Blk w5 g4 T_codec_Use us[i].cells := B5
    have hE35 : Ex [] w3 w5 := hE4.new hE5 (by omega)
    refine draw_i fun w6 hE6 hh6 => ?_
    have B6 := B5'.heap hh6
    have hE26 : Ex [] w2 w6 := (hE3.trans hE35).trans hE6
    have T6 := T2.ex0 hE26
    simp only [nil_ptr, fA_T_codec_Use_0, fA_T_codec_Use_1, fA_T_usage_Table_0]
    have c0 : w6.cell? ⟨g4, 0, none⟩ = some (.int .i64 us[i].live) := B6.cell 0
    have c1 : w6.cell? ⟨g4, 0 + 1, none⟩ = some (.int .i64 us[i].state) := B6.cell 1
    simp only [ld_one o_T_int c0, ld_one o_T_int c1, ld_one o_T_int T6.room, bin_lss, bin_gtr, or_p]
    refine wIf_i _ (fun hh => ?_) (fun hh => ?_)
    · refine h0 (fun hl => ?_) w6 (hE12.trans hE26)
      have hf := hl.2.2 _ (List.getElem_mem hlt)
      unfold fineU at hf
      simp only [Bool.or_eq_true, decide_eq_true_eq] at hh
      omega
    · simp only [Bool.or_eq_false_iff, decide_eq_false_iff_not] at hh
      rw [bin_add (by omega)]
      refine hk' _ _ (by omega) ⟨by simp, hE26, fun u hm => ?_⟩
      rw [List.take_add_one, hu] at hm
      simp only [Option.toList_some, List.mem_append, List.mem_singleton] at hm
      rcases hm with hm | rfl
      · exact hF u hm
      · unfold fineU; omega
  · obtain rfl : i = us.length := by omega
    rw [List.take_length] at hF
    refine h1 ⟨hne, by omega, hF⟩ w3 h d (by omega) hd (hE12.trans hE3) (T2.ex0 hE3)
end
end Go.Dn
