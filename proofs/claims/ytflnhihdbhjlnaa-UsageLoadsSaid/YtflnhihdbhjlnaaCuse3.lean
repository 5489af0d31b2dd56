import Derived.Test.YtflnhihdbhjlnaaCl09
import Derived.Laws.Cover3
/-! Contracts of package usage, on: Get, Segs, Uses, First, Load. -/
set_option maxRecDepth 10000
set_option linter.unusedVariables false
set_option linter.unusedSimpArgs false
namespace Go.Dn
open Go
theorem U.cells_c (u : U) : ∀ v ∈ u.cells, isC v = true := by simp [U.cells, isC]
theorem fl_c (us : List U) : ∀ v ∈ fl us, isC v = true := by
  induction us with
  | nil => simp [fl]
  | cons u us ih => rw [fl_cons]; intro v hv; simp only [List.mem_cons] at hv; rcases hv with rfl | rfl | rfl | hv; · rfl
                    · rfl
                    · rfl
                    · exact ih v hv
def fstL (p : U → Bool) : List U → Nat → Int
  | [], _ => -1
  | u :: us, i => if p u = true then (i : Int) else fstL p us (i + 1)
section
variable {w : World} {K : Value → World → Prop}
theorem usage_Segs {h d : Nat} {room : Int} {us : List U} {k : Value → World → Prop} (H : Tab w h d room us) (hk : k (.int .i64 us.length) w) : wCall P n_usage_Table_Segs [ptr h] w k := by
  refine call_usage_Table_Segs _ ?_
  unfold F_usage_Table_Segs
  obtain ⟨c, hc, hcell⟩ := H.uses
  simp only [nil_ptr, fA_T_usage_Table_1]
  rw [ld_one o_T_Lcodec_Use hcell, len_s u_T_Lcodec_Use]
  exact hk
theorem usage_Get {h d : Nat} {room seg : Int} {us : List U} {k : Value → World → Prop} (H : Tab w h d room us)
    (h0 : ¬ (0 ≤ seg ∧ seg < us.length) → ∀ w', Ex [] w w' → k (.tuple #[.agg ⟨(⟨0, 0, 0⟩ : U).cells⟩, .int .i64 1]) w')
    (h1 : ∀ u, 0 ≤ seg → us[seg.toNat]? = some u → ∀ w', Ex [] w w' → k (.tuple #[.agg ⟨u.cells⟩, .int .i64 0]) w') :
    wCall P n_usage_Table_Get [ptr h, .int .i64 seg] w k := by
  refine call_usage_Table_Get _ _ ?_
  unfold F_usage_Table_Get
  refine alloc_i z_T_codec_Use rfl fun w1 g1 hg1 hE1 B1 => ?_
  have H1 := H.ex0 hE1
  refine usage_has H1 ?_
  rw [un_not]
  by_cases hseg : 0 ≤ seg ∧ seg < us.length
  · rw [decide_eq_true hseg, show (!true) = false from rfl, wIf_f]
    have hlt : seg.toNat < us.length := by omega
    have hu := List.getElem?_eq_getElem hlt
    obtain ⟨c, hc, hcell⟩ := H1.uses
    simp only [nil_ptr, fA_T_usage_Table_1]
    rw [ld_one o_T_Lcodec_Use hcell]
    refine (H1.slg hc).ix s_T_Lcodec_Use (by omega) (fl_length us) (by omega) (by omega) fun b o hcs => ?_
    rw [fl_cell hu] at hcs
    rw [ld_agg g_T_codec_Use hcs rfl]
    refine st_agg g_T_codec_Use rfl (U.cells_c _) B1 (by simp) fun w2 hE2 B2 => ?_
    have B2' : Blk w2 g1 T_codec_Use us[seg.toNat].cells := B2
    exact res_agg g_T_codec_Use B2'.all rfl (h1 _ (by omega) hu w2 (hE1.new hE2 (by omega)))
  · rw [decide_eq_false hseg, show (!false) = true from rfl, wIf_t]
    rw [bl_T_codec_Use (cs := (⟨0, 0, 0⟩ : U).cells) rfl]
    refine st_agg g_T_codec_Use rfl (U.cells_c _) B1 (by simp) fun w2 hE2 B2 => ?_
    have B2' : Blk w2 g1 T_codec_Use (⟨0, 0, 0⟩ : U).cells := B2
    exact res_agg g_T_codec_Use B2'.all rfl (h0 hseg w2 (hE1.new hE2 (by omega)))
theorem fst_drop (p : U → Bool) {us : List U} {i : Nat} {u : U} (h : us[i]? = some u) : fstL p (us.drop i) i = if p u = true then (i : Int) else fstL p (us.drop (i + 1)) (i + 1) := by
  have hlt := (List.getElem?_eq_some_iff.1 h).1
  rw [List.drop_eq_getElem_cons hlt, (List.getElem?_eq_some_iff.1 h).2]
  rfl
theorem slices_First {v f : Value} {us : List U} {p : U → Bool} {k : Value → World → Prop} (S : SlG w 3 v (fl us)) (hn : us.length ≤ 100000)
    (hf : ∀ u ∈ us, ∀ (w1 : World) (k1 : Value → World → Prop), (∀ w', Ex [] w1 w' → k1 (.bool (p u)) w') → wCallV P f [.agg ⟨u.cells⟩] w1 k1)
    (hk : ∀ w', Ex [] w w' → k (.int .i64 (fstL p us 0)) w') : wCall P n_slices_IndexFunc_codec_Use [v, f] w k := by
  refine call_slices_IndexFunc_codec_Use _ _ ?_
  unfold F_slices_IndexFunc_codec_Use
  rw [S.len_i u_T_Lcodec_Use (by omega) (fl_length us)]
  refine loop_up us.length (fun i b w' => b = .int .i64 (i : Int) ∧ Ex [] w w' ∧ fstL p us 0 = fstL p (us.drop i) i) ⟨rfl, Ex.refl _ _, rfl⟩ ?_
  rintro i J b w1 k' hi ⟨rfl, hE, hF⟩ hk'
  rw [bin_lss]
  refine wIf_d (fun hlt => ?_) (fun hge => ?_)
  · have hlt : i < us.length := by omega
    have hu := List.getElem?_eq_getElem hlt
    refine (S.ex0 hE).ix s_T_Lcodec_Use (by omega) (fl_length us) (by omega) (by omega) fun b o hcs => ?_
    rw [Int.toNat_natCast, fl_cell hu] at hcs
    rw [ld_agg g_T_codec_Use hcs rfl]
    refine hf _ (List.getElem_mem hlt) w1 _ fun w2 hE2 => ?_
    rw [fst_drop p hu] at hF
    refine wIf_i _ (fun hp => ?_) (fun hp => ?_)
    · rw [if_pos hp] at hF
      rw [← hF]
      exact hk w2 (hE.trans hE2)
    · rw [if_neg (by simp [hp])] at hF
      rw [bin_add (by omega)]
      exact hk' _ _ (by omega) ⟨by simp, hE.trans hE2, hF⟩
  · obtain rfl : i = us.length := by omega
    rw [List.drop_length] at hF
    have : (.int .i64 (-1) : Value) = .int .i64 (fstL p us 0) := by rw [hF]; rfl
    rw [this]
    exact hk w1 hE
theorem usage_First {h d : Nat} {room : Int} {us : List U} {k : Value → World → Prop} (H : Tab w h d room us) (hn : us.length ≤ 1000)
    (hk : ∀ w', Ex [] w w' → k (.int .i64 (fstL (fun u => decide (u.state = 0)) us 0)) w') : wCall P n_usage_Table_First [ptr h] w k := by
  refine call_usage_Table_First _ ?_
  unfold F_usage_Table_First
  obtain ⟨c, hc, hcell⟩ := H.uses
  simp only [nil_ptr, fA_T_usage_Table_1]
  rw [ld_one o_T_Lcodec_Use hcell]
  refine slices_First (p := fun u => decide (u.state = 0)) (H.slg hc) (by omega) (fun u _ w1 k1 h1 => ?_) fun w1 hE => hk w1 hE
  rw [callv_0]; exact usage_clean h1
theorem sl_ne_nil {t e : TypeId} (ht : P.underlying t = some (.slice e)) (a : Option Addr) (l c : Nat) : wBin P .eql t (.slice a l c) (.slice none 0 0) w K = K (.bool a.isNone) w :=
  bin_eq_of (by simp) (by simp) (by simp) (by simp) (fun _ _ => rfl) (fun w' => run_equal_slice_nil w' t e a l c ht)
theorem slices_CloneU {v : Value} {us : List U} {k : Value → World → Prop} (S : SlG w 3 v (fl us)) (hn : us.length ≤ 100000)
    (hk : ∀ v' w', Ex [] w w' → Own w' w.heap.size T_codec_Use 3 v' (fl us) → k v' w') : wCall P n_slices_Clone_codec_Use [v] w k := by
  obtain ⟨A, n, c, rfl, hl, hc, hr⟩ := S
  have hnn : us.length = n := by rw [fl_length] at hl; omega
  refine call_slices_Clone_codec_Use _ ?_
  unfold F_slices_Clone_codec_Use
  rw [sl_ne_nil u_T_Lcodec_Use]
  cases A with
  | none =>
    simp only [Option.isNone_none, wIf_t]
    by_cases h0 : n = 0
    · have : us = [] := List.eq_nil_of_length_eq_zero (by omega)
      subst this
      exact hk _ w (Ex.refl _ _) (Own.nil _ _ _ _)
    · obtain ⟨b, o, h, _⟩ := hr h0
      cases h
  | some a =>
    simp only [Option.isNone_some, wIf_f]
    refine buildS_i (n := 0) (cs := []) u_T_Lcodec_Use (sizeOf_agg g_T_codec_Use) z_T_codec_Use (by omega) rfl fun w1 g1 hg1 hE1 B1 => ?_
    have hO : Own w1 w.heap.size T_codec_Use 3 (.slice (some ⟨g1, 0, none⟩) 0 0) [] := Own.of_blk (n := 0) B1 rfl (by omega) (by omega)
    have hle := hE1.le
    refine app_T_Lcodec_Use (n := 0) (m := n) hO (SlG.ex0 ⟨some a, n, c, rfl, hl, hc, hr⟩ hE1) rfl (by rw [fl_length, hnn]) (fl_c us) (by omega) hle fun v' w2 hO2 hE2 _ => ?_
    refine hk v' w2 (hE1.step hE2 fun x hx => ?_) hO2
    right
    simp [Value.ownBlock] at hx
    omega
end
end Go.Dn
