import Derived.Test.YtflnhihdbhjlnaaXOrd2
import Derived.Laws.StructEq
import Derived.Test.YtflnhihdbhjlnaaXOrd1
section
/-! Contracts of package usage, on: Uses, Load. -/
set_option maxRecDepth 10000
set_option linter.unusedVariables false
set_option linter.unusedSimpArgs false
namespace Go.Dn
open Go
def fineU (room : Int) (u : U) : Prop := 0 ≤ u.live ∧ u.live ≤ room ∧ 0 ≤ u.state ∧ u.state ≤ 3
def loadOk (room : Int) (us : List U) : Prop := us ≠ [] ∧ us.length ≤ 200 ∧ ∀ u ∈ us, fineU room u
section
variable {w : World} {K : Value → World → Prop}
theorem usage_Uses {h d : Nat} {room : Int} {us : List U} {k : Value → World → Prop} (H : Tab w h d room us) (hn : us.length ≤ 1000)
    (hk : ∀ v' w', Ex [] w w' → Own w' w.heap.size T_codec_Use 3 v' (fl us) → k v' w') : wCall P n_usage_Table_Uses [ptr h] w k := by
  refine call_usage_Table_Uses _ ?_
  unfold F_usage_Table_Uses
  obtain ⟨c, hc, hcell⟩ := H.uses
  simp only [nil_ptr, fA_T_usage_Table_1]
  rw [ld_one o_T_Lcodec_Use hcell]
  exact slices_CloneU (H.slg hc) (by omega) hk
theorem own_blk {base : Nat} {v : Value} {us : List U} (h : Own w base T_codec_Use 3 v (fl us)) (hne : us ≠ []) : ∃ g c rest, v = .slice (some ⟨g, 0, none⟩) us.length c ∧ us.length ≤ c ∧ base ≤ g ∧ Blk w g T_codec_Use (fl us ++ rest) := by
  obtain ⟨n, hl, h⟩ := h
  have hn : us.length = n := by rw [fl_length] at hl; omega
  rcases h with ⟨rfl, rfl⟩ | ⟨g, cap, cur, rfl, hb, hh, h1, h2, h3, h4⟩
  · exact absurd (List.eq_nil_of_length_eq_zero hn) hne
  · refine ⟨g, cap, cur.toList.drop (n * 3), by rw [hn], by omega, hb, ?_⟩
    have : fl us ++ cur.toList.drop (n * 3) = cur.toList := by
      rw [← h4]
      exact List.take_append_drop _ _
    rw [this]
    exact hh
theorem usage_Load {room : Int} {v : Value} {us : List U} {k : Value → World → Prop} (S : SlG w 3 v (fl us)) (hn : us.length ≤ 100000)
    (h0 : ¬ loadOk (max 1 (min room 4096)) us → ∀ w', Ex [] w w' → k (.tuple #[.pointer none, .int .i64 1]) w')
    (h1 : loadOk (max 1 (min room 4096)) us → ∀ w' h d, w.heap.size ≤ h → w.heap.size ≤ d → Ex [] w w' → Tab w' h d (max 1 (min room 4096)) us → k (.tuple #[ptr h, .int .i64 0]) w') :
    wCall P n_usage_Load [.int .i64 room, v] w k := by
  refine call_usage_Load _ _ ?_
  unfold F_usage_Load
  rw [S.len_i u_T_Lcodec_Use (by omega) (fl_length us), bin_eql]
  refine or_i (r := decide ((200 : Int) < us.length)) (fun _ k' hk' => ?_) ?_
  · rw [S.len_i u_T_Lcodec_Use (by omega) (fl_length us), bin_gtr]
    exact hk'
  refine wIf_i _ (fun hh => ?_) (fun hh => ?_)
  · refine h0 (fun hl => ?_) w (Ex.refl _ _)
    simp only [Bool.or_eq_true, decide_eq_true_eq] at hh
    have h2 := List.length_pos_iff.2 hl.1
    have h3 := hl.2.1
    omega
  simp only [Bool.or_eq_false_iff, decide_eq_false_iff_not] at hh
  have hne : us ≠ [] := fun e => by subst e; simp at hh
  refine usage_among ?_
  generalize hR : max 1 (min room 4096) = R
  rw [hR] at h0 h1
  refine slices_CloneU S hn fun v1 w1 hE1 hO1 => ?_
  obtain ⟨d, c, rest, rfl, hc, hd, Bd⟩ := own_blk hO1 hne
  rw [bl_T_usage_Table (cs := [.int .i64 R, .slice (some ⟨d, 0, none⟩) us.length c]) (by
    rw [fill_cons (off := 0) (size := 1) rfl rfl rfl (by simp), fill_cons (off := 1) (size := 1) rfl rfl rfl (by simp [splice])]
    rfl)]
  refine box_i (vs := [.int .i64 R, .slice (some ⟨d, 0, none⟩) us.length c]) rfl fun w2 h hg2 hE2 B2 => ?_
  have l1 := hE1.le
  have hE12 := hE1.trans hE2
  have T2 : Tab w2 h d R us := ⟨⟨c, B2, hc⟩, ⟨rest, Bd.ex hE2 (by simp)⟩⟩
  rw [(S.ex0 hE12).len_i u_T_Lcodec_Use (by omega) (fl_length us)]
  refine loop_up us.length (fun i b w' => b = .int .i64 (i : Int) ∧ Ex [] w2 w' ∧ ∀ u ∈ us.take i, fineU R u) ⟨rfl, Ex.refl _ _, by simp⟩ ?_
  rintro i J b w3 k' hi ⟨rfl, hE3, hF⟩ hk'
  rw [bin_lss]
  refine wIf_d (fun hlt => ?_) (fun hge => ?_)
  · have hlt : i < us.length := by omega
    have hu := List.getElem?_eq_getElem hlt
    refine ((S.ex0 hE12).ex0 hE3).ix s_T_Lcodec_Use (by omega) (fl_length us) (by omega) (by omega) fun b o hcs => ?_
    rw [Int.toNat_natCast, fl_cell hu] at hcs
    rw [ld_agg g_T_codec_Use hcs rfl]
    refine alloc_i z_T_codec_Use rfl fun w4 g4 hg4 hE4 B4 => ?_
    refine st_agg g_T_codec_Use rfl (U.cells_c _) B4 (by simp) fun w5 hE5 B5 => ?_
    have B5' : Blk w5 g4 T_codec_Use us[i].cells := B5
    have hE35 : Ex [] w3 w5 := hE4.new hE5 (by omega)
    refine draw_i fun w6 hE6 hh6 => ?_
    have B6 := B5'.heap hh6
    have hE26 : Ex [] w2 w6 := (hE3.trans hE35).trans hE6
    have T6 := T2.ex0 hE26
    simp only [nil_ptr, fA_T_codec_Use_0, fA_T_codec_Use_1, fA_T_usage_Table_0]
    have c0 : w6.cell? ⟨g4, 0, none⟩ = some (.int .i64 us[i].live) := B6.cell 0
    have c1 : w6.cell? ⟨g4, 0 + 1, none⟩ = some (.int .i64 us[i].state) := B6.cell 1
    simp only [ld_one o_T_int c0, ld_one o_T_int c1, ld_one o_T_int T6.room, bin_lss, bin_gtr, or_p]
    refine wIf_i _ (fun hh => ?_) (fun hh => ?_)
    · refine h0 (fun hl => ?_) w6 (hE12.trans hE26)
      have hf := hl.2.2 _ (List.getElem_mem hlt)
      unfold fineU at hf
      simp only [Bool.or_eq_true, decide_eq_true_eq] at hh
      omega
    · simp only [Bool.or_eq_false_iff, decide_eq_false_iff_not] at hh
      rw [bin_add (by omega)]
      refine hk' _ _ (by omega) ⟨by simp, hE26, fun u hm => ?_⟩
      rw [List.take_add_one, hu] at hm
      simp only [Option.toList_some, List.mem_append, List.mem_singleton] at hm
      rcases hm with hm | rfl
      · exact hF u hm
      · unfold fineU; omega
  · obtain rfl : i = us.length := by omega
    rw [List.take_length] at hF
    refine h1 ⟨hne, by omega, hF⟩ w3 h d (by omega) hd (hE12.trans hE3) (T2.ex0 hE3)
end
end Go.Dn
end
section
/-! Law 09: told; equality of structs of three integers. -/
set_option maxRecDepth 10000
set_option linter.unusedVariables false
set_option linter.unusedSimpArgs false
namespace Go.Dn
open Go
/-- The fields of a struct whose parts are integers, held one by one. -/
def eqInts : List (IntKind × Int × Int) → Bool
  | [] => true
  | x :: l => (x.2.1 == x.2.2) && eqInts l
theorem eqFields_ints {P : Program} (d : Nat) (w : World) : ∀ (fs : List Field) (l : List (IntKind × Int × Int)) (xs ys : Array Value), fs.length = l.length →
    (∀ (i : Nat) (f : Field) (x : IntKind × Int × Int), fs[i]? = some f → l[i]? = some x → f.name ≠ "_" ∧ oneT P f.type = true ∧ P.underlying f.type = some (.int x.1) ∧ xs[f.offset]? = some (.int x.1 x.2.1) ∧ ys[f.offset]? = some (.int x.1 x.2.2)) →
    (Op.eqFields (d + 1) xs ys fs).run P w = .ok (eqInts l) w
  | [], [], _, _, _, _ => rfl
  | [], _ :: _, _, _, h, _ => by cases h
  | _ :: _, [], _, _, h, _ => by cases h
  | f :: fs, x :: l, xs, ys, hl, h => by
    obtain ⟨h1, h2, h3, h4, h5⟩ := h 0 f x rfl rfl
    have ih := eqFields_ints d w fs l xs ys (by simpa using hl) fun i g y hg hy => h (i + 1) g y (by simpa using hg) (by simpa using hy)
    unfold Op.eqFields
    rw [if_pos h1]
    simp only [Sem.run_bind, part_one h2 h4, part_one h2 h5, Result.andThen_ok, eqIn_int d _ _ h3]
    unfold eqInts
    by_cases hb : x.2.1 = x.2.2
    · simp only [hb, BEq.rfl, Bool.not_true, Bool.false_eq_true, if_false, Bool.true_and]
      exact ih
    · have : (x.2.1 == x.2.2) = false := by simpa using hb
      simp only [this, Bool.not_false, if_true, Bool.false_and]
      rfl
section
variable {w : World} {K : Value → World → Prop}
theorem ref05_Use_fields : (P.fieldsOf T_ref05_Use).toList.map (fun (f : Field) => (f.name == "_", f.offset, oneT P f.type, P.underlying f.type)) = [(false, 0, true, some (.int .i64)), (false, 1, true, some (.int .i64)), (false, 2, true, some (.int .u32))] := by kernel_rfl
theorem ne_ref05_Use (u v : U) : wBin P .neq T_ref05_Use (.agg ⟨u.cells⟩) (.agg ⟨v.cells⟩) w K = K (.bool (!decide (u = v))) w := by
  refine bin_neA2 e_T_ref05_Use fun d w' => ?_
  have hf := ref05_Use_fields
  have e : (Op.equalIn (d + 2) T_ref05_Use (.agg ⟨u.cells⟩) (.agg ⟨v.cells⟩)).run P w' = (Op.eqFields (d + 1) ⟨u.cells⟩ ⟨v.cells⟩ (P.fieldsOf T_ref05_Use).toList).run P w' :=
    run_equalIn_struct w' (d + 1) T_ref05_Use _ _ (by kernel_rfl) (by kernel_rfl)
  rw [e]
  have hlen : (P.fieldsOf T_ref05_Use).toList.length = 3 := by have := congrArg List.length hf; simpa using this
  rw [eqFields_ints d w' _ [(.i64, u.live, v.live), (.i64, u.state, v.state), (.u32, u.age, v.age)] _ _ hlen ?_]
  · congr 1
    obtain ⟨a, b, c⟩ := u
    obtain ⟨a', b', c'⟩ := v
    simp only [eqInts, Bool.and_true]
    rw [Bool.eq_iff_iff]
    simp
  · intro i f x hfi hx
    have h1 := congrArg (fun l => l[i]?) hf
    simp only [List.getElem?_map, hfi, Option.map_some] at h1
    rcases i with _ | _ | _ | i
    · simp at h1 hx; obtain ⟨n, o, a, b⟩ := h1; subst hx; exact ⟨n, a, b, by rw [o]; rfl, by rw [o]; rfl⟩
    · simp at h1 hx; obtain ⟨n, o, a, b⟩ := h1; subst hx; exact ⟨n, a, b, by rw [o]; rfl, by rw [o]; rfl⟩
    · simp at h1 hx; obtain ⟨n, o, a, b⟩ := h1; subst hx; exact ⟨n, a, b, by rw [o]; rfl, by rw [o]; rfl⟩
    · simp at hx
theorem law09_told {u : U} {k : Value → World → Prop} (hk : ∀ w', Ex [] w w' → k (.agg ⟨u.cells⟩) w') : wCall P n_law09_told [.agg ⟨u.cells⟩] w k := by
  refine call_law09_told _ ?_
  unfold F_law09_told
  refine box_i (vs := u.cells) rfl fun w1 g1 hg1 hE1 B1 => ?_
  refine alloc_i z_T_ref05_Use rfl fun w2 g2 hg2 hE2 B2 => ?_
  have B1' := B1.ex hE2 (by simp)
  have c0 : w2.cell? ⟨g1, 0, none⟩ = some (.int .i64 u.live) := B1'.cell 0
  have c1 : w2.cell? ⟨g1, 0 + 1, none⟩ = some (.int .i64 u.state) := B1'.cell 1
  have c2 : w2.cell? ⟨g1, 0 + 2, none⟩ = some (.int .u32 u.age) := B1'.cell 2
  simp only [fA_T_codec_Use_0, fA_T_codec_Use_1, fA_T_codec_Use_2]
  rw [ld_one o_T_int c0, ld_one o_T_int c1, ld_one o_T_uint32 c2]
  rw [bl_T_ref05_Use (cs := u.cells) (by
    rw [fill_cons (off := 0) (size := 1) rfl rfl rfl (by simp), fill_cons (off := 1) (size := 1) rfl rfl rfl (by simp [splice]), fill_cons (off := 2) (size := 1) rfl rfl rfl (by simp [splice])]
    rfl)]
  refine st_agg g_T_ref05_Use rfl (U.cells_c _) B2 (by simp) fun w3 hE3 B3 => ?_
  have B3' : Blk w3 g2 T_ref05_Use u.cells := B3
  have l1 := hE1.le
  exact res_agg g_T_ref05_Use B3'.all rfl (hk w3 ((hE1.trans hE2).step hE3 (by simp; omega)))
end
end Go.Dn
end
section
/-! Law 09: is. -/
set_option maxRecDepth 10000
set_option linter.unusedVariables false
set_option linter.unusedSimpArgs false
namespace Go.Dn
open Go
theorem loop_up4 {w0 : World} {x0 y0 z0 u0 : Value} {step : Env → Value → Value → Value → Value → World → (Value → Value → Value → Value → World → Prop) → Prop} (N : Nat) (I : Nat → Value → Value → Value → Value → World → Prop) (h0 : I 0 x0 y0 z0 u0 w0)
    (hs : ∀ i J x y z u w k, i ≤ N → I i x y z u w → (∀ x' y' z' u' w', i < N → I (i + 1) x' y' z' u' w' → k x' y' z' u' w') → step J x y z u w k) : wL4 x0 y0 z0 u0 w0 step := by
  refine ⟨fun n x y z u w => ∃ i, i ≤ N ∧ n = N - i ∧ I i x y z u w, ⟨N, 0, Nat.zero_le _, rfl, h0⟩, ?_⟩
  rintro n J x y z u w ⟨i, hi, rfl, hI⟩
  exact hs i J x y z u w _ hi hI fun x' y' z' u' w' hlt hI' => ⟨N - (i + 1), by omega, i + 1, by omega, rfl, hI'⟩
theorem fstL_ge (p : U → Bool) : ∀ (l : List U) (j : Nat), fstL p l j = -1 ∨ 0 ≤ fstL p l j
  | [], _ => .inl rfl
  | u :: l, j => by
    unfold fstL
    split
    · right; omega
    · exact fstL_ge p l (j + 1)
theorem fstL_snoc (p : U → Bool) (u : U) : ∀ (l : List U) (j : Nat), fstL p (l ++ [u]) j = if fstL p l j < 0 then (if p u = true then ((j + l.length : Nat) : Int) else -1) else fstL p l j
  | [], j => by simp [fstL]
  | x :: l, j => by
    simp only [List.cons_append, fstL]
    by_cases hx : p x = true
    · simp only [hx, if_true]
      rw [if_neg (by omega)]
    · simp only [hx, if_false]
      rw [fstL_snoc p u l (j + 1)]
      simp only [List.length_cons]
      rw [show j + 1 + l.length = j + (l.length + 1) by omega]
      simp
def cleanU (u : U) : Bool := decide (u.state = 0)
section
variable {w : World} {K : Value → World → Prop}
theorem keep1 {t : TypeId} {a : Addr} {v : Value} (hT : oneT P t = true) (h : w.cell? a = some v) : wKeep P [(t, .pointer (some a), v)] w := keep_cons (loadAt_one hT h) keep_nil
theorem keepU {g : Nat} {u : U} (h : Blk w g T_ref05_Use u.cells) : wKeep P [(T_ref05_Use, ptr g, .agg ⟨u.cells⟩)] w := keep_cons (loadAt_agg g_T_ref05_Use h.all rfl) keep_nil
theorem law09_is {h d : Nat} {room r2 : Int} {us : List U} {v : Value} {k : Value → World → Prop} (H : Tab w h d room us) (S : SlG w 3 v (fl us)) (hb : ∀ u ∈ us, 0 ≤ u.live ∧ u.live ≤ 1000000) (hn : us.length ≤ 1000)
    (hk : ∀ w', Ex [] w w' → k (.bool true) w') : wCall P n_law09_is [ptr h, .agg ⟨[.int .i64 r2, v]⟩] w k := by
  refine call_law09_is _ _ ?_
  unfold F_law09_is wJ3
  refine box_i (vs := [.int .i64 r2, v]) rfl fun w1 g1 hg1 hE1 B1 => ?_
  refine draw_i fun w2 hE2 hh2 => ?_
  have B2 := B1.heap hh2
  have E2 := hE1.trans hE2
  have H2 := H.ex0 E2
  have S2 := S.ex0 E2
  have c1 : w2.cell? ⟨g1, 0 + 1, none⟩ = some v := B2.cell 1
  simp only [fA_T_ref09_Table_1]
  rw [ld_one o_T_Lref05_Use c1, S2.len_i u_T_Lref05_Use (by omega) (fl_length us)]
  refine usage_Segs H2 ?_
  refine ⟨keep1 o_T_Lref05_Use c1, ?_⟩
  rw [bin_neq, decide_eq_false (by simp)]
  refine or_w (r := false) (fun _ k' hk' => ?_) fun w3 hE3 => ?_
  · rw [ld_one o_T_Lref05_Use c1, S2.len_i u_T_Lref05_Use (by omega) (fl_length us)]
    refine usage_Uses H2 hn fun v' w3 hE3 hO => ?_
    refine ⟨keep1 o_T_Lref05_Use ((B2.ex hE3 (by simp)).cell 1), ?_⟩
    rw [hO.slg.len_i u_T_Lcodec_Use (by omega) (fl_length us), bin_neq, decide_eq_false (by simp)]
    exact hk' w3 hE3
  rw [Bool.or_false, wIf_f]
  have B3 := B2.ex hE3 (by simp)
  have c3 : w3.cell? ⟨g1, 0 + 1, none⟩ = some v := B3.cell 1
  have H3 := H2.ex0 hE3
  have S3 := S2.ex0 hE3
  rw [ld_one o_T_Lref05_Use c3, S3.len_i u_T_Lref05_Use (by omega) (fl_length us)]
  refine loop_up4 us.length (fun i a b c x w' => a = .int .i64 ((idx cleanU us i).length : Nat) ∧ b = .int .i64 (fstL cleanU (us.take i) 0) ∧ c = .int .i64 (sumL (us.take i)) ∧ x = .int .i64 (i : Int) ∧ Ex [] w3 w') ⟨rfl, rfl, rfl, rfl, Ex.refl _ _⟩ ?_
  rintro i J a b c x w4 k' hi ⟨rfl, rfl, rfl, rfl, hE4⟩ hk'
  rw [bin_lss]
  refine wIf_d (fun hlt => ?_) (fun hge => ?_)
  · have hlt : i < us.length := by omega
    have hu := List.getElem?_eq_getElem hlt
    have hub := hb _ (List.getElem_mem hlt)
    have hs := sumL_lt (us := us.take i) fun u hu => hb u (List.mem_of_mem_take hu)
    rw [List.length_take] at hs
    have hil := idx_le cleanU us i
    refine (S3.ex0 hE4).ix s_T_Lref05_Use (by omega) (fl_length us) (by omega) (by omega) fun b o hcs => ?_
    rw [Int.toNat_natCast, fl_cell hu] at hcs
    rw [ld_agg g_T_ref05_Use hcs rfl]
    refine alloc_i z_T_ref05_Use rfl fun w5 g5 hg5 hE5 B5 => ?_
    refine st_agg g_T_ref05_Use rfl (U.cells_c _) B5 (by simp) fun w6 hE6 B6 => ?_
    have B6 : Blk w6 g5 T_ref05_Use us[i].cells := B6
    have E6 : Ex [] w3 w6 := hE4.trans (hE5.new hE6 (by omega))
    refine usage_Get (H3.ex0 E6) (fun hh => absurd (by omega) hh) fun u _ hu' w7 hE7 => ?_
    rw [Int.toNat_natCast, hu] at hu'
    injection hu' with hu'
    subst hu'
    rw [ext_0, ext_1]
    refine alloc_i z_T_codec_Use rfl fun w8 g8 hg8 hE8 B8 => ?_
    refine st_agg g_T_codec_Use rfl (U.cells_c _) B8 (by simp) fun w9 hE9 B9 => ?_
    have B9 : Blk w9 g8 T_codec_Use us[i].cells := B9
    have E69 : Ex [] w6 w9 := hE7.trans (hE8.new hE9 (by omega))
    refine draw_i fun wa hEa hha => ?_
    have Ea : Ex [] w6 wa := E69.trans hEa
    have Ba := B9.heap hha
    have Ra := B6.ex Ea (by simp)
    have Ha := (H3.ex0 E6).ex0 Ea
    rw [bin_neq, decide_eq_false (by simp)]
    refine or_w (r := false) (fun _ k' hk' => ?_) fun wb hEb => ?_
    · rw [ld_agg g_T_codec_Use Ba.all rfl, ld_agg g_T_ref05_Use Ra.all rfl]
      refine law09_told fun wb hEb => ?_
      refine ⟨keepU (Ra.ex hEb (by simp)), ?_⟩
      rw [ne_ref05_Use, decide_eq_true rfl]
      exact hk' wb hEb
    rw [Bool.or_false]
    have Rb := Ra.ex hEb (by simp)
    refine or_w (r := false) (fun _ k' hk' => ?_) fun wc hEc => ?_
    · rw [ld_agg g_T_ref05_Use Rb.all rfl]
      refine usage_Uses (Ha.ex0 hEb) hn fun v' wc hEc hO => ?_
      have Rc := Rb.ex hEc (by simp)
      refine ⟨keepU Rc, ?_⟩
      refine hO.slg.ix s_T_Lcodec_Use (by omega) (fl_length us) (by omega) (by omega) fun b o hcs => ?_
      rw [Int.toNat_natCast, fl_cell hu] at hcs
      rw [ld_agg g_T_codec_Use hcs rfl]
      refine law09_told fun wd hEd => ?_
      refine ⟨keepU (Rc.ex hEd (by simp)), ?_⟩
      rw [ne_ref05_Use, decide_eq_true rfl]
      exact hk' wd (hEc.trans hEd)
    rw [Bool.or_false, wIf_f]
    have Rc := Rb.ex hEc (by simp)
    have E3c : Ex [] w3 wc := ((E6.trans Ea).trans hEb).trans hEc
    have d0 : wc.cell? ⟨g5, 0, none⟩ = some (.int .i64 us[i].live) := Rc.cell 0
    have d1 : wc.cell? ⟨g5, 0 + 1, none⟩ = some (.int .i64 us[i].state) := Rc.cell 1
    simp only [fA_T_ref05_Use_0, fA_T_ref05_Use_1]
    have A1 : ∀ (t : TypeId) (w : World) (K : Value → World → Prop), wBin P .add t (.int .i64 (sumL (us.take i))) (.int .i64 us[i].live) w K = K (.int .i64 (sumL (us.take i) + us[i].live)) w := fun t w K => bin_add (by omega)
    have A2 : ∀ (t : TypeId) (w : World) (K : Value → World → Prop), wBin P .add t (.int .i64 (i : Int)) (.int .i64 1) w K = K (.int .i64 ((i : Int) + 1)) w := fun t w K => bin_add (by omega)
    have A3 : ∀ (t : TypeId) (w : World) (K : Value → World → Prop), wBin P .add t (.int .i64 (((idx cleanU us i).length : Nat) : Int)) (.int .i64 1) w K = K (.int .i64 ((((idx cleanU us i).length : Nat) : Int) + 1)) w := fun t w K => bin_add (by omega)
    simp only [ld_one o_T_int d0, ld_one o_T_int d1, bin_eql, bin_lss, A1, A2, A3]
    have hf := fstL_snoc cleanU us[i] (us.take i) 0
    have htk : us.take (i + 1) = us.take i ++ [us[i]] := by rw [List.take_add_one, hu]; rfl
    have hlen : (us.take i).length = i := by rw [List.length_take]; omega
    have hsum := sumL_take hu
    have hix := idx_succ cleanU hu
    refine wIf_d (fun hcl => ?_) (fun hcl => ?_)
    · have hc : cleanU us[i] = true := by simp [cleanU, hcl]
      rw [if_pos hc] at hix
      rw [hc, if_pos rfl, hlen, ← htk] at hf
      have ha : (Value.int .i64 ((((idx cleanU us i).length : Nat) : Int) + 1)) = .int .i64 ((idx cleanU us (i + 1)).length : Nat) := by rw [hix]; simp
      refine wIf_d (fun hneg => ?_) (fun hneg => ?_)
      · rw [if_pos hneg] at hf
        exact hk' _ _ _ _ _ (by omega) ⟨ha, by rw [hf]; simp, by rw [hsum], by simp, E3c⟩
      · rw [if_neg hneg] at hf
        exact hk' _ _ _ _ _ (by omega) ⟨ha, by rw [hf], by rw [hsum], by simp, E3c⟩
    · have hc : ¬ cleanU us[i] = true := by simp [cleanU, hcl]
      rw [if_neg hc] at hix
      rw [if_neg hc, ← htk] at hf
      refine hk' _ _ _ _ _ (by omega) ⟨by rw [hix], ?_, by rw [hsum], by simp, E3c⟩
      rw [hf]
      split
      · rcases fstL_ge cleanU (us.take i) 0 with h | h
        · rw [h]
        · omega
      · rfl
  · obtain rfl : i = us.length := by omega
    intro J2
    have B4 := B3.ex hE4 (by simp)
    have c4 : w4.cell? ⟨g1, 0 + 1, none⟩ = some v := B4.cell 1
    have H4 := H3.ex0 hE4
    rw [ld_one o_T_Lref05_Use c4, (S3.ex0 hE4).len_i u_T_Lref05_Use (by omega) (fl_length us)]
    refine usage_Get H4 (fun _ w5 hE5 => ?_) fun u _ hu' _ _ => ?_
    · rw [ext_0, ext_1]
      refine alloc_i z_T_codec_Use rfl fun w6 g6 hg6 hE6 B6 => ?_
      refine st_agg g_T_codec_Use rfl (U.cells_c _) B6 (by simp) fun w7 hE7 B7 => ?_
      have E7 : Ex [] w4 w7 := hE5.trans (hE6.new hE7 (by omega))
      have H7 := H4.ex0 E7
      refine usage_Clean H7 hn fun w8 hE8 => ?_
      rw [bin_eql, show (fun u : U => decide (u.state = 0)) = cleanU from rfl, decide_eq_true rfl]
      have H8 := H7.ex0 hE8
      refine and_w (r := true) (fun _ k' hk' => ?_) fun w9 hE9 => ?_
      · refine usage_First H8 hn fun w9 hE9 => ?_
        rw [bin_eql, List.take_length, show (fun u : U => decide (u.state = 0)) = cleanU from rfl, decide_eq_true rfl]
        exact hk' w9 hE9
      refine and_w (r := true) (fun _ k' hk' => ?_) fun wa hEa => ?_
      · refine usage_Live (H8.ex0 hE9) hb hn fun wa hEa => ?_
        rw [bin_eql, List.take_length, decide_eq_true rfl]
        exact hk' wa hEa
      refine and_i (r := true) (fun _ k' hk' => by rw [bin_eql]; exact hk') ?_
      exact hk wa ((((((E2.trans hE3).trans hE4).trans E7).trans hE8).trans hE9).trans hEa)
    · rw [Int.toNat_natCast] at hu'
      simp at hu'
end
end Go.Dn
end
section
/-! Texts of functions, printed by mkg.py. -/
set_option maxRecDepth 100000
set_option linter.unusedVariables false
namespace Go.Dn
open Go Go.Proofs
def F_ref09_New (a0 a1 : Value) (w : World) (k : Value → World → Prop) : Prop :=
  wAlloc P T_ref09_Table w fun t4 w =>
  wCall P n_ref09_between [a1, (.int .i64 1), (.int .i64 4096)] w fun t6 w =>
  wCall P n_ref09_between [a0, (.int .i64 1), (.int .i64 200)] w fun t8 w =>
  wMake P T_Lref05_Use t8 t8 w fun t9 w =>
  wBuild P T_ref09_Table [(0, t6), (1, t9)] w fun t10 w =>
  wStore P T_ref09_Table t4 t10 w fun w =>
  wRes P T_ref09_Table t4 w fun r4 =>
  k r4 w

theorem call_ref09_New (a0 a1 : Value) {w : World} {k : Value → World → Prop} (h : F_ref09_New a0 a1 w k) : wCall P n_ref09_New [a0, a1] w k :=
  call_of_den mixedP Try.func89 (by kernel_rfl) .z (by kernel_rfl) (Eq.mp (by kernel_rfl) h)

def F_ref09_Better (a0 a1 a2 a3 : Value) (w : World) (k : Value → World → Prop) : Prop :=
  wBox P T_ref09_Table a0 w fun t4 w =>
  wFieldA P T_ref09_Table t4 1 w fun t13 w =>
  wLoad P T_Lref05_Use t13 w fun t14 w =>
  wIndexA P T_Lref05_Use t14 a1 w fun t16 w =>
  wLoad P T_ref05_Use t16 w fun t17 w =>
  wAlloc P T_ref05_Use w fun t9 w =>
  wStore P T_ref05_Use t9 t17 w fun w =>
  wFieldA P T_ref09_Table t4 1 w fun t18 w =>
  wLoad P T_Lref05_Use t18 w fun t19 w =>
  wIndexA P T_Lref05_Use t19 a2 w fun t21 w =>
  wLoad P T_ref05_Use t21 w fun t22 w =>
  wAlloc P T_ref05_Use w fun t10 w =>
  wStore P T_ref05_Use t10 t22 w fun w =>
  wJ1 (fun k1 =>
    wFieldA P T_ref05_Use t9 2 w fun t23 w =>
    wLoad P T_uint32 t23 w fun t24 w =>
    wBin P .leq T_uint32 t24 a3 w fun t26 w =>
    wIf t26 (
      wConv P T_uint32 T_uint64 a3 w fun t28 w =>
      wFieldA P T_ref05_Use t9 2 w fun t29 w =>
      wLoad P T_uint32 t29 w fun t30 w =>
      wConv P T_uint32 T_uint64 t30 w fun t31 w =>
      wBin P .sub T_uint64 t28 t31 w fun t32 w =>
      wBin P .add T_uint64 t32 (.int .u64 1) w fun t33 w =>
      k1 t33 w) (
      k1 (.int .u64 1) w)) fun _ v11 w =>
  wJ1 (fun k1 =>
    wFieldA P T_ref05_Use t10 2 w fun t34 w =>
    wLoad P T_uint32 t34 w fun t35 w =>
    wBin P .leq T_uint32 t35 a3 w fun t37 w =>
    wIf t37 (
      wConv P T_uint32 T_uint64 a3 w fun t39 w =>
      wFieldA P T_ref05_Use t10 2 w fun t40 w =>
      wLoad P T_uint32 t40 w fun t41 w =>
      wConv P T_uint32 T_uint64 t41 w fun t42 w =>
      wBin P .sub T_uint64 t39 t42 w fun t43 w =>
      wBin P .add T_uint64 t43 (.int .u64 1) w fun t44 w =>
      k1 t44 w) (
      k1 (.int .u64 1) w)) fun _ v12 w =>
  wFieldA P T_ref09_Table t4 0 w fun t45 w =>
  wLoad P T_int t45 w fun t46 w =>
  wFieldA P T_ref05_Use t9 0 w fun t47 w =>
  wLoad P T_int t47 w fun t48 w =>
  wBin P .sub T_int t46 t48 w fun t49 w =>
  wConv P T_int T_uint64 t49 w fun t50 w =>
  wBin P .mul T_uint64 t50 v11 w fun t52 w =>
  wFieldA P T_ref09_Table t4 0 w fun t53 w =>
  wLoad P T_int t53 w fun t54 w =>
  wFieldA P T_ref05_Use t10 0 w fun t55 w =>
  wLoad P T_int t55 w fun t56 w =>
  wBin P .add T_int t54 t56 w fun t57 w =>
  wConv P T_int T_uint64 t57 w fun t58 w =>
  wBin P .mul T_uint64 t52 t58 w fun t59 w =>
  wFieldA P T_ref09_Table t4 0 w fun t60 w =>
  wLoad P T_int t60 w fun t61 w =>
  wFieldA P T_ref05_Use t10 0 w fun t62 w =>
  wLoad P T_int t62 w fun t63 w =>
  wBin P .sub T_int t61 t63 w fun t64 w =>
  wConv P T_int T_uint64 t64 w fun t65 w =>
  wBin P .mul T_uint64 t65 v12 w fun t67 w =>
  wFieldA P T_ref09_Table t4 0 w fun t68 w =>
  wLoad P T_int t68 w fun t69 w =>
  wFieldA P T_ref05_Use t9 0 w fun t70 w =>
  wLoad P T_int t70 w fun t71 w =>
  wBin P .add T_int t69 t71 w fun t72 w =>
  wConv P T_int T_uint64 t72 w fun t73 w =>
  wBin P .mul T_uint64 t67 t73 w fun t74 w =>
  wBin P .gtr T_uint64 t59 t74 w fun t75 w =>
  k t75 w

theorem call_ref09_Better (a0 a1 a2 a3 : Value) {w : World} {k : Value → World → Prop} (h : F_ref09_Better a0 a1 a2 a3 w k) : wCall P n_ref09_Better [a0, a1, a2, a3] w k :=
  call_of_den mixedP Try.func91 (by kernel_rfl) (.s .z (.s .z (.s .z (.s .z (.s .z (.j [11] [3, 4, 9, 10, 12] .z (.j [12] [4, 9, 10, 11] .z .z))))))) (by kernel_rfl) (Eq.mp (by kernel_rfl) h)

def F_ref09_Order (a0 a1 : Value) (w : World) (k : Value → World → Prop) : Prop :=
  wBox P T_ref09_Table a0 w fun t2 w =>
  wFieldA P T_ref09_Table t2 1 w fun t9 w =>
  wLoad P T_Lref05_Use t9 w fun t10 w =>
  wLen P .len #[T_Lref05_Use] [t10] w fun t11 w =>
  wMake P T_Lbool t11 t11 w fun t12 w =>
  wL1 (.slice none 0 0) w (fun _ v5 w k1 =>
    wJ1 (fun k2 =>
      wL2 (.int .i64 (-1)) (.int .i64 0) w (fun _ v7 v8 w k3 =>
        wFieldA P T_ref09_Table t2 1 w fun t14 w =>
        wLoad P T_Lref05_Use t14 w fun t15 w =>
        wLen P .len #[T_Lref05_Use] [t15] w fun t16 w =>
        wBin P .lss T_int v8 t16 w fun t17 w =>
        wIf t17 (
          wFieldA P T_ref09_Table t2 1 w fun t20 w =>
          wLoad P T_Lref05_Use t20 w fun t21 w =>
          wIndexA P T_Lref05_Use t21 v8 w fun t23 w =>
          wFieldA P T_ref05_Use t23 1 w fun t24 w =>
          wLoad P T_int t24 w fun t25 w =>
          wBin P .eql T_int t25 (.int .i64 1) w fun t26 w =>
          wGrp t26 true (fun k32 =>
            wIndexA P T_Lbool t12 v8 w fun t30 w =>
            wLoad P T_bool t30 w fun t31 w =>
            wUn P .not t31 w fun t32 w =>
            k32 t32 w) w fun _ t32 w =>
          wPick t26 t32 (.bool false) w fun t33 w =>
          wGrp t33 true (fun k43 =>
            wBin P .lss T_int v7 (.int .i64 0) w fun t36 w =>
            wGrp t36 false (fun k42 =>
              wLoad P T_ref09_Table t2 w fun t38 w =>
              wCall P n_ref09_Better [t38, v8, v7, a1] w fun t42 w =>
              k42 t42 w) w fun _ t42 w =>
            wPick t36 (.bool true) t42 w fun t43 w =>
            k43 t43 w) w fun _ t43 w =>
          wPick t33 t43 (.bool false) w fun t44 w =>
          wIf t44 (
            wBin P .add T_int v8 (.int .i64 1) w fun t19 w =>
            k3 v8 t19 w) (
            wBin P .add T_int v8 (.int .i64 1) w fun t19 w =>
            k3 v7 t19 w)) (
          k2 v7 w))) fun _ v7 w =>
    wBin P .lss T_int v7 (.int .i64 0) w fun t47 w =>
    wIf t47 (
      k v5 w) (
      wIndexA P T_Lbool t12 v7 w fun t51 w =>
      wStore P T_bool t51 (.bool true) w fun w =>
      wBuildS P T_Lint 1 [(0, v7)] w fun t54 w =>
      wBuiltin P .append #[T_Lint, T_Lint] [v5, t54] w fun t55 w =>
      k1 t55 w))

theorem call_ref09_Order (a0 a1 : Value) {w : World} {k : Value → World → Prop} (h : F_ref09_Order a0 a1 w k) : wCall P n_ref09_Order [a0, a1] w k :=
  call_of_den mixedP Try.func93 (by kernel_rfl) (.s .z (.s .z (.s .z (.b (.l [5] [1, 2, 6] (.b (.s .z (.j [7] [1, 2, 5, 6] (.s .z (.b (.l [7, 8] [1, 2, 5, 6] (.s .z (.s (.b (.s (.r (.ops [0, 1, 2, 3, 4, 5, 6, 7] (.grp 7 true 32 [28, 29, 30, 31] (.ops [8, 9, 10, 11, 12] .nil) (.ops [13, 14] (.grp 14 true 43 [35, 36, 37, 38, 39, 40, 41, 42] (.ops [15, 16, 17] (.grp 17 false 42 [38, 39, 40, 41] (.ops [18, 19, 20, 21, 22] .nil) (.ops [23] .nil))) (.ops [24] .nil)))))) .z)) .z))))) .z)))))))) (by kernel_rfl) (Eq.mp (by kernel_rfl) h)

def F_ref09_Rank (a0 : Value) (w : World) (k : Value → World → Prop) : Prop :=
  wLen P .len #[T_Lfloat64] [a0] w fun t8 w =>
  wMake P T_Lbool t8 t8 w fun t9 w =>
  wL1 (.slice none 0 0) w (fun _ v3 w k1 =>
    wLen P .len #[T_Lint] [v3] w fun t11 w =>
    wLen P .len #[T_Lfloat64] [a0] w fun t13 w =>
    wBin P .lss T_int t11 t13 w fun t14 w =>
    wIf t14 (
      wJ1 (fun k3 =>
        wL2 (.int .i64 (-1)) (.int .i64 0) w (fun _ v5 v6 w k4 =>
          wLen P .len #[T_Lfloat64] [a0] w fun t17 w =>
          wBin P .lss T_int v6 t17 w fun t18 w =>
          wIf t18 (
            wIndexA P T_Lbool t9 v6 w fun t23 w =>
            wLoad P T_bool t23 w fun t24 w =>
            wIf t24 (
              wBin P .add T_int v6 (.int .i64 1) w fun t20 w =>
              k4 v5 t20 w) (
              wDraw w fun w =>
              wBin P .lss T_int v5 (.int .i64 0) w fun t26 w =>
              wGrp t26 false (fun k40 =>
                wIndexA P T_Lfloat64 a0 v5 w fun t30 w =>
                wLoad P T_float64 t30 w fun t31 w =>
                wCall P n_ref09_none [t31] w fun t32 w =>
                wGrp t32 true (fun k39 =>
                  wIndexA P T_Lfloat64 a0 v6 w fun t36 w =>
                  wLoad P T_float64 t36 w fun t37 w =>
                  wCall P n_ref09_none [t37] w fun t38 w =>
                  wUn P .not t38 w fun t39 w =>
                  k39 t39 w) w fun _ t39 w =>
                wPick t32 t39 (.bool false) w fun t40 w =>
                k40 t40 w) w fun _ t40 w =>
              wPick t26 (.bool true) t40 w fun t41 w =>
              wGrp t41 false (fun k51 =>
                wIndexA P T_Lfloat64 a0 v6 w fun t45 w =>
                wLoad P T_float64 t45 w fun t46 w =>
                wIndexA P T_Lfloat64 a0 v5 w fun t49 w =>
                wLoad P T_float64 t49 w fun t50 w =>
                wBin P .lss T_float64 t46 t50 w fun t51 w =>
                k51 t51 w) w fun _ t51 w =>
              wPick t41 (.bool true) t51 w fun t52 w =>
              wIf t52 (
                wBin P .add T_int v6 (.int .i64 1) w fun t20 w =>
                k4 v6 t20 w) (
                wBin P .add T_int v6 (.int .i64 1) w fun t20 w =>
                k4 v5 t20 w))) (
            k3 v5 w))) fun _ v5 w =>
      wIndexA P T_Lbool t9 v5 w fun t56 w =>
      wStore P T_bool t56 (.bool true) w fun w =>
      wBuildS P T_Lint 1 [(0, v5)] w fun t59 w =>
      wBuiltin P .append #[T_Lint, T_Lint] [v3, t59] w fun t60 w =>
      k1 t60 w) (
      k v3 w))

theorem call_ref09_Rank (a0 : Value) {w : World} {k : Value → World → Prop} (h : F_ref09_Rank a0 w k) : wCall P n_ref09_Rank [a0] w k :=
  call_of_den mixedP Try.func103 (by kernel_rfl) (.s .z (.s .z (.s .z (.s (.b (.l [3] [0, 4] (.s .z (.b (.s .z (.j [5] [0, 3, 4] (.s .z (.b (.l [5, 6] [0, 3, 4] (.s .z (.s (.b (.s .z (.s (.r (.ops [0, 1, 2] (.grp 2 false 40 [28, 29, 30, 31, 32, 33, 34, 35, 36, 37, 38, 39] (.ops [3, 4, 5, 6] (.eff 7 [] (.ops [8] (.grp 8 true 39 [34, 35, 36, 37, 38] (.ops [9, 10, 11, 12] (.eff 13 [] (.ops [14] .nil))) (.ops [15] .nil))))) (.ops [16, 17] (.grp 17 false 51 [43, 44, 45, 46, 47, 48, 49, 50] (.ops [18, 19, 20, 21, 22, 23, 24, 25, 26] .nil) (.ops [27] .nil)))))) .z))) .z))))) .z)))))) .z)))) (by kernel_rfl) (Eq.mp (by kernel_rfl) h)

def F_ref09_between (a0 a1 a2 : Value) (w : World) (k : Value → World → Prop) : Prop :=
  wBin P .lss T_int a0 a1 w fun t9 w =>
  wIf t9 (
    k a1 w) (
    wBin P .gtr T_int a0 a2 w fun t13 w =>
    wIf t13 (
      k a2 w) (
      k a0 w))

theorem call_ref09_between (a0 a1 a2 : Value) {w : World} {k : Value → World → Prop} (h : F_ref09_between a0 a1 a2 w k) : wCall P n_ref09_between [a0, a1, a2] w k :=
  call_of_den mixedP Try.func195 (by kernel_rfl) .z (by kernel_rfl) (Eq.mp (by kernel_rfl) h)

def F_ref09_Count (a0 a1 a2 : Value) (w : World) (k : Value → World → Prop) : Prop :=
  wBox P T_ref09_Table a0 w fun t3 w =>
  wAlloc P T_ref09_Table w fun t6 w =>
  wLoad P T_ref09_Table t3 w fun t9 w =>
  wCall P n_ref09_has [t9, a1] w fun t11 w =>
  wUn P .not t11 w fun t12 w =>
  wGrp t12 false (fun k15 =>
    wBin P .gtr T_int a2 (.int .i64 65535) w fun t15 w =>
    k15 t15 w) w fun _ t15 w =>
  wPick t12 (.bool true) t15 w fun t16 w =>
  wGrp t16 false (fun k19 =>
    wBin P .lss T_int a2 (.int .i64 (-65535)) w fun t19 w =>
    k19 t19 w) w fun _ t19 w =>
  wPick t16 (.bool true) t19 w fun t20 w =>
  wIf t20 (
    wLoad P T_ref09_Table t3 w fun t21 w =>
    wStore P T_ref09_Table t6 t21 w fun w =>
    wRes P T_ref09_Table t6 w fun r6 =>
    k (.tuple #[r6, (.int .i64 1)]) w) (
    wFieldA P T_ref09_Table t3 1 w fun t22 w =>
    wLoad P T_Lref05_Use t22 w fun t23 w =>
    wIndexA P T_Lref05_Use t23 a1 w fun t25 w =>
    wLoad P T_ref05_Use t25 w fun t26 w =>
    wAlloc P T_ref05_Use w fun t8 w =>
    wStore P T_ref05_Use t8 t26 w fun w =>
    wFieldA P T_ref05_Use t8 0 w fun t27 w =>
    wLoad P T_int t27 w fun t28 w =>
    wBin P .add T_int t28 a2 w fun t30 w =>
    wFieldA P T_ref05_Use t8 0 w fun t31 w =>
    wStore P T_int t31 t30 w fun w =>
    wFieldA P T_ref05_Use t8 0 w fun t32 w =>
    wLoad P T_int t32 w fun t33 w =>
    wBin P .lss T_int t33 (.int .i64 0) w fun t34 w =>
    wGrp t34 false (fun k40 =>
      wFieldA P T_ref05_Use t8 0 w fun t36 w =>
      wLoad P T_int t36 w fun t37 w =>
      wFieldA P T_ref09_Table t3 0 w fun t38 w =>
      wLoad P T_int t38 w fun t39 w =>
      wBin P .gtr T_int t37 t39 w fun t40 w =>
      k40 t40 w) w fun _ t40 w =>
    wPick t34 (.bool true) t40 w fun t41 w =>
    wIf t41 (
      wLoad P T_ref09_Table t3 w fun t42 w =>
      wStore P T_ref09_Table t6 t42 w fun w =>
      wRes P T_ref09_Table t6 w fun r6 =>
      k (.tuple #[r6, (.int .i64 1)]) w) (
      wLoad P T_ref09_Table t3 w fun t43 w =>
      wLoad P T_ref05_Use t8 w fun t45 w =>
      wCall P n_ref09_put [t43, a1, t45] w fun t46 w =>
      wStore P T_ref09_Table t6 t46 w fun w =>
      wRes P T_ref09_Table t6 w fun r6 =>
      k (.tuple #[r6, (.int .i64 0)]) w))

theorem call_ref09_Count (a0 a1 a2 : Value) {w : World} {k : Value → World → Prop} (h : F_ref09_Count a0 a1 a2 w k) : wCall P n_ref09_Count [a0, a1, a2] w k :=
  call_of_den mixedP Try.func200 (by kernel_rfl) (.s .z (.s (.s (.r (.ops [0, 1, 2, 3, 4] (.grp 4 false 15 [14] (.ops [5, 6] .nil) (.ops [7, 8] (.grp 8 false 19 [18] (.ops [9, 10] .nil) (.ops [11] .nil)))))) .z) (.s .z (.s .z (.s (.s (.r (.ops [0, 1, 2, 3] (.grp 3 false 40 [36, 37, 38, 39] (.ops [4, 5, 6, 7, 8] .nil) (.ops [9] .nil)))) .z) .z))))) (by kernel_rfl) (Eq.mp (by kernel_rfl) h)

def F_ref09_Touch (a0 a1 a2 : Value) (w : World) (k : Value → World → Prop) : Prop :=
  wBox P T_ref09_Table a0 w fun t3 w =>
  wAlloc P T_ref09_Table w fun t6 w =>
  wLoad P T_ref09_Table t3 w fun t9 w =>
  wCall P n_ref09_has [t9, a1] w fun t11 w =>
  wUn P .not t11 w fun t12 w =>
  wIf t12 (
    wLoad P T_ref09_Table t3 w fun t13 w =>
    wStore P T_ref09_Table t6 t13 w fun w =>
    wRes P T_ref09_Table t6 w fun r6 =>
    k (.tuple #[r6, (.int .i64 1)]) w) (
    wFieldA P T_ref09_Table t3 1 w fun t14 w =>
    wLoad P T_Lref05_Use t14 w fun t15 w =>
    wIndexA P T_Lref05_Use t15 a1 w fun t17 w =>
    wLoad P T_ref05_Use t17 w fun t18 w =>
    wAlloc P T_ref05_Use w fun t8 w =>
    wStore P T_ref05_Use t8 t18 w fun w =>
    wJ0 (fun k2 =>
      wFieldA P T_ref05_Use t8 2 w fun t20 w =>
      wLoad P T_uint32 t20 w fun t21 w =>
      wBin P .gtr T_uint32 a2 t21 w fun t22 w =>
      wIf t22 (
        wFieldA P T_ref05_Use t8 2 w fun t24 w =>
        wStore P T_uint32 t24 a2 w fun w =>
        k2 w) (
        k2 w)) fun _ w =>
    wLoad P T_ref09_Table t3 w fun t25 w =>
    wLoad P T_ref05_Use t8 w fun t27 w =>
    wCall P n_ref09_put [t25, a1, t27] w fun t28 w =>
    wStore P T_ref09_Table t6 t28 w fun w =>
    wRes P T_ref09_Table t6 w fun r6 =>
    k (.tuple #[r6, (.int .i64 0)]) w)

theorem call_ref09_Touch (a0 a1 a2 : Value) {w : World} {k : Value → World → Prop} (h : F_ref09_Touch a0 a1 a2 w k) : wCall P n_ref09_Touch [a0, a1, a2] w k :=
  call_of_den mixedP Try.func202 (by kernel_rfl) (.s .z (.s .z (.s .z (.j [] [1, 3, 6, 8] .z .z)))) (by kernel_rfl) (Eq.mp (by kernel_rfl) h)

def F_ref09_Set (a0 a1 a2 : Value) (w : World) (k : Value → World → Prop) : Prop :=
  wBox P T_ref09_Table a0 w fun t3 w =>
  wAlloc P T_ref09_Table w fun t6 w =>
  wLoad P T_ref09_Table t3 w fun t9 w =>
  wCall P n_ref09_has [t9, a1] w fun t11 w =>
  wUn P .not t11 w fun t12 w =>
  wGrp t12 false (fun k15 =>
    wBin P .lss T_int a2 (.int .i64 0) w fun t15 w =>
    k15 t15 w) w fun _ t15 w =>
  wPick t12 (.bool true) t15 w fun t16 w =>
  wGrp t16 false (fun k19 =>
    wBin P .gtr T_int a2 (.int .i64 3) w fun t19 w =>
    k19 t19 w) w fun _ t19 w =>
  wPick t16 (.bool true) t19 w fun t20 w =>
  wIf t20 (
    wLoad P T_ref09_Table t3 w fun t21 w =>
    wStore P T_ref09_Table t6 t21 w fun w =>
    wRes P T_ref09_Table t6 w fun r6 =>
    k (.tuple #[r6, (.int .i64 1)]) w) (
    wFieldA P T_ref09_Table t3 1 w fun t22 w =>
    wLoad P T_Lref05_Use t22 w fun t23 w =>
    wIndexA P T_Lref05_Use t23 a1 w fun t25 w =>
    wLoad P T_ref05_Use t25 w fun t26 w =>
    wAlloc P T_ref05_Use w fun t8 w =>
    wStore P T_ref05_Use t8 t26 w fun w =>
    wFieldA P T_ref05_Use t8 1 w fun t28 w =>
    wStore P T_int t28 a2 w fun w =>
    wLoad P T_ref09_Table t3 w fun t29 w =>
    wLoad P T_ref05_Use t8 w fun t31 w =>
    wCall P n_ref09_put [t29, a1, t31] w fun t32 w =>
    wStore P T_ref09_Table t6 t32 w fun w =>
    wRes P T_ref09_Table t6 w fun r6 =>
    k (.tuple #[r6, (.int .i64 0)]) w)

theorem call_ref09_Set (a0 a1 a2 : Value) {w : World} {k : Value → World → Prop} (h : F_ref09_Set a0 a1 a2 w k) : wCall P n_ref09_Set [a0, a1, a2] w k :=
  call_of_den mixedP Try.func203 (by kernel_rfl) (.s .z (.s (.s (.r (.ops [0, 1, 2, 3, 4] (.grp 4 false 15 [14] (.ops [5, 6] .nil) (.ops [7, 8] (.grp 8 false 19 [18] (.ops [9, 10] .nil) (.ops [11] .nil)))))) .z) .z)) (by kernel_rfl) (Eq.mp (by kernel_rfl) h)

def F_ref09_Release (a0 : Value) (w : World) (k : Value → World → Prop) : Prop :=
  wBox P T_ref09_Table a0 w fun t1 w =>
  wAlloc P T_ref09_Table w fun t2 w =>
  wJ1 (fun k1 =>
    wL2 (.slice none 0 0) (.int .i64 0) w (fun _ v4 v5 w k2 =>
      wFieldA P T_ref09_Table t1 1 w fun t7 w =>
      wLoad P T_Lref05_Use t7 w fun t8 w =>
      wLen P .len #[T_Lref05_Use] [t8] w fun t9 w =>
      wBin P .lss T_int v5 t9 w fun t10 w =>
      wIf t10 (
        wFieldA P T_ref09_Table t1 1 w fun t13 w =>
        wLoad P T_Lref05_Use t13 w fun t14 w =>
        wIndexA P T_Lref05_Use t14 v5 w fun t16 w =>
        wFieldA P T_ref05_Use t16 1 w fun t17 w =>
        wLoad P T_int t17 w fun t18 w =>
        wBin P .eql T_int t18 (.int .i64 1) w fun t19 w =>
        wGrp t19 true (fun k27 =>
          wFieldA P T_ref09_Table t1 1 w fun t21 w =>
          wLoad P T_Lref05_Use t21 w fun t22 w =>
          wIndexA P T_Lref05_Use t22 v5 w fun t24 w =>
          wFieldA P T_ref05_Use t24 0 w fun t25 w =>
          wLoad P T_int t25 w fun t26 w =>
          wBin P .eql T_int t26 (.int .i64 0) w fun t27 w =>
          k27 t27 w) w fun _ t27 w =>
        wPick t19 t27 (.bool false) w fun t28 w =>
        wIf t28 (
          wLoad P T_ref09_Table t1 w fun t29 w =>
          wBuild P T_ref05_Use [] w fun t31 w =>
          wCall P n_ref09_put [t29, v5, t31] w fun t32 w =>
          wStore P T_ref09_Table t1 t32 w fun w =>
          wBuildS P T_Lint 1 [(0, v5)] w fun t35 w =>
          wBuiltin P .append #[T_Lint, T_Lint] [v4, t35] w fun t36 w =>
          wBin P .add T_int v5 (.int .i64 1) w fun t12 w =>
          k2 t36 t12 w) (
          wBin P .add T_int v5 (.int .i64 1) w fun t12 w =>
          k2 v4 t12 w)) (
        k1 v4 w))) fun _ v4 w =>
  wLoad P T_ref09_Table t1 w fun t37 w =>
  wStore P T_ref09_Table t2 t37 w fun w =>
  wRes P T_ref09_Table t2 w fun r2 =>
  k (.tuple #[r2, v4]) w

theorem call_ref09_Release (a0 : Value) {w : World} {k : Value → World → Prop} (h : F_ref09_Release a0 w k) : wCall P n_ref09_Release [a0] w k :=
  call_of_den mixedP Try.func204 (by kernel_rfl) (.s .z (.s .z (.j [4] [1, 2] (.s .z (.b (.l [4, 5] [1, 2] (.s .z (.s (.b (.s (.r (.ops [0, 1, 2, 3, 4, 5, 6, 7] (.grp 7 true 27 [21, 22, 23, 24, 25, 26] (.ops [8, 9, 10, 11, 12, 13, 14] .nil) (.ops [15] .nil)))) .z)) .z))))) .z))) (by kernel_rfl) (Eq.mp (by kernel_rfl) h)

def F_ref09_none (a0 : Value) (w : World) (k : Value → World → Prop) : Prop :=
  wBin P .neq T_float64 a0 a0 w fun t5 w =>
  k t5 w

theorem call_ref09_none (a0 : Value) {w : World} {k : Value → World → Prop} (h : F_ref09_none a0 w k) : wCall P n_ref09_none [a0] w k :=
  call_of_den mixedP Try.func212 (by kernel_rfl) .z (by kernel_rfl) (Eq.mp (by kernel_rfl) h)

def F_ref09_has (a0 a1 : Value) (w : World) (k : Value → World → Prop) : Prop :=
  wBox P T_ref09_Table a0 w fun t2 w =>
  wBin P .geq T_int a1 (.int .i64 0) w fun t6 w =>
  wGrp t6 true (fun k12 =>
    wFieldA P T_ref09_Table t2 1 w fun t9 w =>
    wLoad P T_Lref05_Use t9 w fun t10 w =>
    wLen P .len #[T_Lref05_Use] [t10] w fun t11 w =>
    wBin P .lss T_int a1 t11 w fun t12 w =>
    k12 t12 w) w fun _ t12 w =>
  wPick t6 t12 (.bool false) w fun t13 w =>
  k t13 w

theorem call_ref09_has (a0 a1 : Value) {w : World} {k : Value → World → Prop} (h : F_ref09_has a0 a1 w k) : wCall P n_ref09_has [a0, a1] w k :=
  call_of_den mixedP Try.func260 (by kernel_rfl) (.s .z (.s (.r (.ops [0, 1, 2] (.grp 2 true 12 [8, 9, 10, 11] (.ops [3, 4, 5, 6, 7] .nil) (.ops [8, 9] .nil)))) .z)) (by kernel_rfl) (Eq.mp (by kernel_rfl) h)

def F_ref09_put (a0 a1 a2 : Value) (w : World) (k : Value → World → Prop) : Prop :=
  wBox P T_ref09_Table a0 w fun t3 w =>
  wBox P T_ref05_Use a2 w fun t5 w =>
  wAlloc P T_ref09_Table w fun t6 w =>
  wBuildS P T_Lref05_Use 0 [] w fun t7 w =>
  wFieldA P T_ref09_Table t3 1 w fun t8 w =>
  wLoad P T_Lref05_Use t8 w fun t9 w =>
  wBuiltin P .append #[T_Lref05_Use, T_Lref05_Use] [t7, t9] w fun t10 w =>
  wFieldA P T_ref09_Table t3 1 w fun t11 w =>
  wStore P T_Lref05_Use t11 t10 w fun w =>
  wFieldA P T_ref09_Table t3 1 w fun t12 w =>
  wLoad P T_Lref05_Use t12 w fun t13 w =>
  wLoad P T_ref05_Use t5 w fun t15 w =>
  wIndexA P T_Lref05_Use t13 a1 w fun t16 w =>
  wStore P T_ref05_Use t16 t15 w fun w =>
  wLoad P T_ref09_Table t3 w fun t17 w =>
  wStore P T_ref09_Table t6 t17 w fun w =>
  wRes P T_ref09_Table t6 w fun r6 =>
  k r6 w

theorem call_ref09_put (a0 a1 a2 : Value) {w : World} {k : Value → World → Prop} (h : F_ref09_put a0 a1 a2 w k) : wCall P n_ref09_put [a0, a1, a2] w k :=
  call_of_den mixedP Try.func261 (by kernel_rfl) .z (by kernel_rfl) (Eq.mp (by kernel_rfl) h)

end Go.Dn
end
section
/-! Law 09: the reference's New; UsageLoads. -/
set_option maxRecDepth 10000
set_option linter.unusedVariables false
set_option linter.unusedSimpArgs false
namespace Go.Dn
open Go
section
variable {w : World} {K : Value → World → Prop}
theorem ref09_between {n a b : Int} {k : Value → World → Prop} (hab : a ≤ b) (hk : k (.int .i64 (max a (min n b))) w) : wCall P n_ref09_between [.int .i64 n, .int .i64 a, .int .i64 b] w k := by
  refine call_ref09_between _ _ _ ?_
  unfold F_ref09_between
  rw [bin_lss]
  refine wIf_d (fun h => ?_) (fun h => ?_)
  · rw [show a = max a (min n b) by omega]; exact hk
  · rw [bin_gtr]
    refine wIf_d (fun h2 => ?_) (fun h2 => ?_)
    · rw [show b = max a (min n b) by omega]; exact hk
    · rw [show n = max a (min n b) by omega]; exact hk
theorem ref09_New {segs room : Int} {k : Value → World → Prop}
    (hk : ∀ w' d, w.heap.size ≤ d → Ex [] w w' → Blk w' d T_ref05_Use (fl (List.replicate (max 1 (min segs 200)).toNat ⟨0, 0, 0⟩)) →
      k (.agg ⟨[.int .i64 (max 1 (min room 4096)), .slice (some ⟨d, 0, none⟩) (max 1 (min segs 200)).toNat (max 1 (min segs 200)).toNat]⟩) w') :
    wCall P n_ref09_New [.int .i64 segs, .int .i64 room] w k := by
  refine call_ref09_New _ _ ?_
  unfold F_ref09_New
  refine alloc_i z_T_ref09_Table rfl fun w1 g1 hg1 hE1 B1 => ?_
  refine ref09_between (by omega) ?_
  refine ref09_between (by omega) ?_
  obtain ⟨n, hn⟩ : ∃ n : Nat, max 1 (min segs 200) = (n : Int) := ⟨(max 1 (min segs 200)).toNat, by omega⟩
  rw [hn, Int.toNat_natCast] at hk
  rw [hn]
  have hi : (P.info? T_ref05_Use).map (fun i => (i.zero, i.size, i.bytes)) = some (some (.agg ⟨[.int .i64 0, .int .i64 0, .int .u32 0]⟩), 3, 24) := by kernel_rfl
  cases hI : P.info? T_ref05_Use with
  | none => rw [hI] at hi; cases hi
  | some i =>
    rw [hI] at hi
    simp only [Option.map_some, Option.some.injEq, Prod.mk.injEq] at hi
    refine make_i (n := n) (bytes := 24) u_T_Lref05_Use hI hi.1 rfl (by simp) hi.2.1 hi.2.2 (by simp; omega) (by omega) fun w2 g2 hg2 hE2 B2 => ?_
    rw [fl_repl] at B2
    rw [bl_T_ref09_Table (cs := [.int .i64 (max 1 (min room 4096)), .slice (some ⟨g2, 0, none⟩) n n]) (by
      rw [fill_cons (off := 0) (size := 1) rfl rfl rfl (by simp), fill_cons (off := 1) (size := 1) rfl rfl rfl (by simp [splice])]
      rfl)]
    have l1 := hE1.le
    refine st_agg g_T_ref09_Table rfl (by simp [isC]) (B1.ex hE2 (by simp)) (by simp) fun w3 hE3 B3 => ?_
    have B3' : Blk w3 g1 T_ref09_Table [.int .i64 (max 1 (min room 4096)), .slice (some ⟨g2, 0, none⟩) n n] := B3
    refine res_agg g_T_ref09_Table B3'.all rfl (hk w3 g2 (by omega) ((hE1.trans hE2).step hE3 (by simp; omega)) (B2.ex hE3 (by have := B1.lt; simp; omega)))
theorem fl_take (us : List U) (n : Nat) : (fl us).take (n * 3) = fl (us.take n) := by
  induction us generalizing n with
  | nil => simp [fl]
  | cons u us ih =>
    cases n with
    | zero => simp [fl]
    | succ n => rw [fl_cons, show (n + 1) * 3 = n * 3 + 1 + 1 + 1 by omega, List.take_succ_cons, List.take_succ_cons, List.take_succ_cons, ih, List.take_succ_cons, fl_cons]
/-- 'append(l, u)' of uses. -/
theorem push_use {base : Nat} {v : Value} {us : List U} {u : U} {K : Value → World → Prop} (ho : Own w base T_codec_Use 3 v (fl us)) (hb : us.length ≤ 100000) (hba : base ≤ w.heap.size)
    (hk : ∀ v' w', Own w' base T_codec_Use 3 v' (fl (us ++ [u])) → Ex v.ownBlock.toList w w' → K v' w') :
    wBuildS P T_Lcodec_Use 1 [(0, .agg ⟨u.cells⟩)] w fun t w => wBuiltin P .append #[T_Lcodec_Use, T_Lcodec_Use] [v, t] w K := by
  refine buildS_1 u_T_Lcodec_Use (sizeOf_agg g_T_codec_Use) z_T_codec_Use (by omega) rfl rfl rfl fun w1 g1 hg1 hE1 B1 => ?_
  have hle := hE1.le
  refine app_T_Lcodec_Use (n := us.length) (m := 1) (ho.ex0 hE1) (SlG.of_cs B1.all rfl (Nat.le_refl _)) (fl_length us) rfl (U.cells_c u) (by omega) (by omega) fun v' w2 hO hE hv => ?_
  refine hk v' w2 (by rw [fl_append]; simpa [fl] using hO) (hE1.nil.trans hE)
end
end Go.Dn
end
section
/-! Law 09: UsageLoads. -/
set_option maxRecDepth 10000
set_option linter.unusedVariables false
set_option linter.unusedSimpArgs false
namespace Go.Dn
open Go
def fineB (R : Int) (u : U) : Bool := decide (0 ≤ u.live) && decide (u.live ≤ R) && decide (0 ≤ u.state) && decide (u.state ≤ 3)
theorem fineB_iff (R : Int) (u : U) : fineB R u = true ↔ fineU R u := by
  unfold fineB fineU
  simp only [Bool.and_eq_true, decide_eq_true_eq]
  omega
theorem okB_iff (R : Int) (us : List U) : ((decide ((0 : Int) < us.length) && decide ((us.length : Int) ≤ 200)) && us.all (fineB R)) = true ↔ loadOk R us := by
  unfold loadOk
  simp only [Bool.and_eq_true, decide_eq_true_eq, List.all_eq_true, fineB_iff]
  rw [← List.length_pos_iff]
  exact ⟨fun ⟨⟨h1, h2⟩, h3⟩ => ⟨by omega, by omega, h3⟩, fun ⟨h1, h2, h3⟩ => ⟨⟨by omega, by omega⟩, h3⟩⟩
section
variable {w : World} {K : Value → World → Prop}
theorem law09_UsageLoads {room : Int} {v : Value} {us0 : List U} {k : Value → World → Prop} (S0 : SlG w 3 v (fl us0)) (hk : ∀ w', Ex [] w w' → k (.bool true) w') : wCall P n_law09_UsageLoads [.int .i64 room, v] w k := by
  refine call_law09_UsageLoads _ _ ?_
  unfold F_law09_UsageLoads
  refine law09_awake fun w1 hE1 => ?_
  rw [un_not, show (!true) = false from rfl, wIf_f]
  have S1 := S0.ex0 hE1
  refine j1_of (fun v1 w' => w' = w1 ∧ ∃ us : List U, us.length ≤ 210 ∧ SlG w1 3 v1 (fl us)) (fun k' hk' => ?_) ?_
  · rw [S1.len_i u_T_Lref05_Use (by omega) (fl_length us0), bin_gtr]
    refine wIf_d (fun hlt => ?_) (fun hge => ?_)
    · refine S1.hi s_T_Lref05_Use (by omega) (fl_length us0) (by omega) (by omega) fun v' _ S' => ?_
      refine hk' _ _ ⟨rfl, us0.take 210, by simp; omega, ?_⟩
      rw [show (210 : Int).toNat * 3 = 210 * 3 from rfl, fl_take] at S'
      exact S'
    · exact hk' _ _ ⟨rfl, us0, by omega, S1⟩
  rintro J v1 w' ⟨rfl, us, hn, S⟩
  refine ref09_New fun w2 d2 hd2 hE2 B2 => ?_
  generalize hR : max 1 (min room 4096) = R
  refine alloc_i z_T_ref09_Table rfl fun w3 g3 hg3 hE3 B3 => ?_
  refine st_agg g_T_ref09_Table rfl (by simp [isC]) B3 (by simp) fun w4 hE4 B4 => ?_
  have E24 : Ex [] w2 w4 := hE3.new hE4 (by omega)
  have S4 := (S.ex0 hE2).ex0 E24
  have B4 : Blk w4 g3 T_ref09_Table [.int .i64 R, .slice (some ⟨d2, 0, none⟩) 1 1] := B4
  rw [S4.len_i u_T_Lref05_Use (by omega) (fl_length us), bin_gtr]
  refine and_i (r := decide ((us.length : Int) ≤ 200)) (fun _ k' hk' => ?_) ?_
  · rw [S4.len_i u_T_Lref05_Use (by omega) (fl_length us), bin_leq]
    exact hk'
  refine j2_of (fun a b w' => Ex [] w4 w' ∧ Own w' w4.heap.size T_codec_Use 3 a (fl us) ∧ b = .bool ((decide ((0 : Int) < us.length) && decide ((us.length : Int) ≤ 200)) && us.all (fineB R))) (fun k' hk' => ?_) ?_
  · rw [S4.len_i u_T_Lref05_Use (by omega) (fl_length us)]
    refine loop_up3 us.length (fun i a b c w' => c = .int .i64 (i : Int) ∧ Ex [] w4 w' ∧ Own w' w4.heap.size T_codec_Use 3 a (fl (us.take i)) ∧ b = .bool ((decide ((0 : Int) < us.length) && decide ((us.length : Int) ≤ 200)) && (us.take i).all (fineB R)))
      ⟨rfl, Ex.refl _ _, Own.nil _ _ _ _, by simp⟩ ?_
    rintro i J a b c w5 k2 hi ⟨rfl, hE5, hO, rfl⟩ hk2
    rw [bin_lss]
    refine wIf_d (fun hlt => ?_) (fun hge => ?_)
    · have hlt : i < us.length := by omega
      have hu := List.getElem?_eq_getElem hlt
      refine (S4.ex0 hE5).ix s_T_Lref05_Use (by omega) (fl_length us) (by omega) (by omega) fun b o hcs => ?_
      rw [Int.toNat_natCast, fl_cell hu] at hcs
      rw [ld_agg g_T_ref05_Use hcs rfl]
      refine alloc_i z_T_ref05_Use rfl fun w6 g6 hg6 hE6 B6 => ?_
      refine st_agg g_T_ref05_Use rfl (U.cells_c _) B6 (by simp) fun w7 hE7 B7 => ?_
      have B7 : Blk w7 g6 T_ref05_Use us[i].cells := B7
      have E57 : Ex [] w5 w7 := hE6.new hE7 (by omega)
      have d0 : w7.cell? ⟨g6, 0, none⟩ = some (.int .i64 us[i].live) := B7.cell 0
      have d1 : w7.cell? ⟨g6, 0 + 1, none⟩ = some (.int .i64 us[i].state) := B7.cell 1
      have d2 : w7.cell? ⟨g6, 0 + 2, none⟩ = some (.int .u32 us[i].age) := B7.cell 2
      simp only [fA_T_ref05_Use_0, fA_T_ref05_Use_1, fA_T_ref05_Use_2, fA_T_ref09_Table_0]
      rw [ld_one o_T_int d0, ld_one o_T_int d1, ld_one o_T_uint32 d2]
      rw [bl_T_codec_Use (cs := us[i].cells) (by
        rw [fill_cons (off := 0) (size := 1) rfl rfl rfl (by simp), fill_cons (off := 1) (size := 1) rfl rfl rfl (by simp [splice]), fill_cons (off := 2) (size := 1) rfl rfl rfl (by simp [splice])]
        rfl)]
      have hle := hE5.le
      have hle2 := E57.le
      refine push_use (hO.ex0 E57) (by rw [List.length_take]; omega) (by omega) fun a' w8 hO8 hE8 => ?_
      have hnb : ∀ x ∈ a.ownBlock.toList, w4.heap.size ≤ x ∧ x < w5.heap.size := by
        intro x hx
        cases hv : a.ownBlock with
        | none => rw [hv] at hx; simp at hx
        | some g =>
          rw [hv] at hx
          simp at hx
          subst hx
          have := hO.blk hv
          exact ⟨this.1, this.2.1⟩
      have E48 : Ex [] w4 w8 := (hE5.trans E57).step hE8 fun y hy => .inr (hnb y hy).1
      have B8 : Blk w8 g6 T_ref05_Use us[i].cells := B7.ex hE8 fun hm => by have := (hnb _ hm).2; omega
      have T8 := B4.ex E48 (by simp)
      have e0 : w8.cell? ⟨g6, 0, none⟩ = some (.int .i64 us[i].live) := B8.cell 0
      have e1 : w8.cell? ⟨g6, 0 + 1, none⟩ = some (.int .i64 us[i].state) := B8.cell 1
      have e2 : w8.cell? ⟨g3, 0, none⟩ = some (.int .i64 R) := T8.cell 0
      simp only [ld_one o_T_int e0, ld_one o_T_int e1, ld_one o_T_int e2, bin_geq, bin_leq, and_p]
      rw [bin_add (by omega)]
      have htk : us.take (i + 1) = us.take i ++ [us[i]] := by rw [List.take_add_one, hu]; rfl
      refine hk2 _ _ _ _ (by omega) ⟨by simp, E48, by rw [htk]; exact hO8, ?_⟩
      rw [htk, List.all_append]
      simp only [List.all_cons, List.all_nil, Bool.and_true, fineB, Bool.and_assoc]
    · obtain rfl : i = us.length := by omega
      rw [List.take_length] at hO ⊢
      exact hk' _ _ _ ⟨hE5, hO, rfl⟩
  rintro J5 a b w5 ⟨hE5, hO5, rfl⟩
  have hok := okB_iff R us
  generalize ((decide ((0 : Int) < us.length) && decide ((us.length : Int) ≤ 200)) && us.all (fineB R)) = ok at hok ⊢
  have E5 : Ex [] w w5 := ((hE1.trans hE2).trans E24).trans hE5
  have S5 := S4.ex0 hE5
  have T5 := B4.ex hE5 (by simp)
  have hb : loadOk R us → ∀ u ∈ us, 0 ≤ u.live ∧ u.live ≤ 1000000 := fun hl u hu => by
    have := hl.2.2 u hu
    unfold fineU at this
    omega
  refine usage_Load hO5.slg (by omega) (fun hno w6 hE6 => ?_) fun hyes w6 h d hh hd hE6 T6 => ?_
  · rw [hR] at hno
    have : ok = false := by cases ok; rfl; exact absurd (hok.1 rfl) hno
    subst this
    rw [ext_0, ext_1, un_not, show (!false) = true from rfl, wIf_t, bin_eql]
    refine and_i (r := true) (fun _ k' hk' => ?_) ?_
    · rw [nil_eq_nil u_T_pusage_Table]; exact hk'
    · exact hk w6 (E5.trans hE6)
  · rw [hR] at hyes T6
    have : ok = true := hok.2 hyes
    subst this
    rw [ext_0, ext_1, un_not, show (!true) = false from rfl, wIf_f]
    have hbb := hb hyes
    have hne := hyes.1
    have hn200 := hyes.2.1
    have T6' := T5.ex hE6 (by simp)
    have S6 := S5.ex0 hE6
    have hv1 : isC v1 = true := by
      obtain ⟨A, n, c, rfl, _⟩ := S
      rfl
    simp only [fA_T_ref09_Table_1]
    refine st_one o_T_Lref05_Use hv1 T6' (by simp) fun w7 hE7 B7 => ?_
    have B7 : Blk w7 g3 T_ref09_Table [.int .i64 R, v1] := B7
    have l2 := hE2.le
    have l4 := E24.le
    have l5 := hE5.le
    have hg3 : g3 < w5.heap.size := by have := B4.lt; omega
    have H7 : Tab w7 h d R us := T6.ex hE7 (by simp; omega) (by simp; omega)
    have hvb : ∀ g, v1.ownBlock = some g → g < w2.heap.size := by
      intro g hg
      obtain ⟨A, n, c, rfl, hl, _, hr⟩ := S
      have hp := List.length_pos_iff.2 hne
      obtain ⟨b, o, rfl, hcs⟩ := hr (by rw [fl_length] at hl; omega)
      have hlt := hcs.lt (by intro e; rw [← List.length_eq_zero_iff, fl_length] at e; omega)
      simp only [Value.ownBlock, Option.some.injEq] at hg
      omega
    have S7 : SlG w7 3 v1 (fl us) := S6.ex hE7 fun g hg hm => by
      have := hvb g hg
      have := hE3.le
      simp at hm
      omega
    rw [bin_neq, decide_eq_false (by simp)]
    refine or_w (r := false) (fun _ k' hk' => ?_) fun w8 hE8 => ?_
    · rw [ld_agg g_T_ref09_Table B7.all rfl]
      refine law09_is H7 S7 hbb (by omega) fun w8 hE8 => ?_
      rw [un_not]
      exact hk' w8 hE8
    rw [Bool.or_false, wIf_f]
    have H8 := H7.ex0 hE8
    have S8 := S7.ex0 hE8
    have B8 := B7.ex hE8 (by simp)
    refine usage_Uses H8 (by omega) fun v9 w9 hE9 hO9 => ?_
    refine usage_Load hO9.slg (by omega) (fun hno => absurd (by rw [hR]; exact hyes) hno) fun _ w10 h2 dd2 hh2 hdd2 hE10 T10 => ?_
    rw [hR] at T10
    rw [ext_0, ext_1]
    obtain ⟨g5, c5, rest, rfl, hc5, hg5, B5⟩ := own_blk hO5 hne
    have hp := List.length_pos_iff.2 hne
    have hlt5 := B5.lt
    have l6 := hE6.le
    have l7 := hE7.le
    have l8 := hE8.le
    have l9 := hE9.le
    have B10 : Blk w10 g5 T_codec_Use (fl us ++ rest) := (((((B5.ex hE6 (by simp)).ex hE7 (by have := B4.lt; simp; omega)).ex hE8 (by simp)).ex hE9 (by simp)).ex hE10 (by simp))
    rw [indexS_i s_T_Lcodec_Use (by omega) (by omega)]
    simp only [fA_T_codec_Use_0]
    refine st_one o_T_int rfl B10 (by rw [List.length_append, fl_length]; simp; omega) fun w11 hE11 _ => ?_
    have H11 : Tab w11 h d R us := ((H8.ex0 hE9).ex0 hE10).ex hE11 (by simp; omega) (by simp; omega)
    have HB11 : Tab w11 h2 dd2 R us := T10.ex hE11 (by simp; omega) (by simp; omega)
    have S11 : SlG w11 3 v1 (fl us) := ((S8.ex0 hE9).ex0 hE10).ex hE11 fun g hg hm => by
      have := hvb g hg
      simp at hm
      omega
    have B11 : Blk w11 g3 T_ref09_Table [.int .i64 R, v1] := ((B8.ex hE9 (by simp)).ex hE10 (by simp)).ex hE11 (by have := B4.lt; simp; omega)
    have E511 : Ex [] w w11 := ((((E5.trans hE6).step hE7 (by intro x hx; right; have := hE1.le; have := hE3.le; simp at hx; omega)).trans hE8).trans hE9 |>.trans hE10).step hE11 (by intro x hx; right; have := hE1.le; simp at hx; omega)
    rw [bin_eql, decide_eq_true rfl]
    refine and_w (r := true) (fun _ k' hk' => ?_) fun w12 hE12 => ?_
    · rw [ld_agg g_T_ref09_Table B11.all rfl]
      exact law09_is HB11 S11 hbb (by omega) hk'
    refine and_w (r := true) (fun _ k' hk' => ?_) fun w13 hE13 => ?_
    · rw [ld_agg g_T_ref09_Table (B11.ex hE12 (by simp)).all rfl]
      exact law09_is (H11.ex0 hE12) (S11.ex0 hE12) hbb (by omega) hk'
    exact hk w13 ((E511.trans hE12).trans hE13)
end
end Go.Dn
end
section
/-! A stable order and lists in it, plain. -/
set_option linter.unusedVariables false
set_option linter.unusedSimpArgs false
namespace Go.Dn
structure Swo (D : Nat → Prop) (bt : Nat → Nat → Bool) : Prop where
  asymm : ∀ i j, D i → D j → bt i j = true → bt j i = false
  neg : ∀ i j k, D i → D j → D k → bt i j = false → bt j k = false → bt i k = false
/-- Better, or as good and ahead. -/
def RR (bt : Nat → Nat → Bool) (i j : Nat) : Prop := bt i j = true ∨ (bt j i = false ∧ i < j)
section
variable {D : Nat → Prop} {bt : Nat → Nat → Bool}
theorem RR.trans (H : Swo D bt) {i j k : Nat} (hi : D i) (hj : D j) (hk : D k) (h1 : RR bt i j) (h2 : RR bt j k) : RR bt i k := by
  cases hik : bt i k
  · right
    rcases h1 with h1 | ⟨h1, h1'⟩
    · rcases h2 with h2 | ⟨h2, h2'⟩
      · have := H.neg i k j hi hk hj hik (H.asymm j k hj hk h2)
        rw [h1] at this; cases this
      · have := H.neg i k j hi hk hj hik h2
        rw [h1] at this; cases this
    · rcases h2 with h2 | ⟨h2, h2'⟩
      · have := H.neg j i k hj hi hk h1 hik
        rw [h2] at this; cases this
      · exact ⟨H.neg k j i hk hj hi h2 h1, by omega⟩
  · exact .inl hik
theorem RR.asymm (H : Swo D bt) {i j : Nat} (hi : D i) (hj : D j) (h1 : RR bt i j) (h2 : RR bt j i) : False := by
  rcases h1 with h1 | ⟨h1, h1'⟩
  · rcases h2 with h2 | ⟨h2, h2'⟩
    · have := H.asymm i j hi hj h1
      rw [h2] at this; cases this
    · rw [h1] at h2; cases h2
  · rcases h2 with h2 | ⟨h2, h2'⟩
    · rw [h2] at h1; cases h1
    · omega
/-- Of one ahead and one behind. -/
theorem RR.of_lt {i j : Nat} (h : i < j) : (bt j i = true → RR bt j i) ∧ (bt j i = false → RR bt i j) := ⟨fun h' => .inl h', fun h' => .inr ⟨h', h⟩⟩
theorem RR.iff_lt (H : Swo D bt) {i j : Nat} (hi : D i) (hj : D j) (h : i < j) : RR bt j i ↔ bt j i = true := by
  constructor
  · rintro (h' | ⟨_, h'⟩)
    · exact h'
    · omega
  · exact .inl
/-- Two lists of the same numbers, each in the order, are one. -/
theorem sorted_unique (H : Swo D bt) : ∀ {l m : List Nat}, l.Perm m → (∀ x ∈ l, D x) → l.Pairwise (RR bt) → m.Pairwise (RR bt) → l = m
  | [], m, hp, _, _, _ => by
    have := hp.length_eq
    exact (List.eq_nil_of_length_eq_zero (by simpa using this.symm)).symm
  | x :: l, [], hp, _, _, _ => by have := hp.length_eq; simp at this
  | x :: l, y :: m, hp, hD, hl, hm => by
    have hxy : x = y := by
      rcases Nat.lt_trichotomy x y with h | h | h
      · exfalso
        have hx : x ∈ y :: m := hp.mem_iff.1 (List.mem_cons_self ..)
        have hy : y ∈ x :: l := hp.mem_iff.2 (List.mem_cons_self ..)
        have h1 : x ∈ m := by rcases List.mem_cons.1 hx with h' | h'; omega; exact h'
        have h2 : y ∈ l := by rcases List.mem_cons.1 hy with h' | h'; omega; exact h'
        exact RR.asymm H (hD x (List.mem_cons_self ..)) (hD y hy) ((List.pairwise_cons.1 hl).1 y h2) ((List.pairwise_cons.1 hm).1 x h1)
      · exact h
      · exfalso
        have hx : x ∈ y :: m := hp.mem_iff.1 (List.mem_cons_self ..)
        have hy : y ∈ x :: l := hp.mem_iff.2 (List.mem_cons_self ..)
        have h1 : x ∈ m := by rcases List.mem_cons.1 hx with h' | h'; omega; exact h'
        have h2 : y ∈ l := by rcases List.mem_cons.1 hy with h' | h'; omega; exact h'
        exact RR.asymm H (hD x (List.mem_cons_self ..)) (hD y hy) ((List.pairwise_cons.1 hl).1 y h2) ((List.pairwise_cons.1 hm).1 x h1)
    subst hxy
    rw [sorted_unique H (List.Perm.cons_inv hp) (fun z hz => hD z (List.mem_cons_of_mem _ hz)) (List.pairwise_cons.1 hl).2 (List.pairwise_cons.1 hm).2]
end
end Go.Dn
end
section
/-! Contracts of the stable sort of package slices, for integers. -/
set_option maxRecDepth 10000
set_option linter.unusedVariables false
set_option linter.unusedSimpArgs false
namespace Go.Dn
open Go
def IR (w : World) (g : Nat) (l : List Nat) (rest : List Value) : Prop := Blk w g T_int (ivs l ++ rest)
abbrev sli (g n c : Nat) : Value := .slice (some ⟨g, 0, none⟩) n c
theorem IR.ex {S : List Nat} {w w' : World} {g : Nat} {l : List Nat} {rest : List Value} (H : IR w g l rest) (hx : Ex S w w') (hg : g ∉ S) : IR w' g l rest := Blk.ex H hx hg
theorem IR.ex0 {w w' : World} {g : Nat} {l : List Nat} {rest : List Value} (H : IR w g l rest) (hx : Ex [] w w') : IR w' g l rest := Blk.ex H hx (by simp)
section
variable {w : World} {K : Value → World → Prop}
theorem ix_sli {g n c : Nat} {i : Int} (h0 : 0 ≤ i) (h1 : i < n) : wIndexA P T_Lint (sli g n c) (.int .i64 i) w K = K (.pointer (some ⟨g, i.toNat, none⟩)) w := by
  rw [indexS_i s_T_Lint h0 h1, Nat.zero_add, Nat.mul_one]
theorem IR.ld {g : Nat} {l : List Nat} {rest : List Value} {i : Int} {x : Nat} (H : IR w g l rest) (hx : l[i.toNat]? = some x) : wLoad P T_int (.pointer (some ⟨g, i.toNat, none⟩)) w K = K (.int .i64 (x : Int)) w :=
  ld_one o_T_int (by rw [Blk.cell H, List.getElem?_append_left (by rw [ivs_length]; exact (List.getElem?_eq_some_iff.1 hx).1)]; exact ivs_get hx)
theorem IR.st {k : World → Prop} {g : Nat} {l : List Nat} {rest : List Value} (H : IR w g l rest) {i : Int} (hi : i.toNat < l.length) {x : Nat} (hk : ∀ w', Ex [g] w w' → IR w' g (l.set i.toNat x) rest → k w') : wStore P T_int (.pointer (some ⟨g, i.toNat, none⟩)) (.int .i64 (x : Int)) w k := by
  refine st_one o_T_int rfl H (by rw [List.length_append, ivs_length]; omega) fun w' hE B => hk w' hE ?_
  unfold IR
  rw [List.set_append_left _ _ (by rw [ivs_length]; exact hi)] at B
  have : (ivs l).set i.toNat (.int .i64 (x : Int)) = ivs (l.set i.toNat x) := by unfold ivs; rw [List.map_set]
  rw [this] at B; exact B
/-- Two neighbours' places, or any two, are changed: the four steps of Go's 'x, y = y, x'. -/
theorem slices_swap {A U M V B : List Nat} {rest : List Value} {a b n : Int} {g N c : Nat} {f : Value} {k : Value → World → Prop} (H : IR w g (A ++ U ++ M ++ V ++ B) rest) (hN : N = (A ++ U ++ M ++ V ++ B).length) (hs : N ≤ 1000000)
    (ha : a = A.length) (hU : (U.length : Int) = n) (hV : V.length = U.length) (hb : b = A.length + U.length + M.length)
    (hk : ∀ w', Ex [g] w w' → IR w' g (A ++ V ++ M ++ U ++ B) rest → k (.tuple #[]) w') : wCall P n_slices_swapRangeCmpFunc_int [sli g N c, .int .i64 a, .int .i64 b, .int .i64 n, f] w k := by
  refine call_slices_swapRangeCmpFunc_int _ _ _ _ _ ?_
  unfold F_slices_swapRangeCmpFunc_int
  subst ha; subst hb; subst hU
  simp only [List.length_append] at hN
  refine loop_up U.length (fun i v w' => v = .int .i64 (i : Int) ∧ Ex [g] w w' ∧ ∃ U0 U1 V0 V1, U = U0 ++ U1 ∧ V = V0 ++ V1 ∧ U0.length = i ∧ V0.length = i ∧ IR w' g (A ++ V0 ++ U1 ++ M ++ U0 ++ V1 ++ B) rest)
    ⟨rfl, Ex.refl _ _, [], U, [], V, rfl, rfl, rfl, rfl, by simpa using H⟩ ?_
  rintro i J v w1 k' hi ⟨rfl, hE, U0, U1, V0, V1, rfl, rfl, h0, h1, H1⟩ hk'
  simp only [List.length_append] at hV hi hN hk' ⊢
  rw [bin_lss]
  refine wIf_d (fun hlt => ?_) (fun hge => ?_)
  · cases U1 with
    | nil => simp at hlt; omega
    | cons u U1 =>
      cases V1 with
      | nil => simp at hV hlt; omega
      | cons v V1 =>
        simp only [List.length_cons] at hV hi hN hk' hlt ⊢
        refine draw_i fun w2 hE2 _ => ?_
        have H2 := H1.ex0 hE2
        have e1 : A ++ V0 ++ u :: U1 ++ M ++ U0 ++ v :: V1 ++ B = (A ++ V0) ++ u :: (U1 ++ M ++ U0 ++ v :: V1 ++ B) := by simp
        have e2 : A ++ V0 ++ u :: U1 ++ M ++ U0 ++ v :: V1 ++ B = (A ++ V0 ++ u :: U1 ++ M ++ U0) ++ v :: (V1 ++ B) := by simp
        have hu : (A ++ V0 ++ u :: U1 ++ M ++ U0 ++ v :: V1 ++ B)[((A.length : Int) + (i : Int)).toNat]? = some u := by
          rw [e1]; exact get_mid (by simp; omega)
        have hv : (A ++ V0 ++ u :: U1 ++ M ++ U0 ++ v :: V1 ++ B)[((A.length : Int) + ((U0.length + (U1.length + 1) : Nat) : Int) + (M.length : Int) + (i : Int)).toNat]? = some v := by
          rw [e2]; exact get_mid (by simp; omega)
        rw [bin_add (by omega), bin_add (by omega), bin_add (by omega), ix_sli (by omega) (by omega), H2.ld hv, bin_add (by omega), ix_sli (by omega) (by omega), H2.ld hu, ix_sli (by omega) (by omega)]
        refine H2.st (by simp; omega) fun w3 hE3 H3 => ?_
        rw [e1, set_mid (by simp; omega)] at H3
        rw [ix_sli (by omega) (by omega)]
        refine H3.st (by simp; omega) fun w4 hE4 H4 => ?_
        have e3 : (A ++ V0) ++ v :: (U1 ++ M ++ U0 ++ v :: V1 ++ B) = (A ++ V0 ++ v :: U1 ++ M ++ U0) ++ v :: (V1 ++ B) := by simp
        rw [e3, set_mid (by simp; omega)] at H4
        rw [bin_add (by omega)]
        refine hk' _ _ (by omega) ⟨by simp, ((hE.trans hE2.nil).trans hE3).trans hE4, U0 ++ [u], U1, V0 ++ [v], V1, by simp, by simp, by simp; omega, by simp; omega, ?_⟩
        have e4 : A ++ (V0 ++ [v]) ++ U1 ++ M ++ (U0 ++ [u]) ++ V1 ++ B = A ++ V0 ++ v :: U1 ++ M ++ U0 ++ u :: (V1 ++ B) := by simp
        rw [e4]; exact H4
  · have hU1 : U1 = [] := List.eq_nil_of_length_eq_zero (by omega)
    have hV1 : V1 = [] := List.eq_nil_of_length_eq_zero (by omega)
    subst hU1; subst hV1
    simp only [List.append_nil] at hk H1 ⊢
    exact hk w1 hE H1
theorem slices_rotate {A X Y B : List Nat} {rest : List Value} {a m b : Int} {g N c : Nat} {f : Value} {k : Value → World → Prop} (H : IR w g (A ++ X ++ Y ++ B) rest) (hN : N = (A ++ X ++ Y ++ B).length) (hs : N ≤ 1000000)
    (ha : a = A.length) (hm : m = A.length + X.length) (hb : b = A.length + X.length + Y.length) (hX : 0 < X.length) (hY : 0 < Y.length)
    (hk : ∀ w', Ex [g] w w' → IR w' g (A ++ Y ++ X ++ B) rest → k (.tuple #[]) w') : wCall P n_slices_rotateCmpFunc_int [sli g N c, .int .i64 a, .int .i64 m, .int .i64 b, f] w k := by
  refine call_slices_rotateCmpFunc_int _ _ _ _ _ ?_
  unfold F_slices_rotateCmpFunc_int
  subst ha; subst hm; subst hb
  have hNl : N = A.length + X.length + Y.length + B.length := by simp at hN; omega
  rw [bin_sub (by omega), bin_sub (by omega)]
  refine j1_of (fun v w' => Ex [g] w w' ∧ ∃ Yd U V Xd, v = .int .i64 (U.length : Int) ∧ U.length = V.length ∧ IR w' g (A ++ Yd ++ U ++ V ++ Xd ++ B) rest ∧ Yd.length + U.length = X.length ∧ Yd ++ V ++ U ++ Xd = Y ++ X) (fun k1 hk1 => ?_) ?_
  · refine loop_m2 (n := X.length + Y.length) (fun n x y w' => Ex [g] w w' ∧ ∃ Yd U V Xd, n = U.length + V.length ∧ x = .int .i64 (U.length : Int) ∧ y = .int .i64 (V.length : Int) ∧ 0 < U.length ∧ 0 < V.length ∧ IR w' g (A ++ Yd ++ U ++ V ++ Xd ++ B) rest ∧ Yd.length + U.length = X.length ∧ Yd ++ V ++ U ++ Xd = Y ++ X)
      ⟨Ex.refl _ _, [], X, Y, [], rfl, by congr 1; omega, by congr 1; omega, hX, hY, by simpa using H, by simp, by simp⟩ ?_
    rintro n J x y w1 k2 ⟨hE, Yd, U, V, Xd, rfl, rfl, rfl, hU, hV, H1, h1, h2⟩ hk2
    have hlen : Yd.length + V.length + U.length + Xd.length = Y.length + X.length := by
      have := congrArg List.length h2
      simp at this
      omega
    rw [bin_neq]
    refine wIf_d (fun hne => ?_) (fun heq => ?_)
    · rw [bin_gtr]
      refine wIf_d (fun hgt => ?_) (fun hle => ?_)
      · rw [bin_sub (by omega)]
        obtain ⟨U1, U2, rfl, hl⟩ : ∃ U1 U2, U = U1 ++ U2 ∧ U1.length = V.length := ⟨U.take V.length, U.drop V.length, by simp, by rw [List.length_take]; omega⟩
        simp only [List.length_append] at *
        refine slices_swap (A := A ++ Yd) (U := U1) (M := U2) (V := V) (B := Xd ++ B) (by simpa using H1) (by simp; omega) hs (by simp; omega) (by omega) hl.symm (by simp; omega) fun w2 hE2 H2 => ?_
        rw [bin_sub (by omega)]
        refine hk2 (U2.length + U1.length) _ _ _ (by omega) ⟨hE.trans hE2, Yd ++ V, U2, U1, Xd, by omega, by congr 1; omega, by congr 1; omega, by omega, by omega, by simpa using H2, by simp; omega, ?_⟩
        rw [← h2]; simp
      · rw [bin_sub (by omega), bin_add (by omega), bin_sub (by omega)]
        obtain ⟨V1, V2, rfl, hl⟩ : ∃ V1 V2, V = V1 ++ V2 ∧ V2.length = U.length := ⟨V.take (V.length - U.length), V.drop (V.length - U.length), by simp, by rw [List.length_drop]; omega⟩
        simp only [List.length_append] at *
        refine slices_swap (A := A ++ Yd) (U := U) (M := V1) (V := V2) (B := Xd ++ B) (by simpa using H1) (by simp; omega) hs (by simp; omega) rfl hl (by simp; omega) fun w2 hE2 H2 => ?_
        rw [bin_sub (by omega)]
        refine hk2 (V2.length + V1.length) _ _ _ (by omega) ⟨hE.trans hE2, Yd, V2, V1, U ++ Xd, by omega, by congr 1; omega, by congr 1; omega, by omega, by omega, by simpa using H2, by omega, ?_⟩
        rw [← h2]; simp
    · exact hk1 _ _ ⟨hE, Yd, U, V, Xd, rfl, by omega, H1, h1, h2⟩
  · rintro J v w1 ⟨hE, Yd, U, V, Xd, rfl, hUV, H1, h1, h2⟩
    have hlen : Yd.length + V.length + U.length + Xd.length = Y.length + X.length := by
      have := congrArg List.length h2
      simp at this
      omega
    rw [bin_sub (by omega)]
    refine slices_swap (A := A ++ Yd) (U := U) (M := []) (V := V) (B := Xd ++ B) (by simpa using H1) (by simp; omega) hs (by simp; omega) rfl hUV.symm (by simp; omega) fun w2 hE2 H2 => ?_
    refine hk w2 (hE.trans hE2) ?_
    have e : A ++ Y ++ X ++ B = A ++ Yd ++ V ++ [] ++ U ++ (Xd ++ B) := by
      have : A ++ (Y ++ X) ++ B = A ++ (Yd ++ V ++ U ++ Xd) ++ B := by rw [h2]
      simpa using this
    rw [e]; exact H2
/-- What a comparison tells. -/
structure Cmp (f : Value) (g : Nat) (D : Nat → Prop) (bt : Nat → Nat → Bool) (I : World → Prop) : Prop where
  call : ∀ x y, D x → D y → ∀ (w : World) (k : Value → World → Prop), I w → (∀ w' (c : Int), Ex [] w w' → (c < 0 ↔ bt x y = true) → k (.int .i64 c) w') → wCallV P f [.int .i64 (x : Int), .int .i64 (y : Int)] w k
  keep : ∀ w w', I w → Ex [g] w w' → I w'
theorem pw_mid {bt : Nat → Nat → Bool} {D : Nat → Prop} (S : Swo D bt) {A B : List Nat} {y : Nat} (hD : ∀ x ∈ A ++ B, D x) (hy : D y) (h : (A ++ B).Pairwise (RR bt)) (h1 : ∀ a, A.getLast? = some a → RR bt a y) (h2 : ∀ b ∈ B, RR bt y b) : (A ++ y :: B).Pairwise (RR bt) := by
  rw [List.pairwise_append] at h ⊢
  obtain ⟨hA, hB, hAB⟩ := h
  have hAy : ∀ a ∈ A, RR bt a y := by
    intro a ha
    rcases List.eq_nil_or_concat A with rfl | ⟨A', z, rfl⟩
    · simp at ha
    · have hz := h1 z (by simp)
      rw [List.concat_eq_append, List.mem_append] at ha
      rcases ha with ha | ha
      · rw [List.concat_eq_append, List.pairwise_append] at hA
        exact RR.trans S (hD a (by simp [ha])) (hD z (by simp)) hy (hA.2.2 a ha z (by simp)) hz
      · simp at ha; subst ha; exact hz
  refine ⟨hA, List.pairwise_cons.2 ⟨h2, hB⟩, fun a ha b hb => ?_⟩
  rcases List.mem_cons.1 hb with rfl | hb
  · exact hAy a ha
  · exact hAB a ha b hb
theorem slices_insertion {A X B : List Nat} {rest : List Value} {a b : Int} {g N c : Nat} {f : Value} {D : Nat → Prop} {bt : Nat → Nat → Bool} {I : World → Prop} {k : Value → World → Prop} (C : Cmp f g D bt I) (S : Swo D bt) (hI : I w)
    (H : IR w g (A ++ X ++ B) rest) (hN : N = (A ++ X ++ B).length) (hs : N ≤ 1000000) (ha : a = A.length) (hb : b = A.length + X.length) (hD : ∀ x ∈ X, D x) (hX : X.Pairwise (· < ·))
    (hk : ∀ w' X', Ex [g] w w' → IR w' g (A ++ X' ++ B) rest → X'.Perm X → X'.Pairwise (RR bt) → k (.tuple #[]) w') : wCall P n_slices_insertionSortCmpFunc_int [sli g N c, .int .i64 a, .int .i64 b, f] w k := by
  refine call_slices_insertionSortCmpFunc_int _ _ _ _ ?_
  unfold F_slices_insertionSortCmpFunc_int
  subst ha; subst hb
  have hNl : N = A.length + X.length + B.length := by simp at hN; omega
  rw [bin_add (by omega)]
  cases hXc : X with
  | nil =>
    subst hXc
    refine loop_up 0 (fun i v w' => v = .int .i64 ((A.length : Int) + 1) ∧ w' = w) ⟨rfl, rfl⟩ ?_
    rintro i J v w1 k1 hi ⟨rfl, rfl⟩ _
    rw [bin_lss, wIf_df (by simp; omega)]
    exact hk w1 [] (Ex.refl _ _) H (List.Perm.refl _) List.Pairwise.nil
  | cons x0 X0 =>
    rw [← hXc]
    refine loop_m1 (n := X0.length) (fun n v w' => Ex [g] w w' ∧ ∃ S1 T, n = T.length ∧ v = .int .i64 ((A.length : Int) + (S1.length : Int)) ∧ IR w' g (A ++ S1 ++ T ++ B) rest ∧ S1.Pairwise (RR bt) ∧ (S1 ++ T).Perm X ∧ (∀ s ∈ S1, ∀ t ∈ T, s < t) ∧ T.Pairwise (· < ·))
      ⟨Ex.refl _ _, [x0], X0, rfl, rfl, by rw [hXc] at H; simpa using H, by simp, by rw [hXc]; exact List.Perm.refl _, ?_, ?_⟩ ?_
    · rw [hXc] at hX; intro s hs' t ht; simp at hs'; subst hs'; exact (List.pairwise_cons.1 hX).1 t ht
    · rw [hXc] at hX; exact (List.pairwise_cons.1 hX).2
    rintro n J v w1 k1 ⟨hE, S1, T, rfl, rfl, H1, hp, hperm, hlt, hT⟩ hk1
    have hlen : S1.length + T.length = X.length := by have := hperm.length_eq; simpa using this
    have hD1 : ∀ z ∈ S1 ++ T, D z := fun z hz => hD z (hperm.mem_iff.1 hz)
    rw [bin_lss]
    refine wIf_d (fun hl => ?_) (fun hge => ?_)
    · cases T with
      | nil => simp at hlen; omega
      | cons y T =>
        have hDy : D y := hD1 y (by simp)
        have hDS : ∀ z ∈ S1, D z := fun z hz => hD1 z (by simp [hz])
        have hyS : ∀ s ∈ S1, s < y := fun s hs' => hlt s hs' y (List.mem_cons_self ..)
        simp only [List.length_cons] at hlen hk1
        refine j0_of (fun w' => Ex [g] w w' ∧ ∃ S2, IR w' g (A ++ S2 ++ T ++ B) rest ∧ S2.Perm (y :: S1) ∧ S2.Pairwise (RR bt)) (fun k3 hk3 => ?_) ?_
        · refine loop_m1 (n := S1.length) (fun n v w' => Ex [g] w w' ∧ ∃ P1 P2, S1 = P1 ++ P2 ∧ n = P1.length ∧ v = .int .i64 ((A.length : Int) + (P1.length : Int)) ∧ IR w' g (A ++ P1 ++ y :: P2 ++ T ++ B) rest ∧ ∀ s ∈ P2, RR bt y s)
            ⟨hE, S1, [], by simp, rfl, rfl, by simpa using H1, by simp⟩ ?_
          rintro n J v w2 k4 ⟨hE2, P1, P2, rfl, rfl, rfl, H2, hR⟩ hk4
          simp only [List.length_append] at hlen
          refine draw_i fun w3 hE3 _ => ?_
          have H3 := H2.ex0 hE3
          have E3 := hE2.trans hE3.nil
          rw [bin_gtr]
          have done : ∀ w4, Ex [g] w w4 → IR w4 g (A ++ P1 ++ y :: P2 ++ T ++ B) rest → (∀ p, P1.getLast? = some p → RR bt p y) → k3 w4 := fun w4 hE4 H4 hlast =>
            hk3 w4 ⟨hE4, P1 ++ y :: P2, by simpa using H4, List.perm_middle, pw_mid S hDS hDy hp hlast hR⟩
          rcases List.eq_nil_or_concat P1 with rfl | ⟨P1', s, rfl⟩
          · refine and_w (r := false) (fun h => absurd h (by simp)) fun w4 hE4 => ?_
            rw [Bool.and_false, wIf_f]
            exact done w4 (E3.trans hE4.nil) (H3.ex0 hE4) (by simp)
          · simp only [List.concat_eq_append, List.length_append, List.length_singleton] at hlen hyS done H3 hDS hk4 ⊢
            have e1 : A ++ (P1' ++ [s]) ++ y :: P2 ++ T ++ B = (A ++ P1' ++ [s]) ++ y :: (P2 ++ T ++ B) := by simp
            have e2 : A ++ (P1' ++ [s]) ++ y :: P2 ++ T ++ B = (A ++ P1') ++ s :: (y :: P2 ++ T ++ B) := by simp
            have hy1 : (A ++ (P1' ++ [s]) ++ y :: P2 ++ T ++ B)[((A.length : Int) + ((P1'.length + 1 : Nat) : Int)).toNat]? = some y := by rw [e1]; exact get_mid (by simp; omega)
            have hs1 : (A ++ (P1' ++ [s]) ++ y :: P2 ++ T ++ B)[((A.length : Int) + ((P1'.length + 1 : Nat) : Int) - 1).toNat]? = some s := by rw [e2]; exact get_mid (by simp; omega)
            refine and_w (r := bt y s) (fun _ k' hk' => ?_) fun w4 hE4 => ?_
            · rw [ix_sli (by omega) (by omega), H3.ld hy1, bin_sub (by omega), ix_sli (by omega) (by omega), H3.ld hs1]
              refine C.call y s hDy (hDS s (by simp)) w3 _ (C.keep _ _ hI E3) fun w4 cc hE4 hcc => ?_
              rw [bin_lss]
              have : decide (cc < 0) = bt y s := by rw [Bool.eq_iff_iff, decide_eq_true_eq]; exact hcc
              rw [this]
              exact hk' w4 hE4
            · have H4 := H3.ex0 hE4
              have E4 := E3.trans hE4.nil
              rw [show decide ((A.length : Int) < (A.length : Int) + ((P1'.length + 1 : Nat) : Int)) = true by simp; omega, Bool.true_and]
              refine wIf_i _ (fun hb => ?_) (fun hb => ?_)
              · refine draw_i fun w5 hE5 _ => ?_
                have H5 := H4.ex0 hE5
                rw [bin_sub (by omega), bin_sub (by omega), ix_sli (by omega) (by omega), H5.ld hs1, ix_sli (by omega) (by omega), H5.ld hy1, ix_sli (by omega) (by omega)]
                refine H5.st (by simp; omega) fun w6 hE6 H6 => ?_
                rw [e1, set_mid (by simp; omega)] at H6
                rw [ix_sli (by omega) (by omega)]
                refine H6.st (by simp; omega) fun w7 hE7 H7 => ?_
                have e3 : (A ++ P1' ++ [s]) ++ s :: (P2 ++ T ++ B) = (A ++ P1') ++ s :: (s :: (P2 ++ T ++ B)) := by simp
                rw [e3, set_mid (by simp; omega)] at H7
                rw [bin_sub (by omega)]
                refine hk4 P1'.length _ _ (by omega) ⟨((E4.trans hE5.nil).trans hE6).trans hE7, P1', s :: P2, by simp, rfl, by congr 1; omega, ?_, ?_⟩
                · have : A ++ P1' ++ y :: (s :: P2) ++ T ++ B = (A ++ P1') ++ y :: (s :: (P2 ++ T ++ B)) := by simp
                  rw [this]; exact H7
                · intro z hz
                  rcases List.mem_cons.1 hz with rfl | hz
                  · exact .inl hb
                  · exact hR z hz
              · refine done w4 E4 H4 fun p hpl => ?_
                simp at hpl
                subst hpl
                exact .inr ⟨hb, hyS s (by simp)⟩
        · rintro J2 w2 ⟨hE2, S2, H2, hp2, hs2⟩
          rw [bin_add (by omega)]
          have hl2 : S2.length = S1.length + 1 := by have := hp2.length_eq; simpa using this
          refine hk1 T.length _ _ (by omega) ⟨hE2, S2, T, rfl, by congr 1; omega, H2, hs2, ?_, ?_, (List.pairwise_cons.1 hT).2⟩
          · refine (List.Perm.append_right T hp2).trans (List.Perm.trans ?_ hperm)
            exact (List.perm_middle (l₁ := S1) (a := y) (l₂ := T)).symm
          · intro s hs' t ht
            rcases List.mem_cons.1 (hp2.mem_iff.1 hs') with rfl | hs'
            · exact (List.pairwise_cons.1 hT).1 t ht
            · exact hlt s hs' t (List.mem_cons_of_mem _ ht)
    · have hT0 : T = [] := List.eq_nil_of_length_eq_zero (by omega)
      subst hT0
      rw [List.append_nil] at hperm H1
      exact hk w1 S1 hE H1 hperm hp
theorem half_i {s : Nat} (h : s ≤ 4000000) : (wConv P T_int T_uint (.int .i64 (s : Int)) w fun t w => wBin P .shr T_uint t (.int .u64 1) w fun t w => wConv P T_uint T_int t w K) = K (.int .i64 ((s / 2 : Nat) : Int)) w := by
  rw [conv_i i_T_int i_T_uint]
  have e1 : IntKind.wrap .u64 (s : Int) = (s : Int) := IntWalk.u64_in _ (by omega)
  rw [e1, bin_shr (by omega), conv_i i_T_uint i_T_int]
  have e2 : (s : Int).fdiv (2 ^ (min (1 : Int).toNat IntKind.u64.bits)) = ((s / 2 : Nat) : Int) := by
    rw [Int.fdiv_eq_ediv_of_nonneg _ (by decide)]
    rfl
  rw [e2, IntWalk.i64_in _ (by omega)]
end
end Go.Dn
end
section
/-! Contracts of the stable sort: symMerge. -/
set_option maxRecDepth 10000
set_option linter.unusedVariables false
set_option linter.unusedSimpArgs false
namespace Go.Dn
open Go
section
variable {w : World} {K : Value → World → Prop}
/-- Sorted by the order: what is behind stands behind. -/
theorem pw_get {bt : Nat → Nat → Bool} {l : List Nat} (h : l.Pairwise (RR bt)) {i j : Nat} {x y : Nat} (hij : i < j) (hx : l[i]? = some x) (hy : l[j]? = some y) : RR bt x y := by
  obtain ⟨h1, rfl⟩ := List.getElem?_eq_some_iff.1 hx
  obtain ⟨h2, rfl⟩ := List.getElem?_eq_some_iff.1 hy
  exact List.pairwise_iff_getElem.1 h i j h1 h2 hij
structure SymH (A X Y B : List Nat) (N : Nat) (D : Nat → Prop) (bt : Nat → Nat → Bool) : Prop where
  len : N = A.length + X.length + Y.length + B.length
  small : N ≤ 1000000
  hD : ∀ x ∈ X ++ Y, D x
  hX : X.Pairwise (RR bt)
  hY : Y.Pairwise (RR bt)
  lt : ∀ x ∈ X, ∀ y ∈ Y, x < y
/-- One on the left. -/
theorem slices_sym_l {A Y B : List Nat} {x : Nat} {rest : List Value} {a m b : Int} {g N c : Nat} {f : Value} {D : Nat → Prop} {bt : Nat → Nat → Bool} {I : World → Prop} {k : Value → World → Prop} (C : Cmp f g D bt I) (S : Swo D bt) (hI : I w)
    (H : IR w g (A ++ [x] ++ Y ++ B) rest) (h : SymH A [x] Y B N D bt) (ha : a = A.length) (hm : m = A.length + 1) (hb : b = A.length + 1 + Y.length)
    (hk : ∀ w' Z, Ex [g] w w' → IR w' g (A ++ Z ++ B) rest → Z.Perm ([x] ++ Y) → Z.Pairwise (RR bt) → k (.tuple #[]) w') : wCall P n_slices_symMergeCmpFunc_int [sli g N c, .int .i64 a, .int .i64 m, .int .i64 b, f] w k := by
  refine call_slices_symMergeCmpFunc_int _ _ _ _ _ ?_
  unfold F_slices_symMergeCmpFunc_int
  have hNl := h.len
  have hs := h.small
  simp only [List.length_singleton] at hNl
  subst ha; subst hm; subst hb
  refine j0_of (fun _ => False) (fun k1 _ => ?_) fun _ _ h => h.elim
  rw [bin_sub (by omega), bin_eql, wIf_dt (by omega)]
  have hDx : D x := h.hD x (by simp)
  have hDY : ∀ y ∈ Y, D y := fun y hy => h.hD y (by simp [hy])
  have hlt : ∀ y ∈ Y, x < y := fun y hy => h.lt x (by simp) y hy
  refine j1_of (fun v w' => Ex [g] w w' ∧ ∃ Y1 Y2, Y = Y1 ++ Y2 ∧ v = .int .i64 ((A.length : Int) + 1 + (Y1.length : Int)) ∧ IR w' g (A ++ [x] ++ Y ++ B) rest ∧ (∀ y ∈ Y1, RR bt y x) ∧ ∀ y ∈ Y2, RR bt x y) (fun k3 hk3 => ?_) ?_
  · refine loop_m2 (n := Y.length) (fun n u v w' => Ex [g] w w' ∧ ∃ Y1 Ym Y2, Y = Y1 ++ Ym ++ Y2 ∧ n = Ym.length ∧ u = .int .i64 ((A.length : Int) + 1 + (Y1.length : Int)) ∧ v = .int .i64 ((A.length : Int) + 1 + (Y1.length : Int) + (Ym.length : Int)) ∧ IR w' g (A ++ [x] ++ Y ++ B) rest ∧ (∀ y ∈ Y1, RR bt y x) ∧ ∀ y ∈ Y2, RR bt x y)
      ⟨Ex.refl _ _, [], Y, [], by simp, rfl, by simp, by simp, H, by simp, by simp⟩ ?_
    rintro n J u v w1 k4 ⟨hE, Y1, Ym, Y2, hYe, rfl, rfl, rfl, H1, h1, h2⟩ hk4
    have hlen : Y.length = Y1.length + Ym.length + Y2.length := by rw [hYe]; simp; omega
    rw [bin_lss]
    refine wIf_d (fun hl => ?_) (fun hge => ?_)
    · rw [bin_add (by omega)]
      have es : ((A.length : Int) + 1 + (Y1.length : Int) + ((A.length : Int) + 1 + (Y1.length : Int) + (Ym.length : Int))) = ((2 * (A.length + 1 + Y1.length) + Ym.length : Nat) : Int) := by omega
      rw [es, half_i (by omega)]
      obtain ⟨P1, z, Q1, rfl, hP⟩ : ∃ P1 z Q1, Ym = P1 ++ z :: Q1 ∧ P1.length = Ym.length / 2 := by
        have hlt2 : Ym.length / 2 < Ym.length := by omega
        refine ⟨Ym.take (Ym.length / 2), Ym[Ym.length / 2], Ym.drop (Ym.length / 2 + 1), ?_, by rw [List.length_take]; omega⟩
        rw [← List.drop_eq_getElem_cons hlt2, List.take_append_drop]
      have eh : (2 * (A.length + 1 + Y1.length) + (P1 ++ z :: Q1).length) / 2 = A.length + 1 + Y1.length + P1.length := by rw [hP]; omega
      rw [eh]
      simp only [List.length_append, List.length_cons] at hlen hP hk4 hl
      have hz : z ∈ Y := by rw [hYe]; simp
      have e1 : A ++ [x] ++ Y ++ B = (A ++ [x] ++ Y1 ++ P1) ++ z :: (Q1 ++ Y2 ++ B) := by rw [hYe]; simp
      have hz1 : (A ++ [x] ++ Y ++ B)[(((A.length + 1 + Y1.length + P1.length : Nat)) : Int).toNat]? = some z := by rw [e1]; exact get_mid (by simp; omega)
      have hx1 : (A ++ [x] ++ Y ++ B)[((A.length : Nat) : Int).toNat]? = some x := by
        rw [show A ++ [x] ++ Y ++ B = A ++ x :: (Y ++ B) by simp]; exact get_mid (by simp)
      refine draw_i fun w2 hE2 _ => ?_
      have H2 := H1.ex0 hE2
      have E2 := hE.trans hE2.nil
      rw [ix_sli (by omega) (by omega), H2.ld hz1, ix_sli (by omega) (by omega), H2.ld hx1]
      refine C.call z x (hDY z hz) hDx w2 _ (C.keep _ _ hI E2) fun w3 cc hE3 hcc => ?_
      have H3 := H2.ex0 hE3
      have E3 := E2.trans hE3.nil
      rw [bin_lss]
      have hYp : (Y1 ++ (P1 ++ z :: Q1) ++ Y2).Pairwise (RR bt) := by rw [← hYe]; exact h.hY
      refine wIf_d (fun hc => ?_) (fun hc => ?_)
      · rw [bin_add (by omega)]
        have hzx : RR bt z x := .inl (hcc.1 hc)
        refine hk4 Q1.length _ _ _ (by omega) ⟨E3, Y1 ++ P1 ++ [z], Q1, Y2, by rw [hYe]; simp, rfl, by first | rfl | (simp; done) | (congr 1; simp; omega) | (congr 1; omega), by first | rfl | (simp; done) | (congr 1; simp; omega) | (congr 1; omega), H3, ?_, h2⟩
        intro y hy
        simp only [List.mem_append, List.mem_singleton] at hy
        rcases hy with (hy | hy) | rfl
        · exact h1 y hy
        · refine RR.trans S (hDY y (by rw [hYe]; simp [hy])) (hDY z hz) hDx ?_ hzx
          rw [List.pairwise_append, List.pairwise_append, List.pairwise_append] at hYp
          exact hYp.1.2.1.2.2 y hy z (by simp)
        · exact hzx
      · have hxz : RR bt x z := by
          refine .inr ⟨?_, hlt z hz⟩
          cases hbt : bt z x with
          | false => rfl
          | true => exact absurd (hcc.2 hbt) hc
        refine hk4 P1.length _ _ _ (by omega) ⟨E3, Y1, P1, z :: Q1 ++ Y2, by rw [hYe]; simp, rfl, rfl, by first | rfl | (congr 1; omega), H3, h1, ?_⟩
        intro y hy
        simp only [List.mem_append, List.mem_cons] at hy
        rcases hy with (rfl | hy) | hy
        · exact hxz
        · refine RR.trans S hDx (hDY z hz) (hDY y (by rw [hYe]; simp [hy])) hxz ?_
          rw [List.pairwise_append, List.pairwise_append, List.pairwise_append] at hYp
          exact (List.pairwise_cons.1 hYp.1.2.1.2.1).1 y hy
        · exact h2 y hy
    · have hm0 : Ym = [] := List.eq_nil_of_length_eq_zero (by omega)
      subst hm0
      exact hk3 _ _ ⟨hE, Y1, Y2, by rw [hYe]; simp, rfl, H1, h1, h2⟩
  · rintro J v w1 ⟨hE, Y1, Y2, rfl, rfl, H1, h1, h2⟩
    simp only [List.length_append] at hNl
    refine loop_m1 (n := Y1.length) (fun n v w' => Ex [g] w w' ∧ ∃ P1 Q1, Y1 = P1 ++ Q1 ∧ n = Q1.length ∧ v = .int .i64 ((A.length : Int) + (P1.length : Int)) ∧ IR w' g (A ++ P1 ++ x :: Q1 ++ Y2 ++ B) rest)
      ⟨hE, [], Y1, rfl, rfl, by simp, by simpa using H1⟩ ?_
    rintro n J v w2 k3 ⟨hE2, P1, Q1, rfl, rfl, rfl, H2⟩ hk3
    simp only [List.length_append] at hNl
    rw [bin_sub (by simp; omega), bin_lss]
    refine wIf_d (fun hl => ?_) (fun hge => ?_)
    · cases Q1 with
      | nil => exfalso; simp at hl <;> omega
      | cons q Q1 =>
        simp only [List.length_cons, List.length_append] at hNl hk3 hl
        have e1 : A ++ P1 ++ x :: q :: Q1 ++ Y2 ++ B = (A ++ P1) ++ x :: (q :: Q1 ++ Y2 ++ B) := by simp
        have e2 : A ++ P1 ++ x :: q :: Q1 ++ Y2 ++ B = (A ++ P1 ++ [x]) ++ q :: (Q1 ++ Y2 ++ B) := by simp
        have hx1 : (A ++ P1 ++ x :: q :: Q1 ++ Y2 ++ B)[((A.length : Int) + (P1.length : Int)).toNat]? = some x := by rw [e1]; exact get_mid (by simp; omega)
        have hq1 : (A ++ P1 ++ x :: q :: Q1 ++ Y2 ++ B)[((A.length : Int) + (P1.length : Int) + 1).toNat]? = some q := by rw [e2]; exact get_mid (by simp; omega)
        refine draw_i fun w3 hE3 _ => ?_
        have H3 := H2.ex0 hE3
        rw [bin_add (by omega), bin_add (by omega), ix_sli (by omega) (by omega), H3.ld hq1, ix_sli (by omega) (by omega), H3.ld hx1, ix_sli (by omega) (by omega)]
        refine H3.st (by simp; omega) fun w4 hE4 H4 => ?_
        rw [e1, set_mid (by simp; omega)] at H4
        rw [ix_sli (by omega) (by omega)]
        refine H4.st (by simp; omega) fun w5 hE5 H5 => ?_
        have e3 : (A ++ P1) ++ q :: (q :: Q1 ++ Y2 ++ B) = (A ++ P1 ++ [q]) ++ q :: (Q1 ++ Y2 ++ B) := by simp
        rw [e3, set_mid (by simp; omega)] at H5
        rw [bin_add (by omega)]
        refine hk3 Q1.length _ _ (by omega) ⟨((hE2.trans hE3.nil).trans hE4).trans hE5, P1 ++ [q], Q1, by simp, rfl, by first | rfl | (simp; done) | (congr 1; simp; omega) | (congr 1; omega), ?_⟩
        have : A ++ (P1 ++ [q]) ++ x :: Q1 ++ Y2 ++ B = (A ++ P1 ++ [q]) ++ x :: (Q1 ++ Y2 ++ B) := by simp
        rw [this]; exact H5
    · have hq0 : Q1 = [] := List.eq_nil_of_length_eq_zero (by simp at hge; omega)
      subst hq0
      simp only [List.append_nil] at *
      refine hk w2 (P1 ++ x :: Y2) hE2 (by simpa using H2) ?_ ?_
      · exact List.perm_middle (l₁ := P1) (a := x) (l₂ := Y2)
      · have hYp := h.hY
        refine pw_mid S hDY hDx hYp (fun p hp => h1 p (List.mem_of_getLast? hp)) h2
/-- One on the right. -/
theorem slices_sym_r {A X B : List Nat} {y : Nat} {rest : List Value} {a m b : Int} {g N c : Nat} {f : Value} {D : Nat → Prop} {bt : Nat → Nat → Bool} {I : World → Prop} {k : Value → World → Prop} (C : Cmp f g D bt I) (S : Swo D bt) (hI : I w)
    (H : IR w g (A ++ X ++ [y] ++ B) rest) (h : SymH A X [y] B N D bt) (h2 : 2 ≤ X.length) (ha : a = A.length) (hm : m = A.length + X.length) (hb : b = A.length + X.length + 1)
    (hk : ∀ w' Z, Ex [g] w w' → IR w' g (A ++ Z ++ B) rest → Z.Perm (X ++ [y]) → Z.Pairwise (RR bt) → k (.tuple #[]) w') : wCall P n_slices_symMergeCmpFunc_int [sli g N c, .int .i64 a, .int .i64 m, .int .i64 b, f] w k := by
  refine call_slices_symMergeCmpFunc_int _ _ _ _ _ ?_
  unfold F_slices_symMergeCmpFunc_int
  have hNl := h.len
  have hs := h.small
  simp only [List.length_singleton] at hNl
  subst ha; subst hm; subst hb
  refine j0_of (fun w' => w = w') (fun k1 hk1 => ?_) ?_
  · rw [bin_sub (by omega), bin_eql, wIf_df (by omega)]
    exact hk1 w rfl
  rintro J w' rfl
  refine j0_of (fun _ => False) (fun k1 _ => ?_) fun _ _ h => h.elim
  rw [bin_sub (by omega), bin_eql, wIf_dt (by omega)]
  have hDy : D y := h.hD y (by simp)
  have hDX : ∀ x ∈ X, D x := fun x hx => h.hD x (by simp [hx])
  have hlt : ∀ x ∈ X, x < y := fun x hx => h.lt x hx y (by simp)
  refine j1_of (fun v w' => Ex [g] w w' ∧ ∃ X1 X2, X = X1 ++ X2 ∧ v = .int .i64 ((A.length : Int) + (X1.length : Int)) ∧ IR w' g (A ++ X ++ [y] ++ B) rest ∧ (∀ x ∈ X1, RR bt x y) ∧ ∀ x ∈ X2, RR bt y x) (fun k3 hk3 => ?_) ?_
  · refine loop_m2 (n := X.length) (fun n u v w' => Ex [g] w w' ∧ ∃ X1 Xm X2, X = X1 ++ Xm ++ X2 ∧ n = Xm.length ∧ u = .int .i64 ((A.length : Int) + (X1.length : Int)) ∧ v = .int .i64 ((A.length : Int) + (X1.length : Int) + (Xm.length : Int)) ∧ IR w' g (A ++ X ++ [y] ++ B) rest ∧ (∀ x ∈ X1, RR bt x y) ∧ ∀ x ∈ X2, RR bt y x)
      ⟨Ex.refl _ _, [], X, [], by simp, rfl, by simp, by simp, H, by simp, by simp⟩ ?_
    rintro n J u v w1 k4 ⟨hE, X1, Xm, X2, hXe, rfl, rfl, rfl, H1, h1, h2'⟩ hk4
    have hlen : X.length = X1.length + Xm.length + X2.length := by rw [hXe]; simp; omega
    rw [bin_lss]
    refine wIf_d (fun hl => ?_) (fun hge => ?_)
    · rw [bin_add (by omega)]
      have es : ((A.length : Int) + (X1.length : Int) + ((A.length : Int) + (X1.length : Int) + (Xm.length : Int))) = ((2 * (A.length + X1.length) + Xm.length : Nat) : Int) := by omega
      rw [es, half_i (by omega)]
      obtain ⟨P1, z, Q1, rfl, hP⟩ : ∃ P1 z Q1, Xm = P1 ++ z :: Q1 ∧ P1.length = Xm.length / 2 := by
        have hlt2 : Xm.length / 2 < Xm.length := by omega
        refine ⟨Xm.take (Xm.length / 2), Xm[Xm.length / 2], Xm.drop (Xm.length / 2 + 1), ?_, by rw [List.length_take]; omega⟩
        rw [← List.drop_eq_getElem_cons hlt2, List.take_append_drop]
      have eh : (2 * (A.length + X1.length) + (P1 ++ z :: Q1).length) / 2 = A.length + X1.length + P1.length := by rw [hP]; omega
      rw [eh]
      simp only [List.length_append, List.length_cons] at hlen hP hk4 hl
      have hz : z ∈ X := by rw [hXe]; simp
      have e1 : A ++ X ++ [y] ++ B = (A ++ X1 ++ P1) ++ z :: (Q1 ++ X2 ++ [y] ++ B) := by rw [hXe]; simp
      have hz1 : (A ++ X ++ [y] ++ B)[(((A.length + X1.length + P1.length : Nat)) : Int).toNat]? = some z := by rw [e1]; exact get_mid (by simp; omega)
      have hy1 : (A ++ X ++ [y] ++ B)[((A.length : Int) + (X.length : Int)).toNat]? = some y := by
        rw [show A ++ X ++ [y] ++ B = (A ++ X) ++ y :: B by simp]; exact get_mid (by simp; omega)
      refine draw_i fun w2 hE2 _ => ?_
      have H2 := H1.ex0 hE2
      have E2 := hE.trans hE2.nil
      rw [ix_sli (by omega) (by omega), H2.ld hy1, ix_sli (by omega) (by omega), H2.ld hz1]
      refine C.call y z hDy (hDX z hz) w2 _ (C.keep _ _ hI E2) fun w3 cc hE3 hcc => ?_
      have H3 := H2.ex0 hE3
      have E3 := E2.trans hE3.nil
      rw [bin_lss, un_not]
      have hXp : (X1 ++ (P1 ++ z :: Q1) ++ X2).Pairwise (RR bt) := by rw [← hXe]; exact h.hX
      refine wIf_i _ (fun hc => ?_) (fun hc => ?_)
      · rw [bin_add (by omega)]
        have hzy : RR bt z y := by
          refine .inr ⟨?_, hlt z hz⟩
          cases hbt : bt y z with
          | false => rfl
          | true => have := hcc.2 hbt; simp at hc; omega
        refine hk4 Q1.length _ _ _ (by omega) ⟨E3, X1 ++ P1 ++ [z], Q1, X2, by rw [hXe]; simp, rfl, by first | rfl | (simp; done) | (congr 1; simp; omega) | (congr 1; omega), by first | rfl | (simp; done) | (congr 1; simp; omega) | (congr 1; omega), H3, ?_, h2'⟩
        intro x hx
        simp only [List.mem_append, List.mem_singleton] at hx
        rcases hx with (hx | hx) | rfl
        · exact h1 x hx
        · refine RR.trans S (hDX x (by rw [hXe]; simp [hx])) (hDX z hz) hDy ?_ hzy
          rw [List.pairwise_append, List.pairwise_append, List.pairwise_append] at hXp
          exact hXp.1.2.1.2.2 x hx z (by simp)
        · exact hzy
      · have hyz : RR bt y z := .inl (hcc.1 (by simpa using hc))
        refine hk4 P1.length _ _ _ (by omega) ⟨E3, X1, P1, z :: Q1 ++ X2, by rw [hXe]; simp, rfl, rfl, by first | rfl | (congr 1; omega), H3, h1, ?_⟩
        intro x hx
        simp only [List.mem_append, List.mem_cons] at hx
        rcases hx with (rfl | hx) | hx
        · exact hyz
        · refine RR.trans S hDy (hDX z hz) (hDX x (by rw [hXe]; simp [hx])) hyz ?_
          rw [List.pairwise_append, List.pairwise_append, List.pairwise_append] at hXp
          exact (List.pairwise_cons.1 hXp.1.2.1.2.1).1 x hx
        · exact h2' x hx
    · have hm0 : Xm = [] := List.eq_nil_of_length_eq_zero (by omega)
      subst hm0
      exact hk3 _ _ ⟨hE, X1, X2, by rw [hXe]; simp, rfl, H1, h1, h2'⟩
  · rintro J v w1 ⟨hE, X1, X2, rfl, rfl, H1, h1, h2'⟩
    simp only [List.length_append] at hNl ⊢
    refine loop_m1 (n := X2.length) (fun n v w' => Ex [g] w w' ∧ ∃ P1 Q1, X2 = P1 ++ Q1 ∧ n = P1.length ∧ v = .int .i64 ((A.length : Int) + (X1.length : Int) + (P1.length : Int)) ∧ IR w' g (A ++ X1 ++ P1 ++ y :: Q1 ++ B) rest)
      ⟨hE, X2, [], by simp, rfl, by first | rfl | (congr 1; omega), by simpa using H1⟩ ?_
    rintro n J v w2 k3 ⟨hE2, P1, Q1, rfl, rfl, rfl, H2⟩ hk3
    simp only [List.length_append] at hNl
    rw [bin_gtr]
    refine wIf_d (fun hl => ?_) (fun hge => ?_)
    · rcases List.eq_nil_or_concat P1 with rfl | ⟨P1', q, rfl⟩
      · simp at hl
      · simp only [List.concat_eq_append, List.length_append, List.length_singleton] at hNl hk3 hl H2 ⊢
        have e1 : A ++ X1 ++ (P1' ++ [q]) ++ y :: Q1 ++ B = (A ++ X1 ++ P1' ++ [q]) ++ y :: (Q1 ++ B) := by simp
        have e2 : A ++ X1 ++ (P1' ++ [q]) ++ y :: Q1 ++ B = (A ++ X1 ++ P1') ++ q :: (y :: (Q1 ++ B)) := by simp
        have hy1 : (A ++ X1 ++ (P1' ++ [q]) ++ y :: Q1 ++ B)[((A.length : Int) + (X1.length : Int) + ((P1'.length + 1 : Nat) : Int)).toNat]? = some y := by rw [e1]; exact get_mid (by simp; omega)
        have hq1 : (A ++ X1 ++ (P1' ++ [q]) ++ y :: Q1 ++ B)[((A.length : Int) + (X1.length : Int) + ((P1'.length + 1 : Nat) : Int) - 1).toNat]? = some q := by rw [e2]; exact get_mid (by simp; omega)
        refine draw_i fun w3 hE3 _ => ?_
        have H3 := H2.ex0 hE3
        rw [bin_sub (by omega), bin_sub (by omega), ix_sli (by omega) (by omega), H3.ld hq1, ix_sli (by omega) (by omega), H3.ld hy1, ix_sli (by omega) (by omega)]
        refine H3.st (by simp; omega) fun w4 hE4 H4 => ?_
        rw [e1, set_mid (by simp; omega)] at H4
        rw [ix_sli (by omega) (by omega)]
        refine H4.st (by simp; omega) fun w5 hE5 H5 => ?_
        have e3 : (A ++ X1 ++ P1' ++ [q]) ++ q :: (Q1 ++ B) = (A ++ X1 ++ P1') ++ q :: (q :: (Q1 ++ B)) := by simp
        rw [e3, set_mid (by simp; omega)] at H5
        rw [bin_sub (by omega)]
        refine hk3 P1'.length _ _ (by omega) ⟨((hE2.trans hE3.nil).trans hE4).trans hE5, P1', q :: Q1, by simp, rfl, by first | rfl | (congr 1; omega), ?_⟩
        have : A ++ X1 ++ P1' ++ y :: (q :: Q1) ++ B = (A ++ X1 ++ P1') ++ y :: (q :: (Q1 ++ B)) := by simp
        rw [this]; exact H5
    · have hq0 : P1 = [] := List.eq_nil_of_length_eq_zero (by omega)
      subst hq0
      simp only [List.append_nil, List.nil_append] at *
      refine hk w2 (X1 ++ y :: Q1) hE2 (by simpa using H2) ?_ ?_
      · exact (List.perm_middle (l₁ := X1) (a := y) (l₂ := Q1)).trans (by simpa using (List.perm_append_comm (l₁ := [y]) (l₂ := X1 ++ Q1)))
      · exact pw_mid S hDX hDy h.hX (fun p hp => h1 p (List.mem_of_getLast? hp)) h2'
end
end Go.Dn
end
section
/-! Contracts of the stable sort: symMerge, in general. -/
set_option maxRecDepth 10000
set_option linter.unusedVariables false
set_option linter.unusedSimpArgs false
namespace Go.Dn
open Go
section
variable {w : World} {K : Value → World → Prop}
theorem pw_le {bt : Nat → Nat → Bool} {l : List Nat} (h : l.Pairwise (RR bt)) {i j : Nat} {x y : Nat} (hij : i ≤ j) (hx : l[i]? = some x) (hy : l[j]? = some y) : x = y ∨ RR bt x y := by
  rcases Nat.lt_or_ge i j with h1 | h1
  · exact .inr (pw_get h h1 hx hy)
  · have : i = j := by omega
    subst this
    rw [hx] at hy
    injection hy with hy
    exact .inl hy
theorem tk_get {l : List Nat} {n : Nat} {x : Nat} (h : x ∈ l.take n) : ∃ i, i < n ∧ l[i]? = some x := by
  obtain ⟨i, hi⟩ := List.mem_iff_getElem?.1 h
  rw [List.getElem?_take] at hi
  split at hi
  · exact ⟨i, by assumption, hi⟩
  · cases hi
theorem dp_get {l : List Nat} {n : Nat} {x : Nat} (h : x ∈ l.drop n) : ∃ i, n ≤ i ∧ l[i]? = some x := by
  obtain ⟨i, hi⟩ := List.mem_iff_getElem?.1 h
  rw [List.getElem?_drop] at hi
  exact ⟨n + i, by omega, hi⟩
theorem slices_sym {g N c : Nat} {f : Value} {D : Nat → Prop} {bt : Nat → Nat → Bool} {I : World → Prop} {rest : List Value} (C : Cmp f g D bt I) (S : Swo D bt) : ∀ (n : Nat) (A X Y B : List Nat) (a m b : Int) (w : World) (k : Value → World → Prop), X.length + Y.length = n → 0 < X.length → 0 < Y.length →
    I w → IR w g (A ++ X ++ Y ++ B) rest → SymH A X Y B N D bt → a = A.length → m = A.length + X.length → b = A.length + X.length + Y.length →
    (∀ w' Z, Ex [g] w w' → IR w' g (A ++ Z ++ B) rest → Z.Perm (X ++ Y) → Z.Pairwise (RR bt) → k (.tuple #[]) w') → wCall P n_slices_symMergeCmpFunc_int [sli g N c, .int .i64 a, .int .i64 m, .int .i64 b, f] w k := by
  intro n
  induction n using Nat.strongRecOn with
  | ind n ih =>
  intro A X Y B a m b w k hn hX0 hY0 hI H h ha hm hb hk
  by_cases hX1 : X.length = 1
  · obtain ⟨x, rfl⟩ : ∃ x, X = [x] := by
      match X, hX1 with
      | [x], _ => exact ⟨x, rfl⟩
    exact slices_sym_l C S hI H h ha (by simpa using hm) (by simpa using hb) hk
  by_cases hY1 : Y.length = 1
  · obtain ⟨y, rfl⟩ : ∃ y, Y = [y] := by
      match Y, hY1 with
      | [y], _ => exact ⟨y, rfl⟩
    exact slices_sym_r C S hI H h (by omega) ha hm (by simpa using hb) hk
  refine call_slices_symMergeCmpFunc_int _ _ _ _ _ ?_
  unfold F_slices_symMergeCmpFunc_int
  have hNl := h.len
  have hs := h.small
  subst ha; subst hm; subst hb
  generalize hu : X.length = u at *
  generalize hv : Y.length = v at *
  refine j0_of (fun w' => w = w') (fun k1 hk1 => ?_) ?_
  · rw [bin_sub (by omega), bin_eql, wIf_df (by omega)]
    exact hk1 w rfl
  rintro J w' rfl
  refine j0_of (fun w' => w = w') (fun k1 hk1 => ?_) ?_
  · rw [bin_sub (by omega), bin_eql, wIf_df (by omega)]
    exact hk1 w rfl
  rintro J2 w' rfl
  have hDX : ∀ x ∈ X, D x := fun x hx => h.hD x (by simp [hx])
  have hDY : ∀ y ∈ Y, D y := fun y hy => h.hD y (by simp [hy])
  rw [bin_add (by omega)]
  have es : ((A.length : Int) + ((A.length : Int) + (u : Int) + (v : Int))) = ((2 * A.length + (u + v) : Nat) : Int) := by omega
  rw [es, half_i (by omega)]
  generalize hh : (u + v) / 2 = hf at *
  have emid : (((2 * A.length + (u + v)) / 2 : Nat) : Int) = (A.length : Int) + (hf : Int) := by omega
  rw [emid, bin_add (by omega)]
  have hs0 : hf - v ≤ min u hf := by omega
  refine j2_of (fun x y w' => w = w' ∧ x = .int .i64 ((A.length : Int) + ((hf - v : Nat) : Int)) ∧ y = .int .i64 ((A.length : Int) + ((min u hf : Nat) : Int))) (fun k1 hk1 => ?_) ?_
  · rw [bin_gtr]
    refine wIf_d (fun hgt => ?_) (fun hle => ?_)
    · rw [bin_sub (by omega)]
      exact hk1 _ _ w ⟨rfl, by congr 1; omega, by congr 1; omega⟩
    · exact hk1 _ _ w ⟨rfl, by congr 1; omega, by congr 1; omega⟩
  rintro J3 x0 y0 w' ⟨rfl, rfl, rfl⟩
  rw [bin_sub (by omega)]
  refine j1_of (fun z w' => Ex [g] w w' ∧ IR w' g (A ++ X ++ Y ++ B) rest ∧ ∃ s : Nat, z = .int .i64 ((A.length : Int) + (s : Int)) ∧ hf - v ≤ s ∧ s ≤ min u hf ∧ (∀ c : Nat, hf - v ≤ c → c < s → ∀ x y, X[c]? = some x → Y[hf - 1 - c]? = some y → bt y x = false) ∧ (∀ c : Nat, s ≤ c → c < min u hf → ∀ x y, X[c]? = some x → Y[hf - 1 - c]? = some y → bt y x = true)) (fun k1 hk1 => ?_) ?_
  · refine loop_m2 (n := min u hf - (hf - v)) (fun n p q w' => Ex [g] w w' ∧ IR w' g (A ++ X ++ Y ++ B) rest ∧ ∃ s r : Nat, n = r - s ∧ p = .int .i64 ((A.length : Int) + (s : Int)) ∧ q = .int .i64 ((A.length : Int) + (r : Int)) ∧ hf - v ≤ s ∧ s ≤ r ∧ r ≤ min u hf ∧ (∀ c : Nat, hf - v ≤ c → c < s → ∀ x y, X[c]? = some x → Y[hf - 1 - c]? = some y → bt y x = false) ∧ (∀ c : Nat, r ≤ c → c < min u hf → ∀ x y, X[c]? = some x → Y[hf - 1 - c]? = some y → bt y x = true))
      ⟨Ex.refl _ _, H, hf - v, min u hf, rfl, rfl, rfl, Nat.le_refl _, hs0, Nat.le_refl _, fun c h1 h2 => by omega, fun c h1 h2 => by omega⟩ ?_
    rintro n J4 p q w1 k2 ⟨hE, H1, s, r, rfl, rfl, rfl, hs1, hsr, hr, hlo, hhi⟩ hk2
    rw [bin_lss]
    refine wIf_d (fun hl => ?_) (fun hge => ?_)
    · have hl : s < r := by omega
      rw [bin_add (by omega)]
      have es : ((A.length : Int) + (s : Int) + ((A.length : Int) + (r : Int))) = ((2 * A.length + (s + r) : Nat) : Int) := by omega
      rw [es, half_i (by omega)]
      generalize hc : (s + r) / 2 = cc at *
      have emid2 : (((2 * A.length + (s + r)) / 2 : Nat) : Int) = (A.length : Int) + (cc : Int) := by omega
      rw [emid2]
      have hcs : s ≤ cc ∧ cc < r := by omega
      have hcu : cc < X.length := by omega
      have hcv : hf - 1 - cc < Y.length := by omega
      have hxg : X[cc]? = some X[cc] := List.getElem?_eq_getElem hcu
      have hyg : Y[hf - 1 - cc]? = some Y[hf - 1 - cc] := List.getElem?_eq_getElem hcv
      generalize X[cc] = x at hxg
      generalize Y[hf - 1 - cc] = y at hyg
      have hxm : x ∈ X := List.mem_of_getElem? hxg
      have hym : y ∈ Y := List.mem_of_getElem? hyg
      have ly : (A ++ X ++ Y ++ B)[((A.length : Int) + (hf : Int) + ((A.length : Int) + (u : Int)) - 1 - ((A.length : Int) + (cc : Int))).toNat]? = some y := by
        rw [show ((A.length : Int) + (hf : Int) + ((A.length : Int) + (u : Int)) - 1 - ((A.length : Int) + (cc : Int))).toNat = A.length + X.length + (hf - 1 - cc) by omega, List.append_assoc, List.getElem?_append_right (by rw [List.length_append]; omega), List.getElem?_append_left (by first | omega | (simp; done) | (simp; omega))]
        rw [show A.length + X.length + (hf - 1 - cc) - (A ++ X).length = hf - 1 - cc by simp]
        exact hyg
      have lx : (A ++ X ++ Y ++ B)[((A.length : Int) + (cc : Int)).toNat]? = some x := by
        rw [show ((A.length : Int) + (cc : Int)).toNat = A.length + cc by omega, List.append_assoc, List.append_assoc, List.getElem?_append_right (by omega), show A.length + cc - A.length = cc by omega, List.getElem?_append_left (by omega)]
        exact hxg
      refine draw_i fun w2 hE2 _ => ?_
      have H2 := H1.ex0 hE2
      have E2 := hE.trans hE2.nil
      rw [bin_sub (by omega), ix_sli (by omega) (by omega), H2.ld ly, ix_sli (by omega) (by omega), H2.ld lx]
      refine C.call y x (hDY y hym) (hDX x hxm) w2 _ (C.keep _ _ hI E2) fun w3 res hE3 hres => ?_
      have H3 := H2.ex0 hE3
      have E3 := E2.trans hE3.nil
      have hxy := h.lt x hxm y hym
      rw [bin_lss, un_not]
      refine wIf_i _ (fun hcd => ?_) (fun hcd => ?_)
      · have hno : bt y x = false := by
          cases hb : bt y x with
          | false => rfl
          | true => have := hres.2 hb; simp at hcd; omega
        rw [bin_add (by omega)]
        refine hk2 (r - (cc + 1)) _ _ _ (by omega) ⟨E3, H3, cc + 1, r, rfl, by first | rfl | (congr 1; omega), rfl, by omega, by omega, hr, fun c' h1 h2 x' y' hx' hy' => ?_, hhi⟩
        rcases Nat.lt_or_ge c' s with h3 | h3
        · exact hlo c' h1 h3 x' y' hx' hy'
        · cases hb : bt y' x' with
          | false => rfl
          | true =>
            exfalso
            have hxm' : x' ∈ X := List.mem_of_getElem? hx'
            have hym' : y' ∈ Y := List.mem_of_getElem? hy'
            have a1 := pw_le h.hX (show c' ≤ cc by omega) hx' hxg
            have a2 := pw_le h.hY (show hf - 1 - cc ≤ hf - 1 - c' by omega) hyg hy'
            have a3 : RR bt y' x' := .inl hb
            have a4 : RR bt y' x := by
              rcases a1 with rfl | a1
              · exact a3
              · exact RR.trans S (hDY _ hym') (hDX _ hxm') (hDX _ hxm) a3 a1
            have a5 : RR bt y x := by
              rcases a2 with rfl | a2
              · exact a4
              · exact RR.trans S (hDY _ hym) (hDY _ hym') (hDX _ hxm) a2 a4
            have := (RR.iff_lt S (hDX _ hxm) (hDY _ hym) hxy).1 a5
            rw [hno] at this
            cases this
      · have hyes : bt y x = true := hres.1 (by simpa using hcd)
        refine hk2 (cc - s) _ _ _ (by omega) ⟨E3, H3, s, cc, rfl, rfl, rfl, hs1, by omega, by omega, hlo, fun c' h1 h2 x' y' hx' hy' => ?_⟩
        have hxm' : x' ∈ X := List.mem_of_getElem? hx'
        have hym' : y' ∈ Y := List.mem_of_getElem? hy'
        have a1 := pw_le h.hX (show cc ≤ c' by omega) hxg hx'
        have a2 := pw_le h.hY (show hf - 1 - c' ≤ hf - 1 - cc by omega) hy' hyg
        have a3 : RR bt y x := .inl hyes
        have a4 : RR bt y x' := by
          rcases a1 with rfl | a1
          · exact a3
          · exact RR.trans S (hDY _ hym) (hDX _ hxm) (hDX _ hxm') a3 a1
        have a5 : RR bt y' x' := by
          rcases a2 with rfl | a2
          · exact a4
          · exact RR.trans S (hDY _ hym') (hDY _ hym) (hDX _ hxm') a2 a4
        exact (RR.iff_lt S (hDX _ hxm') (hDY _ hym') (h.lt x' hxm' y' hym')).1 a5
    · have : s = r := by omega
      subst this
      exact hk1 _ w1 ⟨hE, H1, s, rfl, hs1, hr, hlo, hhi⟩
  rintro J4 z w1 ⟨hE1, H1, s, rfl, hs1, hs2, hlo, hhi⟩
  rw [bin_sub (by omega)]
  have hsu : s ≤ u := by omega
  have hsh : s ≤ hf := by omega
  have hhv : hf - s ≤ v := by omega
  have eX : X.take s ++ X.drop s = X := List.take_append_drop s X
  have eY : Y.take (hf - s) ++ Y.drop (hf - s) = Y := List.take_append_drop _ Y
  have lX1 : (X.take s).length = s := by rw [List.length_take]; omega
  have lX2 : (X.drop s).length = u - s := by rw [List.length_drop, hu]
  have lY1 : (Y.take (hf - s)).length = hf - s := by rw [List.length_take]; omega
  have lY2 : (Y.drop (hf - s)).length = v - (hf - s) := by rw [List.length_drop, hv]
  -- what stands in the two halves
  have xy : ∀ x ∈ X.take s, ∀ y ∈ Y.drop (hf - s), RR bt x y := by
    intro x hx y hy
    obtain ⟨i, hi, hxi⟩ := tk_get hx
    obtain ⟨j, hj, hyj⟩ := dp_get hy
    have hjl : j < Y.length := (List.getElem?_eq_some_iff.1 hyj).1
    have hxm := List.mem_of_getElem? hxi
    have hym := List.mem_of_getElem? hyj
    have hl1 : s - 1 < X.length := by omega
    have hl2 : hf - s < Y.length := by omega
    have g1 : X[s - 1]? = some X[s - 1] := List.getElem?_eq_getElem hl1
    have g2 : Y[hf - 1 - (s - 1)]? = some Y[hf - s] := by rw [show hf - 1 - (s - 1) = hf - s by omega]; exact List.getElem?_eq_getElem hl2
    have g3 : Y[hf - s]? = some Y[hf - s] := List.getElem?_eq_getElem hl2
    have hno := hlo (s - 1) (by omega) (by omega) _ _ g1 g2
    have hm1 : X[s - 1] ∈ X := List.getElem_mem hl1
    have hm2 : Y[hf - s] ∈ Y := List.getElem_mem hl2
    have r1 : RR bt X[s - 1] Y[hf - s] := .inr ⟨hno, h.lt _ hm1 _ hm2⟩
    have r2 : RR bt x Y[hf - s] := by
      rcases pw_le h.hX (show i ≤ s - 1 by omega) hxi g1 with e | r
      · rw [e]; exact r1
      · exact RR.trans S (hDX _ hxm) (hDX _ hm1) (hDY _ hm2) r r1
    rcases pw_le h.hY (show hf - s ≤ j from hj) g3 hyj with e | r
    · rw [← e]; exact r2
    · exact RR.trans S (hDX _ hxm) (hDY _ hm2) (hDY _ hym) r2 r
  have yx : ∀ y ∈ Y.take (hf - s), ∀ x ∈ X.drop s, RR bt y x := by
    intro y hy x hx
    obtain ⟨j, hj, hyj⟩ := tk_get hy
    obtain ⟨i, hi, hxi⟩ := dp_get hx
    have hil : i < X.length := (List.getElem?_eq_some_iff.1 hxi).1
    have hxm := List.mem_of_getElem? hxi
    have hym := List.mem_of_getElem? hyj
    have hl1 : s < X.length := by omega
    have hl2 : hf - 1 - s < Y.length := by omega
    have g1 : X[s]? = some X[s] := List.getElem?_eq_getElem hl1
    have g2 : Y[hf - 1 - s]? = some Y[hf - 1 - s] := List.getElem?_eq_getElem hl2
    have hyes := hhi s (Nat.le_refl _) (by omega) _ _ g1 g2
    have hm1 : X[s] ∈ X := List.getElem_mem hl1
    have hm2 : Y[hf - 1 - s] ∈ Y := List.getElem_mem hl2
    have r1 : RR bt Y[hf - 1 - s] X[s] := .inl hyes
    have r2 : RR bt y X[s] := by
      rcases pw_le h.hY (show j ≤ hf - 1 - s by omega) hyj g2 with e | r
      · rw [e]; exact r1
      · exact RR.trans S (hDY _ hym) (hDY _ hm2) (hDX _ hm1) r r1
    rcases pw_le h.hX (show s ≤ i from hi) g1 hxi with e | r
    · rw [← e]; exact r2
    · exact RR.trans S (hDY _ hym) (hDX _ hm1) (hDX _ hxm) r2 r
  have pX : (X.take s ++ X.drop s).Pairwise (RR bt) := by rw [eX]; exact h.hX
  have pY : (Y.take (hf - s) ++ Y.drop (hf - s)).Pairwise (RR bt) := by rw [eY]; exact h.hY
  rw [List.pairwise_append] at pX pY
  have mX1 : ∀ x ∈ X.take s, x ∈ X := fun x hx => List.mem_of_mem_take hx
  have mX2 : ∀ x ∈ X.drop s, x ∈ X := fun x hx => List.mem_of_mem_drop hx
  have mY1 : ∀ y ∈ Y.take (hf - s), y ∈ Y := fun y hy => List.mem_of_mem_take hy
  have mY2 : ∀ y ∈ Y.drop (hf - s), y ∈ Y := fun y hy => List.mem_of_mem_drop hy
  have H1 : IR w1 g (A ++ (X.take s ++ X.drop s) ++ (Y.take (hf - s) ++ Y.drop (hf - s)) ++ B) rest := by rw [eX, eY]; exact H1
  have hperm : (X.take s ++ Y.take (hf - s) ++ (X.drop s ++ Y.drop (hf - s))).Perm (X ++ Y) := by
    conv => rhs; rw [← eX, ← eY]
    rw [List.append_assoc, List.append_assoc]
    refine List.Perm.append_left _ ?_
    rw [← List.append_assoc, ← List.append_assoc]
    exact List.Perm.append_right _ List.perm_append_comm
  generalize X.take s = X1 at *
  generalize X.drop s = X2 at *
  generalize Y.take (hf - s) = Y1 at *
  generalize Y.drop (hf - s) = Y2 at *
  refine j0_of (fun w' => Ex [g] w1 w' ∧ IR w' g (A ++ X1 ++ Y1 ++ X2 ++ Y2 ++ B) rest) (fun k1 hk1 => ?_) ?_
  · rw [bin_lss]
    refine and_i (r := decide ((A.length : Int) + (u : Int) < (A.length : Int) + (hf : Int) + ((A.length : Int) + (u : Int)) - ((A.length : Int) + (s : Int)))) (fun _ k' hk' => by rw [bin_lss]; exact hk') ?_
    refine wIf_i _ (fun hc => ?_) (fun hc => ?_)
    · simp only [Bool.and_eq_true, decide_eq_true_eq] at hc
      refine slices_rotate (A := A ++ X1) (X := X2) (Y := Y1) (B := Y2 ++ B) (rest := rest) (by simpa using H1) (by simp; omega) hs (by simp; omega) (by simp; omega) (by simp; omega) (by omega) (by omega) fun w2 hE2 H2 => ?_
      exact hk1 w2 ⟨hE2, by simpa using H2⟩
    · simp only [Bool.and_eq_false_iff, decide_eq_false_iff_not] at hc
      refine hk1 w1 ⟨Ex.refl _ _, ?_⟩
      rcases hc with hc | hc
      · have : X2 = [] := List.eq_nil_of_length_eq_zero (by omega)
        subst this
        simpa using H1
      · have : Y1 = [] := List.eq_nil_of_length_eq_zero (by omega)
        subst this
        simpa using H1
  rintro J5 w2 ⟨hE2, H2⟩
  have E2 := hE1.trans hE2
  refine j0_of (fun w' => Ex [g] w2 w' ∧ ∃ Z1, IR w' g (A ++ Z1 ++ X2 ++ Y2 ++ B) rest ∧ Z1.Perm (X1 ++ Y1) ∧ Z1.Pairwise (RR bt)) (fun k1 hk1 => ?_) ?_
  · rw [bin_lss]
    refine and_i (r := decide ((A.length : Int) + (s : Int) < (A.length : Int) + (hf : Int))) (fun _ k' hk' => by rw [bin_lss]; exact hk') ?_
    refine wIf_i _ (fun hc => ?_) (fun hc => ?_)
    · simp only [Bool.and_eq_true, decide_eq_true_eq] at hc
      refine ih (X1.length + Y1.length) (by omega) A X1 Y1 (X2 ++ Y2 ++ B) _ _ _ w2 _ rfl (by omega) (by omega) (C.keep _ _ hI E2) (by simpa using H2) ⟨by simp; omega, hs, fun x hx => ?_, pX.1, pY.1, fun x hx y hy => h.lt x (mX1 x hx) y (mY1 y hy)⟩ rfl (by omega) (by omega) fun w3 Z hE3 H3 hp hz => ?_
      · rcases List.mem_append.1 hx with hx | hx
        · exact hDX x (mX1 x hx)
        · exact hDY x (mY1 x hx)
      · exact hk1 w3 ⟨hE3, Z, by simpa using H3, hp, hz⟩
    · simp only [Bool.and_eq_false_iff, decide_eq_false_iff_not] at hc
      refine hk1 w2 ⟨Ex.refl _ _, X1 ++ Y1, by simpa using H2, List.Perm.refl _, ?_⟩
      rcases hc with hc | hc
      · have : X1 = [] := List.eq_nil_of_length_eq_zero (by omega)
        subst this
        simpa using pY.1
      · have : Y1 = [] := List.eq_nil_of_length_eq_zero (by omega)
        subst this
        simpa using pX.1
  rintro J6 w3 ⟨hE3, Z1, H3, hp1, hz1⟩
  have E3 := E2.trans hE3
  have lZ1 : Z1.length = hf := by rw [hp1.length_eq, List.length_append]; omega
  have fin : ∀ w4 Z2, Ex [g] w3 w4 → IR w4 g (A ++ Z1 ++ Z2 ++ B) rest → Z2.Perm (X2 ++ Y2) → Z2.Pairwise (RR bt) → k (.tuple #[]) w4 := by
    intro w4 Z2 hE4 H4 hp2 hz2
    refine hk w4 (Z1 ++ Z2) (E3.trans hE4) (by simpa using H4) ((hp1.append hp2).trans hperm) ?_
    rw [List.pairwise_append]
    refine ⟨hz1, hz2, fun p hp q hq => ?_⟩
    have hp := hp1.mem_iff.1 hp
    have hq := hp2.mem_iff.1 hq
    rcases List.mem_append.1 hp with hp | hp
    · rcases List.mem_append.1 hq with hq | hq
      · exact pX.2.2 p hp q hq
      · exact xy p hp q hq
    · rcases List.mem_append.1 hq with hq | hq
      · exact yx p hp q hq
      · exact pY.2.2 p hp q hq
  rw [bin_lss]
  refine and_i (r := decide ((A.length : Int) + (hf : Int) + ((A.length : Int) + (u : Int)) - ((A.length : Int) + (s : Int)) < (A.length : Int) + (u : Int) + (v : Int))) (fun _ k' hk' => by rw [bin_lss]; exact hk') ?_
  refine wIf_i _ (fun hc => ?_) (fun hc => ?_)
  · simp only [Bool.and_eq_true, decide_eq_true_eq] at hc
    refine ih (X2.length + Y2.length) (by omega) (A ++ Z1) X2 Y2 B _ _ _ w3 _ rfl (by omega) (by omega) (C.keep _ _ hI E3) (by simpa using H3) ⟨by simp; omega, hs, fun x hx => ?_, pX.2.1, pY.2.1, fun x hx y hy => h.lt x (mX2 x hx) y (mY2 y hy)⟩ (by simp; omega) (by simp; omega) (by simp; omega) fun w4 Z hE4 H4 hp hz => ?_
    · rcases List.mem_append.1 hx with hx | hx
      · exact hDX x (mX2 x hx)
      · exact hDY x (mY2 x hx)
    · exact fin w4 Z hE4 H4 hp hz
  · simp only [Bool.and_eq_false_iff, decide_eq_false_iff_not] at hc
    refine fin w3 (X2 ++ Y2) (Ex.refl _ _) (by simpa using H3) (List.Perm.refl _) ?_
    rcases hc with hc | hc
    · have : X2 = [] := List.eq_nil_of_length_eq_zero (by omega)
      subst this
      simpa using pY.2.1
    · have : Y2 = [] := List.eq_nil_of_length_eq_zero (by omega)
      subst this
      simpa using pX.2.1
end
end Go.Dn
end
section
/-! Contracts of the stable sort: stableCmpFunc. -/
set_option maxRecDepth 10000
set_option linter.unusedVariables false
set_option linter.unusedSimpArgs false
namespace Go.Dn
open Go
def ch (M : List Nat) (p n : Nat) : List Nat := (M.drop p).take n
theorem ch_full {M : List Nat} {p n : Nat} (h : M.length ≤ p + n) : ch M p n = M.drop p := by unfold ch; rw [List.take_of_length_le (by rw [List.length_drop]; omega)]
theorem ch_nil {M : List Nat} {p n : Nat} (h : M.length ≤ p) : ch M p n = [] := by unfold ch; rw [List.drop_of_length_le h, List.take_nil]
theorem ch_cat (M : List Nat) (p n m : Nat) : ch M p (n + m) = ch M p n ++ ch M (p + n) m := by unfold ch; rw [List.take_add, List.drop_drop]
theorem ch_len {M : List Nat} {p n : Nat} (h : p + n ≤ M.length) : (ch M p n).length = n := by unfold ch; rw [List.length_take, List.length_drop]; omega
theorem ch_mid {A X B : List Nat} : ch (A ++ X ++ B) A.length X.length = X := by
  unfold ch
  rw [List.append_assoc, List.drop_left' rfl, List.take_left' rfl]
theorem ch_low {A R : List Nat} {p n : Nat} (h : p + n ≤ A.length) : ch (A ++ R) p n = ch A p n := by
  unfold ch
  rw [List.drop_append_of_le_length (by omega), List.take_append_of_le_length (by rw [List.length_drop]; omega)]
theorem ch_high {A R : List Nat} {p n : Nat} (h : A.length ≤ p) : ch (A ++ R) p n = ch R (p - A.length) n := by
  unfold ch
  rw [List.drop_append, List.drop_of_length_le h, List.nil_append]
theorem ch_split (M : List Nat) (p n : Nat) : M.take p ++ ch M p n ++ M.drop (p + n) = M := by
  unfold ch
  rw [List.append_assoc, ← List.drop_drop, List.take_append_drop, List.take_append_drop]
theorem ch_mem {M : List Nat} {p n x : Nat} (h : x ∈ ch M p n) : x ∈ M := List.mem_of_mem_drop (List.mem_of_mem_take h)
theorem ch_lt {L : List Nat} (hL : L.Pairwise (· < ·)) {p n q m : Nat} (h : p + n ≤ q) : ∀ x ∈ ch L p n, ∀ y ∈ ch L q m, x < y := by
  intro x hx y hy
  obtain ⟨i, hi⟩ := List.mem_iff_getElem?.1 hx
  obtain ⟨j, hj⟩ := List.mem_iff_getElem?.1 hy
  unfold ch at hi hj
  rw [List.getElem?_take] at hi hj
  split at hi
  · split at hj
    · rw [List.getElem?_drop] at hi hj
      obtain ⟨h1, rfl⟩ := List.getElem?_eq_some_iff.1 hi
      obtain ⟨h2, rfl⟩ := List.getElem?_eq_some_iff.1 hj
      exact List.pairwise_iff_getElem.1 hL _ _ h1 h2 (by omega)
    · cases hj
  · cases hi
/-- A chunk is in order, of the same numbers. -/
def Ck (bt : Nat → Nat → Bool) (M L : List Nat) (p n : Nat) : Prop := (ch M p n).Perm (ch L p n) ∧ (ch M p n).Pairwise (RR bt)
theorem Ck.upd {bt : Nat → Nat → Bool} {A X Z B L : List Nat} {p n : Nat} (h : Ck bt (A ++ X ++ B) L p n) (hl : Z.length = X.length) (hp : p + n ≤ A.length ∨ A.length + X.length ≤ p) : Ck bt (A ++ Z ++ B) L p n := by
  have e : ch (A ++ Z ++ B) p n = ch (A ++ X ++ B) p n := by
    rcases hp with hp | hp
    · rw [List.append_assoc, List.append_assoc, ch_low hp, ch_low hp]
    · rw [ch_high (A := A ++ Z) (by rw [List.length_append]; omega), ch_high (A := A ++ X) (by rw [List.length_append]; omega), List.length_append, List.length_append, hl]
  unfold Ck
  rw [e]
  exact h
theorem Ck.nil {bt : Nat → Nat → Bool} {M L : List Nat} {p n : Nat} (h1 : M.length ≤ p) (h2 : L.length ≤ p) : Ck bt M L p n := by
  unfold Ck
  rw [ch_nil h1, ch_nil h2]
  exact ⟨List.Perm.refl _, List.Pairwise.nil⟩
section
variable {w : World} {K : Value → World → Prop}
theorem slices_stable {g N c : Nat} {f : Value} {D : Nat → Prop} {bt : Nat → Nat → Bool} {I : World → Prop} {rest : List Value} {L : List Nat} {k : Value → World → Prop} (C : Cmp f g D bt I) (S : Swo D bt) (hI : I w) (H : IR w g L rest) (hN : L.length = N) (hs : N ≤ 400000)
    (hD : ∀ x ∈ L, D x) (hL : L.Pairwise (· < ·)) (hk : ∀ w' M, Ex [g] w w' → IR w' g M rest → M.Perm L → M.Pairwise (RR bt) → k (.tuple #[]) w') : wCall P n_slices_stableCmpFunc_int [sli g N c, .int .i64 (N : Int), f] w k := by
  refine call_slices_stableCmpFunc_int _ _ _ ?_
  unfold F_slices_stableCmpFunc_int
  refine j1_of (fun v w' => Ex [g] w w' ∧ ∃ (i : Nat) (M : List Nat), v = .int .i64 ((20 * i : Nat) : Int) ∧ IR w' g M rest ∧ M.length = N ∧ 20 * i ≤ N ∧ N < 20 * i + 20 ∧ M.drop (20 * i) = L.drop (20 * i) ∧ ∀ j, j < i → Ck bt M L (20 * j) 20) (fun k1 hk1 => ?_) ?_
  · refine loop_m2 (n := N + 1) (fun n x y w' => Ex [g] w w' ∧ ∃ (i : Nat) (M : List Nat), n = N + 1 - 20 * i ∧ x = .int .i64 ((20 * i : Nat) : Int) ∧ y = .int .i64 ((20 * i + 20 : Nat) : Int) ∧ IR w' g M rest ∧ M.length = N ∧ 20 * i ≤ N ∧ M.drop (20 * i) = L.drop (20 * i) ∧ ∀ j, j < i → Ck bt M L (20 * j) 20)
      ⟨Ex.refl _ _, 0, L, rfl, rfl, rfl, H, hN, by omega, rfl, fun j hj => by omega⟩ ?_
    rintro n J x y w1 k2 ⟨hE, i, M, rfl, rfl, rfl, H1, hM, hi, hd, hc⟩ hk2
    rw [bin_leq]
    refine wIf_d (fun hle => ?_) (fun hgt => ?_)
    · have hle : 20 * i + 20 ≤ N := by omega
      have hsp := ch_split M (20 * i) 20
      have hcl : (ch M (20 * i) 20).length = 20 := ch_len (by omega)
      have hX : ch M (20 * i) 20 = ch L (20 * i) 20 := by unfold ch; rw [hd]
      have htl : (M.take (20 * i)).length = 20 * i := by rw [List.length_take]; omega
      have hdd : M.drop (20 * i + 20) = L.drop (20 * i + 20) := by rw [← List.drop_drop, hd, List.drop_drop]
      refine slices_insertion (A := M.take (20 * i)) (X := ch M (20 * i) 20) (B := M.drop (20 * i + 20)) C S (C.keep _ _ hI hE) (by rw [hsp]; exact H1) (by rw [hsp]; exact hM.symm) (by omega) (by rw [htl]) (by rw [htl, hcl]; omega) (fun x hx => hD x (by rw [hX] at hx; exact ch_mem hx)) (by rw [hX]; unfold ch; exact (hL.drop).take) fun w2 X' hE2 H2 hp hs' => ?_
      rw [bin_add (by omega)]
      have hXl : X'.length = (ch M (20 * i) 20).length := hp.length_eq
      refine hk2 (N + 1 - 20 * (i + 1)) _ _ _ (by omega) ⟨hE.trans hE2, i + 1, _, rfl, by first | rfl | (congr 1; omega), by first | rfl | (congr 1; omega), H2, by rw [List.length_append, List.length_append, htl, hXl, hcl, List.length_drop]; omega, by omega, ?_, fun j hj => ?_⟩
      · rw [show 20 * (i + 1) = 20 * i + 20 by omega, List.drop_left' (by rw [List.length_append, htl, hXl, hcl]), hdd]
      · rcases Nat.lt_or_ge j i with h1 | h1
        · have := hc j h1
          rw [← hsp] at this
          exact this.upd hXl (.inl (by rw [htl]; omega))
        · obtain rfl : j = i := by omega
          have e : ch (M.take (20 * j) ++ X' ++ M.drop (20 * j + 20)) (20 * j) 20 = X' := by
            have := ch_mid (A := M.take (20 * j)) (X := X') (B := M.drop (20 * j + 20))
            rw [htl, hXl, hcl] at this
            exact this
          unfold Ck
          rw [e, ← hX]
          exact ⟨hp, hs'⟩
    · exact hk1 _ w1 ⟨hE, i, M, rfl, H1, hM, hi, by omega, hd, hc⟩
  rintro J v w1 ⟨hE1, i, M, rfl, H1, hM, hi, hi2, hd, hc⟩
  have htl : (M.take (20 * i)).length = 20 * i := by rw [List.length_take]; omega
  have hdl : (L.drop (20 * i)).length = N - 20 * i := by rw [List.length_drop]; omega
  refine slices_insertion (A := M.take (20 * i)) (X := L.drop (20 * i)) (B := []) C S (C.keep _ _ hI hE1) (by rw [List.append_nil, ← hd, List.take_append_drop]; exact H1) (by rw [List.append_nil, ← hd, List.take_append_drop]; exact hM.symm) (by omega) (by rw [htl]) (by rw [htl, hdl]; omega) (fun x hx => hD x (List.mem_of_mem_drop hx)) hL.drop fun w2 X' hE2 H2 hp hs' => ?_
  have E2 := hE1.trans hE2
  have hXl : X'.length = N - 20 * i := by rw [hp.length_eq, hdl]
  refine loop_m1 (n := N + 1 - 20) (fun n x w' => Ex [g] w w' ∧ ∃ (bs : Nat) (M : List Nat), n = N + 1 - bs ∧ 0 < bs ∧ bs ≤ 1000000 ∧ x = .int .i64 (bs : Int) ∧ IR w' g M rest ∧ M.length = N ∧ ∀ j, Ck bt M L (j * bs) bs)
    ⟨E2, 20, _, rfl, by omega, by omega, rfl, H2, by rw [List.append_nil, List.length_append, htl, hXl]; omega, fun j => ?_⟩ ?_
  · rcases Nat.lt_trichotomy j i with h1 | h1 | h1
    · have := hc j h1
      rw [← List.take_append_drop (20 * i) M, hd] at this
      rw [show j * 20 = 20 * j by omega]
      have h2 : Ck bt (M.take (20 * i) ++ L.drop (20 * i) ++ []) L (20 * j) 20 := by rw [List.append_nil]; exact this
      exact h2.upd (by rw [hXl, hdl]) (.inl (by rw [htl]; omega))
    · subst h1
      have e : ch (M.take (20 * j) ++ X' ++ []) (j * 20) 20 = X' := by
        rw [List.append_nil, ch_full (by rw [List.length_append, htl, hXl]; omega), List.drop_left' (by rw [htl]; omega)]
      have e2 : ch L (j * 20) 20 = L.drop (20 * j) := by rw [ch_full (by omega), Nat.mul_comm]
      unfold Ck
      rw [e, e2]
      exact ⟨hp, hs'⟩
    · exact Ck.nil (by rw [List.append_nil, List.length_append, htl, hXl]; omega) (by omega)
  rintro n J2 x w3 k1 ⟨hE3, bs, M3, rfl, hb0, hb1, rfl, H3, hM3, hc3⟩ hk1
  rw [bin_lss]
  refine wIf_d (fun hlt => ?_) (fun hge => ?_)
  · have hlt : bs < N := by omega
    rw [bin_mul (by omega)]
    -- what a merge makes of two chunks
    have merge : ∀ (w4 : World) (M4 : List Nat) (i q : Nat) (k4 : Value → World → Prop), Ex [g] w w4 → IR w4 g M4 rest → M4.length = N → i * (2 * bs) + bs < N → q = min (i * (2 * bs) + 2 * bs) N → (∀ j, j < i → Ck bt M4 L (j * (2 * bs)) (2 * bs)) → (∀ j, 2 * i ≤ j → Ck bt M4 L (j * bs) bs) →
        (∀ w5 M5, Ex [g] w w5 → IR w5 g M5 rest → M5.length = N → (∀ j, j < i + 1 → Ck bt M5 L (j * (2 * bs)) (2 * bs)) → (∀ j, 2 * (i + 1) ≤ j → Ck bt M5 L (j * bs) bs) → k4 (.tuple #[]) w5) →
        wCall P n_slices_symMergeCmpFunc_int [sli g N c, .int .i64 ((i * (2 * bs) : Nat) : Int), .int .i64 ((i * (2 * bs) + bs : Nat) : Int), .int .i64 (q : Int), f] w4 k4 := by
      intro w4 M4 i q k4 hE4 H4 hM4 hib hq hlo hhi hk4
      generalize ha : i * (2 * bs) = a at *
      have ea1 : 2 * i * bs = a := by rw [← ha, Nat.mul_comm 2 i, Nat.mul_assoc]
      have ea2 : (2 * i + 1) * bs = a + bs := by rw [Nat.add_mul, ea1, Nat.one_mul]
      have c1 := hhi (2 * i) (Nat.le_refl _)
      have c2 := hhi (2 * i + 1) (by omega)
      rw [ea1] at c1
      rw [ea2] at c2
      have lX : (ch M4 a bs).length = bs := ch_len (by omega)
      have lY : (ch M4 (a + bs) bs).length = q - (a + bs) := by unfold ch; rw [List.length_take, List.length_drop]; omega
      have lA : (M4.take a).length = a := by rw [List.length_take]; omega
      have lB : (M4.drop q).length = N - q := by rw [List.length_drop]; omega
      have hcat : ch M4 a (2 * bs) = ch M4 a bs ++ ch M4 (a + bs) bs := by rw [Nat.two_mul, ch_cat]
      have hdq : M4.drop (a + 2 * bs) = M4.drop q := by
        rcases Nat.le_total (a + 2 * bs) N with h | h
        · rw [hq, Nat.min_eq_left h]
        · rw [hq, Nat.min_eq_right h, List.drop_of_length_le (by omega), List.drop_of_length_le (by omega)]
      have hsp : M4.take a ++ ch M4 a bs ++ ch M4 (a + bs) bs ++ M4.drop q = M4 := by
        have := ch_split M4 a (2 * bs)
        rw [hcat, hdq] at this
        rw [← List.append_assoc] at this
        exact this
      refine slices_sym C S _ (M4.take a) (ch M4 a bs) (ch M4 (a + bs) bs) (M4.drop q) _ _ _ w4 k4 rfl (by omega) (by omega) (C.keep _ _ hI hE4) (by rw [hsp]; exact H4) ⟨by rw [lA, lX, lY, lB]; omega, by omega, fun x hx => ?_, c1.2, c2.2, fun x hx y hy => ch_lt hL (Nat.le_refl _) x (c1.1.mem_iff.1 hx) y (c2.1.mem_iff.1 hy)⟩ (by rw [lA]) (by rw [lA, lX]; omega) (by rw [lA, lX, lY]; omega) fun w5 Z hE5 H5 hp hz => ?_
      · rcases List.mem_append.1 hx with hx | hx
        · exact hD x (ch_mem (c1.1.mem_iff.1 hx))
        · exact hD x (ch_mem (c2.1.mem_iff.1 hx))
      · have lZ : Z.length = (ch M4 a bs ++ ch M4 (a + bs) bs).length := hp.length_eq
        have lZ' : Z.length = q - a := by rw [lZ, List.length_append, lX, lY]; omega
        have hsp2 : M4.take a ++ (ch M4 a bs ++ ch M4 (a + bs) bs) ++ M4.drop q = M4 := by rw [← List.append_assoc]; exact hsp
        refine hk4 w5 _ (hE4.trans hE5) H5 (by rw [List.length_append, List.length_append, lA, lZ', lB]; omega) (fun j hj => ?_) fun j hj => ?_
        · rcases Nat.lt_or_ge j i with h1 | h1
          · have := hlo j h1
            rw [← hsp2] at this
            refine this.upd lZ (.inl ?_)
            have := Nat.mul_le_mul_right (2 * bs) (show j + 1 ≤ i by omega)
            rw [Nat.succ_mul, ha] at this
            omega
          · obtain rfl : j = i := by omega
            rw [ha]
            have e : ch (M4.take a ++ Z ++ M4.drop q) a (2 * bs) = Z := by
              rcases Nat.le_total (a + 2 * bs) N with h | h
              · have := ch_mid (A := M4.take a) (X := Z) (B := M4.drop q)
                rw [lA, lZ', show q - a = 2 * bs by omega] at this
                exact this
              · have hqN : q = N := by omega
                rw [hqN, List.drop_of_length_le (show M4.length ≤ N by omega), List.append_nil, ch_full (by rw [List.length_append, lA, lZ']; omega), List.drop_left' lA]
            unfold Ck
            rw [e, Nat.two_mul bs, ch_cat L]
            exact ⟨hp.trans (c1.1.append c2.1), hz⟩
        · have := hhi j (by omega)
          rw [← hsp2] at this
          have hjb := Nat.mul_le_mul_right bs hj
          rw [show 2 * (i + 1) * bs = a + 2 * bs by rw [Nat.mul_add, Nat.add_mul, ea1]] at hjb
          rcases Nat.le_total (a + 2 * bs) N with h | h
          · exact this.upd lZ (.inr (by rw [lA, ← lZ, lZ']; omega))
          · exact Ck.nil (by rw [List.length_append, List.length_append, lA, lZ', lB]; omega) (by omega)
    have next : ∀ (w4 : World) (M4 : List Nat), Ex [g] w w4 → IR w4 g M4 rest → M4.length = N → (∀ j, Ck bt M4 L (j * (2 * bs)) (2 * bs)) → (wBin P .mul T_int (.int .i64 (bs : Int)) (.int .i64 2) w4 fun t62 w => k1 t62 w) := by
      intro w4 M4 hE4 H4 hM4 hc4
      rw [bin_mul (by omega)]
      refine hk1 (N + 1 - 2 * bs) _ _ (by omega) ⟨hE4, 2 * bs, M4, rfl, by omega, by omega, by congr 1; omega, H4, hM4, hc4⟩
    refine j1_of (fun v w' => Ex [g] w w' ∧ ∃ (i : Nat) (M : List Nat), v = .int .i64 ((i * (2 * bs) : Nat) : Int) ∧ IR w' g M rest ∧ M.length = N ∧ i * (2 * bs) ≤ N ∧ N < i * (2 * bs) + 2 * bs ∧ (∀ j, j < i → Ck bt M L (j * (2 * bs)) (2 * bs)) ∧ (∀ j, 2 * i ≤ j → Ck bt M L (j * bs) bs)) (fun k3 hk3 => ?_) ?_
    · refine loop_m2 (n := N + 1) (fun n x y w' => Ex [g] w w' ∧ ∃ (i : Nat) (M : List Nat), n = N + 1 - i * (2 * bs) ∧ x = .int .i64 ((i * (2 * bs) : Nat) : Int) ∧ y = .int .i64 ((i * (2 * bs) + 2 * bs : Nat) : Int) ∧ IR w' g M rest ∧ M.length = N ∧ i * (2 * bs) ≤ N ∧ (∀ j, j < i → Ck bt M L (j * (2 * bs)) (2 * bs)) ∧ (∀ j, 2 * i ≤ j → Ck bt M L (j * bs) bs))
        ⟨hE3, 0, M3, by simp, by simp, by congr 1; omega, H3, hM3, by omega, fun j hj => by omega, fun j _ => hc3 j⟩ ?_
      rintro n J3 x y w4 k4 ⟨hE4, i, M4, rfl, rfl, rfl, H4, hM4, hi4, hlo, hhi⟩ hk4
      rw [bin_leq]
      refine wIf_d (fun hle => ?_) (fun hgt => ?_)
      · have hle : i * (2 * bs) + 2 * bs ≤ N := by omega
        rw [bin_add (by omega), show (((i * (2 * bs) : Nat) : Int) + (bs : Int)) = ((i * (2 * bs) + bs : Nat) : Int) by omega]
        refine merge w4 M4 i _ _ hE4 H4 hM4 (by omega) (Nat.min_eq_left hle).symm hlo hhi fun w5 M5 hE5 H5 hM5 hlo5 hhi5 => ?_
        rw [bin_mul (by omega), bin_add (by omega)]
        have e2 : (i + 1) * (2 * bs) = i * (2 * bs) + 2 * bs := Nat.succ_mul i (2 * bs)
        refine hk4 (N + 1 - (i + 1) * (2 * bs)) _ _ _ (by rw [e2]; omega) ⟨hE5, i + 1, M5, rfl, congrArg (Value.int .i64) (by rw [e2]), congrArg (Value.int .i64) (by rw [e2]; omega), H5, hM5, by rw [e2]; omega, hlo5, hhi5⟩
      · exact hk3 _ w4 ⟨hE4, i, M4, rfl, H4, hM4, hi4, by omega, hlo, hhi⟩
    · rintro J3 v w4 ⟨hE4, i, M4, rfl, H4, hM4, hi4, hi5, hlo, hhi⟩
      rw [bin_add (by omega), show (((i * (2 * bs) : Nat) : Int) + (bs : Int)) = ((i * (2 * bs) + bs : Nat) : Int) by omega, bin_lss]
      have after : ∀ M : List Nat, M.length = N → (∀ j, j < i + 1 → Ck bt M L (j * (2 * bs)) (2 * bs)) → ∀ j, Ck bt M L (j * (2 * bs)) (2 * bs) := by
        intro M hM h j
        rcases Nat.lt_or_ge j (i + 1) with h1 | h1
        · exact h j h1
        · have := Nat.mul_le_mul_right (2 * bs) h1
          rw [Nat.succ_mul] at this
          exact Ck.nil (by omega) (by omega)
      refine wIf_d (fun hlt2 => ?_) (fun hge2 => ?_)
      · refine merge w4 M4 i N _ hE4 H4 hM4 (by omega) (Nat.min_eq_right (by omega)).symm hlo hhi fun w5 M5 hE5 H5 hM5 hlo5 _ => ?_
        exact next w5 M5 hE5 H5 hM5 (after M5 hM5 hlo5)
      · refine next w4 M4 hE4 H4 hM4 (after M4 hM4 fun j hj => ?_)
        rcases Nat.lt_or_ge j i with h1 | h1
        · exact hlo j h1
        · obtain rfl : j = i := by omega
          have := hhi (2 * j) (Nat.le_refl _)
          rw [show 2 * j * bs = j * (2 * bs) by rw [Nat.mul_comm 2 j, Nat.mul_assoc]] at this
          unfold Ck at this ⊢
          rw [ch_full (by omega), ch_full (by omega)] at this
          rw [ch_full (by omega), ch_full (by omega)]
          exact this
  · have := hc3 0
    unfold Ck at this
    rw [Nat.zero_mul, ch_full (by omega), ch_full (by omega), List.drop_zero, List.drop_zero] at this
    exact hk w3 M3 hE3 H3 this.1 this.2
end
end Go.Dn
end
section
/-! Texts of functions, printed by mkg.py. -/
set_option maxRecDepth 100000
set_option linter.unusedVariables false
namespace Go.Dn
open Go Go.Proofs
def F_codec_WriteUses (a0 : Value) (w : World) (k : Value → World → Prop) : Prop :=
  wAlloc P T_api_Sector w fun t2 w =>
  wCall P n_codec_write_LLcodec_Use [(.int .u8 5), a0, (.func (.func n_codec_passUses) #[] #[]), (.func (.func n_codec_mayUses) #[] #[])] w fun t5 w =>
  wExtract P t5 0 w fun t6 w =>
  wExtract P t5 1 w fun t7 w =>
  wStore P T_api_Sector t2 t6 w fun w =>
  wRes P T_api_Sector t2 w fun r2 =>
  k (.tuple #[r2, t7]) w

theorem call_codec_WriteUses (a0 : Value) {w : World} {k : Value → World → Prop} (h : F_codec_WriteUses a0 w k) : wCall P n_codec_WriteUses [a0] w k :=
  call_of_den mixedP Try.func48 (by kernel_rfl) .z (by kernel_rfl) (Eq.mp (by kernel_rfl) h)

def F_codec_ReadUses (a0 : Value) (w : World) (k : Value → World → Prop) : Prop :=
  wBox P T_api_Sector a0 w fun t1 w =>
  wLoad P T_api_Sector t1 w fun t4 w =>
  wCall P n_codec_read_LLcodec_Use [(.int .u8 5), t4, (.func (.func n_codec_passUses) #[] #[]), (.func (.func n_codec_mayUses) #[] #[])] w fun t5 w =>
  wExtract P t5 0 w fun t6 w =>
  wExtract P t5 1 w fun t7 w =>
  k (.tuple #[t6, t7]) w

theorem call_codec_ReadUses (a0 : Value) {w : World} {k : Value → World → Prop} (h : F_codec_ReadUses a0 w k) : wCall P n_codec_ReadUses [a0] w k :=
  call_of_den mixedP Try.func50 (by kernel_rfl) .z (by kernel_rfl) (Eq.mp (by kernel_rfl) h)

def F_codec_WriteInode (a0 : Value) (w : World) (k : Value → World → Prop) : Prop :=
  wBox P T_codec_Inode a0 w fun t1 w =>
  wAlloc P T_api_Sector w fun t2 w =>
  wLoad P T_codec_Inode t1 w fun t4 w =>
  wCall P n_codec_write_codec_Inode [(.int .u8 2), t4, (.func (.func n_codec_passInode) #[] #[]), (.func (.func n_codec_mayInode) #[] #[])] w fun t5 w =>
  wExtract P t5 0 w fun t6 w =>
  wExtract P t5 1 w fun t7 w =>
  wStore P T_api_Sector t2 t6 w fun w =>
  wRes P T_api_Sector t2 w fun r2 =>
  k (.tuple #[r2, t7]) w

theorem call_codec_WriteInode (a0 : Value) {w : World} {k : Value → World → Prop} (h : F_codec_WriteInode a0 w k) : wCall P n_codec_WriteInode [a0] w k :=
  call_of_den mixedP Try.func55 (by kernel_rfl) .z (by kernel_rfl) (Eq.mp (by kernel_rfl) h)

def F_codec_ReadInode (a0 : Value) (w : World) (k : Value → World → Prop) : Prop :=
  wBox P T_api_Sector a0 w fun t1 w =>
  wAlloc P T_codec_Inode w fun t2 w =>
  wLoad P T_api_Sector t1 w fun t4 w =>
  wCall P n_codec_read_codec_Inode [(.int .u8 2), t4, (.func (.func n_codec_passInode) #[] #[]), (.func (.func n_codec_mayInode) #[] #[])] w fun t5 w =>
  wExtract P t5 0 w fun t6 w =>
  wExtract P t5 1 w fun t7 w =>
  wStore P T_codec_Inode t2 t6 w fun w =>
  wRes P T_codec_Inode t2 w fun r2 =>
  k (.tuple #[r2, t7]) w

theorem call_codec_ReadInode (a0 : Value) {w : World} {k : Value → World → Prop} (h : F_codec_ReadInode a0 w k) : wCall P n_codec_ReadInode [a0] w k :=
  call_of_den mixedP Try.func58 (by kernel_rfl) .z (by kernel_rfl) (Eq.mp (by kernel_rfl) h)

def F_codec_WriteHeader (a0 : Value) (w : World) (k : Value → World → Prop) : Prop :=
  wBox P T_codec_Header a0 w fun t1 w =>
  wAlloc P T_api_Sector w fun t2 w =>
  wLoad P T_codec_Header t1 w fun t4 w =>
  wCall P n_codec_write_codec_Header [(.int .u8 6), t4, (.func (.func n_codec_passHeader) #[] #[]), (.func (.func n_codec_mayHeader) #[] #[])] w fun t5 w =>
  wExtract P t5 0 w fun t6 w =>
  wExtract P t5 1 w fun t7 w =>
  wStore P T_api_Sector t2 t6 w fun w =>
  wRes P T_api_Sector t2 w fun r2 =>
  k (.tuple #[r2, t7]) w

theorem call_codec_WriteHeader (a0 : Value) {w : World} {k : Value → World → Prop} (h : F_codec_WriteHeader a0 w k) : wCall P n_codec_WriteHeader [a0] w k :=
  call_of_den mixedP Try.func61 (by kernel_rfl) .z (by kernel_rfl) (Eq.mp (by kernel_rfl) h)

def F_codec_ReadHeader (a0 : Value) (w : World) (k : Value → World → Prop) : Prop :=
  wBox P T_api_Sector a0 w fun t1 w =>
  wAlloc P T_codec_Header w fun t2 w =>
  wLoad P T_api_Sector t1 w fun t4 w =>
  wCall P n_codec_read_codec_Header [(.int .u8 6), t4, (.func (.func n_codec_passHeader) #[] #[]), (.func (.func n_codec_mayHeader) #[] #[])] w fun t5 w =>
  wExtract P t5 0 w fun t6 w =>
  wExtract P t5 1 w fun t7 w =>
  wStore P T_codec_Header t2 t6 w fun w =>
  wRes P T_codec_Header t2 w fun r2 =>
  k (.tuple #[r2, t7]) w

theorem call_codec_ReadHeader (a0 : Value) {w : World} {k : Value → World → Prop} (h : F_codec_ReadHeader a0 w k) : wCall P n_codec_ReadHeader [a0] w k :=
  call_of_den mixedP Try.func63 (by kernel_rfl) .z (by kernel_rfl) (Eq.mp (by kernel_rfl) h)

def F_codec_WritePointers (a0 : Value) (w : World) (k : Value → World → Prop) : Prop :=
  wBox P T_A32int a0 w fun t1 w =>
  wAlloc P T_api_Sector w fun t2 w =>
  wAlloc P T_num_Writer w fun t4 w =>
  wJ0 (fun k1 =>
    wLoad P T_A32int t1 w fun t7 w =>
    wL1 (.int .i64 0) w (fun _ v8 w k2 =>
      wBin P .lss T_int v8 (.int .i64 32) w fun t9 w =>
      wIf t9 (
        wIndex P T_A32int t7 v8 w fun t10 w =>
        wCall P n_codec_among [t10, (.int .i64 0), (.int .i64 65535)] w fun t12 w =>
        wUn P .not t12 w fun t13 w =>
        wIf t13 (
          wBuild P T_api_Sector [] w fun t14 w =>
          wStore P T_api_Sector t2 t14 w fun w =>
          wRes P T_api_Sector t2 w fun r2 =>
          k (.tuple #[r2, (.int .i64 1)]) w) (
          wConv P T_int T_uint64 t10 w fun t16 w =>
          wCall P n_num_Writer_Num [t4, (.int .i64 4), t16] w fun _ w =>
          wBin P .add T_int v8 (.int .i64 1) w fun t18 w =>
          k2 t18 w)) (
        k1 w))) fun _ w =>
  wCall P n_num_Writer_Sector [t4] w fun t19 w =>
  wExtract P t19 0 w fun t20 w =>
  wExtract P t19 1 w fun t21 w =>
  wStore P T_api_Sector t2 t20 w fun w =>
  wRes P T_api_Sector t2 w fun r2 =>
  k (.tuple #[r2, t21]) w

theorem call_codec_WritePointers (a0 : Value) {w : World} {k : Value → World → Prop} (h : F_codec_WritePointers a0 w k) : wCall P n_codec_WritePointers [a0] w k :=
  call_of_den mixedP Try.func65 (by kernel_rfl) (.s .z (.s .z (.j [] [2, 4] (.s .z (.b (.l [8] [2, 4, 7] .z))) .z))) (by kernel_rfl) (Eq.mp (by kernel_rfl) h)

def F_codec_ReadPointers (a0 : Value) (w : World) (k : Value → World → Prop) : Prop :=
  wBox P T_api_Sector a0 w fun t1 w =>
  wAlloc P T_A32int w fun t2 w =>
  wAlloc P T_A32int w fun t4 w =>
  wLoad P T_api_Sector t1 w fun t8 w =>
  wCall P n_num_Read [t8] w fun t9 w =>
  wJ0 (fun k1 =>
    wL1 (.int .i64 0) w (fun _ v10 w k2 =>
      wBin P .lss T_int v10 (.int .i64 32) w fun t11 w =>
      wIf t11 (
        wCall P n_num_Reader_Num [t9, (.int .i64 4)] w fun t14 w =>
        wBin P .geq T_uint64 t14 (.int .u64 65536) w fun t16 w =>
        wIf t16 (
          wBuild P T_A32int [] w fun t17 w =>
          wStore P T_A32int t2 t17 w fun w =>
          wRes P T_A32int t2 w fun r2 =>
          k (.tuple #[r2, (.int .i64 21)]) w) (
          wConv P T_uint64 T_int t14 w fun t20 w =>
          wIndexA P T_A32int t4 v10 w fun t21 w =>
          wStore P T_int t21 t20 w fun w =>
          wBin P .add T_int v10 (.int .i64 1) w fun t22 w =>
          k2 t22 w)) (
        k1 w))) fun _ w =>
  wLoad P T_A32int t4 w fun t23 w =>
  wStore P T_A32int t2 t23 w fun w =>
  wRes P T_A32int t2 w fun r2 =>
  k (.tuple #[r2, (.int .i64 0)]) w

theorem call_codec_ReadPointers (a0 : Value) {w : World} {k : Value → World → Prop} (h : F_codec_ReadPointers a0 w k) : wCall P n_codec_ReadPointers [a0] w k :=
  call_of_den mixedP Try.func67 (by kernel_rfl) (.s .z (.s .z (.s .z (.j [] [2, 4] (.s .z (.b (.l [10] [2, 4, 5] .z))) .z)))) (by kernel_rfl) (Eq.mp (by kernel_rfl) h)

def F_codec_WriteSlots (a0 : Value) (w : World) (k : Value → World → Prop) : Prop :=
  wAlloc P T_api_Sector w fun t2 w =>
  wCall P n_codec_write_LLcodec_Slot [(.int .u8 4), a0, (.func (.func n_codec_passSlots) #[] #[]), (.func (.func n_codec_maySlots) #[] #[])] w fun t5 w =>
  wExtract P t5 0 w fun t6 w =>
  wExtract P t5 1 w fun t7 w =>
  wStore P T_api_Sector t2 t6 w fun w =>
  wRes P T_api_Sector t2 w fun r2 =>
  k (.tuple #[r2, t7]) w

theorem call_codec_WriteSlots (a0 : Value) {w : World} {k : Value → World → Prop} (h : F_codec_WriteSlots a0 w k) : wCall P n_codec_WriteSlots [a0] w k :=
  call_of_den mixedP Try.func74 (by kernel_rfl) .z (by kernel_rfl) (Eq.mp (by kernel_rfl) h)

def F_codec_ReadSlots (a0 : Value) (w : World) (k : Value → World → Prop) : Prop :=
  wBox P T_api_Sector a0 w fun t1 w =>
  wLoad P T_api_Sector t1 w fun t4 w =>
  wCall P n_codec_read_LLcodec_Slot [(.int .u8 4), t4, (.func (.func n_codec_passSlots) #[] #[]), (.func (.func n_codec_maySlots) #[] #[])] w fun t5 w =>
  wExtract P t5 0 w fun t6 w =>
  wExtract P t5 1 w fun t7 w =>
  k (.tuple #[t6, t7]) w

theorem call_codec_ReadSlots (a0 : Value) {w : World} {k : Value → World → Prop} (h : F_codec_ReadSlots a0 w k) : wCall P n_codec_ReadSlots [a0] w k :=
  call_of_den mixedP Try.func76 (by kernel_rfl) .z (by kernel_rfl) (Eq.mp (by kernel_rfl) h)

def F_codec_WriteRecords (a0 : Value) (w : World) (k : Value → World → Prop) : Prop :=
  wAlloc P T_api_Sector w fun t2 w =>
  wCall P n_codec_write_LLcodec_Record [(.int .u8 7), a0, (.func (.func n_codec_passRecords) #[] #[]), (.func (.func n_codec_mayRecords) #[] #[])] w fun t5 w =>
  wExtract P t5 0 w fun t6 w =>
  wExtract P t5 1 w fun t7 w =>
  wStore P T_api_Sector t2 t6 w fun w =>
  wRes P T_api_Sector t2 w fun r2 =>
  k (.tuple #[r2, t7]) w

theorem call_codec_WriteRecords (a0 : Value) {w : World} {k : Value → World → Prop} (h : F_codec_WriteRecords a0 w k) : wCall P n_codec_WriteRecords [a0] w k :=
  call_of_den mixedP Try.func78 (by kernel_rfl) .z (by kernel_rfl) (Eq.mp (by kernel_rfl) h)

def F_codec_ReadRecords (a0 : Value) (w : World) (k : Value → World → Prop) : Prop :=
  wBox P T_api_Sector a0 w fun t1 w =>
  wLoad P T_api_Sector t1 w fun t4 w =>
  wCall P n_codec_read_LLcodec_Record [(.int .u8 7), t4, (.func (.func n_codec_passRecords) #[] #[]), (.func (.func n_codec_mayRecords) #[] #[])] w fun t5 w =>
  wExtract P t5 0 w fun t6 w =>
  wExtract P t5 1 w fun t7 w =>
  k (.tuple #[t6, t7]) w

theorem call_codec_ReadRecords (a0 : Value) {w : World} {k : Value → World → Prop} (h : F_codec_ReadRecords a0 w k) : wCall P n_codec_ReadRecords [a0] w k :=
  call_of_den mixedP Try.func80 (by kernel_rfl) .z (by kernel_rfl) (Eq.mp (by kernel_rfl) h)

def F_codec_WriteSummary (a0 : Value) (w : World) (k : Value → World → Prop) : Prop :=
  wBox P T_codec_Summary a0 w fun t1 w =>
  wAlloc P T_api_Sector w fun t2 w =>
  wLoad P T_codec_Summary t1 w fun t4 w =>
  wCall P n_codec_write_codec_Summary [(.int .u8 3), t4, (.func (.func n_codec_passSummary) #[] #[]), (.func (.func n_codec_maySummary) #[] #[])] w fun t5 w =>
  wExtract P t5 0 w fun t6 w =>
  wExtract P t5 1 w fun t7 w =>
  wStore P T_api_Sector t2 t6 w fun w =>
  wRes P T_api_Sector t2 w fun r2 =>
  k (.tuple #[r2, t7]) w

theorem call_codec_WriteSummary (a0 : Value) {w : World} {k : Value → World → Prop} (h : F_codec_WriteSummary a0 w k) : wCall P n_codec_WriteSummary [a0] w k :=
  call_of_den mixedP Try.func82 (by kernel_rfl) .z (by kernel_rfl) (Eq.mp (by kernel_rfl) h)

def F_codec_ReadSummary (a0 : Value) (w : World) (k : Value → World → Prop) : Prop :=
  wBox P T_api_Sector a0 w fun t1 w =>
  wAlloc P T_codec_Summary w fun t2 w =>
  wLoad P T_api_Sector t1 w fun t9 w =>
  wCall P n_codec_read_codec_Summary [(.int .u8 3), t9, (.func (.func n_codec_passSummary) #[] #[]), (.func (.func n_codec_maySummary) #[] #[])] w fun t10 w =>
  wExtract P t10 0 w fun t11 w =>
  wExtract P t10 1 w fun t12 w =>
  wAlloc P T_codec_Summary w fun t4 w =>
  wStore P T_codec_Summary t4 t11 w fun w =>
  wLoad P T_codec_Summary t4 w fun t14 w =>
  wCall P n_codec_WriteSummary [t14] w fun t15 w =>
  wExtract P t15 0 w fun t16 w =>
  wExtract P t15 1 w fun t17 w =>
  wAlloc P T_api_Sector w fun t6 w =>
  wStore P T_api_Sector t6 t16 w fun w =>
  wBin P .neq T_api_Errno t12 (.int .i64 0) w fun t19 w =>
  wGrp t19 false (fun k22 =>
    wBin P .neq T_api_Errno t17 (.int .i64 0) w fun t22 w =>
    k22 t22 w) w fun _ t22 w =>
  wPick t19 (.bool true) t22 w fun t23 w =>
  wGrp t23 false (fun k27 =>
    wLoad P T_api_Sector t6 w fun t25 w =>
    wLoad P T_api_Sector t1 w fun t26 w =>
    wBin P .neq T_api_Sector t25 t26 w fun t27 w =>
    k27 t27 w) w fun _ t27 w =>
  wPick t23 (.bool true) t27 w fun t28 w =>
  wIf t28 (
    wBuild P T_codec_Summary [] w fun t29 w =>
    wStore P T_codec_Summary t2 t29 w fun w =>
    wRes P T_codec_Summary t2 w fun r2 =>
    k (.tuple #[r2, (.int .i64 21)]) w) (
    wLoad P T_codec_Summary t4 w fun t30 w =>
    wStore P T_codec_Summary t2 t30 w fun w =>
    wRes P T_codec_Summary t2 w fun r2 =>
    k (.tuple #[r2, (.int .i64 0)]) w)

theorem call_codec_ReadSummary (a0 : Value) {w : World} {k : Value → World → Prop} (h : F_codec_ReadSummary a0 w k) : wCall P n_codec_ReadSummary [a0] w k :=
  call_of_den mixedP Try.func85 (by kernel_rfl) (.s .z (.s .z (.s (.s .z (.s (.r (.ops [0, 1, 2] (.grp 2 false 22 [21] (.ops [3, 4] .nil) (.ops [5, 6] (.grp 6 false 27 [25, 26] (.ops [7, 8, 9] .nil) (.ops [10] .nil)))))) .z)) .z))) (by kernel_rfl) (Eq.mp (by kernel_rfl) h)

def F_codec_write_LLcodec_Use (a0 a1 a2 a3 : Value) (w : World) (k : Value → World → Prop) : Prop :=
  wBox P T_Lcodec_Use a1 w fun t5 w =>
  wAlloc P T_api_Sector w fun t8 w =>
  wBuild P T_codec_writer [] w fun t11 w =>
  wBox P T_codec_writer t11 w fun t12 w =>
  wLoad P T_Lcodec_Use t5 w fun t14 w =>
  wCallV P a3 [t14] w fun t15 w =>
  wUn P .not t15 w fun t16 w =>
  wIf t16 (
    wBuild P T_api_Sector [] w fun t17 w =>
    wStore P T_api_Sector t8 t17 w fun w =>
    wRes P T_api_Sector t8 w fun r8 =>
    k (.tuple #[r8, (.int .i64 1)]) w) (
    wIface P T_pcodec_writer t12 w fun t20 w =>
    wCallV P a2 [t20, t5] w fun _ w =>
    wNil P t12 w fun t23 w =>
    wFieldA P T_codec_writer t23 1 w fun t24 w =>
    wLoad P T_bool t24 w fun t25 w =>
    wIf t25 (
      wBuild P T_api_Sector [] w fun t26 w =>
      wStore P T_api_Sector t8 t26 w fun w =>
      wRes P T_api_Sector t8 w fun r8 =>
      k (.tuple #[r8, (.int .i64 1)]) w) (
      wNil P t12 w fun t29 w =>
      wFieldA P T_codec_writer t29 0 w fun t30 w =>
      wLoad P T_Luint8 t30 w fun t31 w =>
      wCall P n_seal_Make [a0, t31] w fun t32 w =>
      wExtract P t32 0 w fun t33 w =>
      wExtract P t32 1 w fun t34 w =>
      wStore P T_api_Sector t8 t33 w fun w =>
      wRes P T_api_Sector t8 w fun r8 =>
      k (.tuple #[r8, t34]) w))

theorem call_codec_write_LLcodec_Use (a0 a1 a2 a3 : Value) {w : World} {k : Value → World → Prop} (h : F_codec_write_LLcodec_Use a0 a1 a2 a3 w k) : wCall P n_codec_write_LLcodec_Use [a0, a1, a2, a3] w k :=
  call_of_den mixedP Try.func151 (by kernel_rfl) .z (by kernel_rfl) (Eq.mp (by kernel_rfl) h)

def F_codec_passUses (a0 a1 : Value) (w : World) (k : Value → World → Prop) : Prop :=
  wCall P n_codec_list_codec_Use [a0, a1, (.func (.func n_codec_passUse) #[] #[])] w fun _ w =>
  k (.tuple #[]) w

theorem call_codec_passUses (a0 a1 : Value) {w : World} {k : Value → World → Prop} (h : F_codec_passUses a0 a1 w k) : wCall P n_codec_passUses [a0, a1] w k :=
  call_of_den mixedP Try.func152 (by kernel_rfl) .z (by kernel_rfl) (Eq.mp (by kernel_rfl) h)

def F_codec_mayUses (a0 : Value) (w : World) (k : Value → World → Prop) : Prop :=
  wCall P n_codec_each_codec_Use [(.int .i64 15), (.func (.func n_codec_mayUses_c1) #[] #[])] w fun t3 w =>
  wCallV P t3 [a0] w fun t5 w =>
  k t5 w

theorem call_codec_mayUses (a0 : Value) {w : World} {k : Value → World → Prop} (h : F_codec_mayUses a0 w k) : wCall P n_codec_mayUses [a0] w k :=
  call_of_den mixedP Try.func153 (by kernel_rfl) .z (by kernel_rfl) (Eq.mp (by kernel_rfl) h)

def F_codec_read_LLcodec_Use (a0 a1 a2 a3 : Value) (w : World) (k : Value → World → Prop) : Prop :=
  wBox P T_api_Sector a1 w fun t5 w =>
  wAlloc P T_Lcodec_Use w fun t10 w =>
  wLoad P T_api_Sector t5 w fun t17 w =>
  wCall P n_seal_Open [t17] w fun t18 w =>
  wExtract P t18 0 w fun t19 w =>
  wExtract P t18 1 w fun t20 w =>
  wExtract P t18 2 w fun t21 w =>
  wBin P .neq T_api_Errno t21 (.int .i64 0) w fun t23 w =>
  wGrp t23 false (fun k27 =>
    wBin P .neq T_uint8 t19 a0 w fun t27 w =>
    k27 t27 w) w fun _ t27 w =>
  wPick t23 (.bool true) t27 w fun t28 w =>
  wIf t28 (
    k (.tuple #[(.slice none 0 0), (.int .i64 21)]) w) (
    wBuild P T_codec_reader [(0, t20)] w fun t31 w =>
    wBox P T_codec_reader t31 w fun t32 w =>
    wIface P T_pcodec_reader t32 w fun t35 w =>
    wCallV P a2 [t35, t10] w fun _ w =>
    wNil P t32 w fun t38 w =>
    wFieldA P T_codec_reader t38 2 w fun t39 w =>
    wLoad P T_bool t39 w fun t40 w =>
    wGrp t40 false (fun k48 =>
      wNil P t32 w fun t43 w =>
      wFieldA P T_codec_reader t43 1 w fun t44 w =>
      wLoad P T_int t44 w fun t45 w =>
      wLen P .len #[T_Luint8] [t20] w fun t47 w =>
      wBin P .neq T_int t45 t47 w fun t48 w =>
      k48 t48 w) w fun _ t48 w =>
    wPick t40 (.bool true) t48 w fun t49 w =>
    wGrp t49 false (fun k54 =>
      wLoad P T_Lcodec_Use t10 w fun t52 w =>
      wCallV P a3 [t52] w fun t53 w =>
      wUn P .not t53 w fun t54 w =>
      k54 t54 w) w fun _ t54 w =>
    wPick t49 (.bool true) t54 w fun t55 w =>
    wIf t55 (
      k (.tuple #[(.slice none 0 0), (.int .i64 21)]) w) (
      wLoad P T_Lcodec_Use t10 w fun t57 w =>
      k (.tuple #[t57, (.int .i64 0)]) w))

theorem call_codec_read_LLcodec_Use (a0 a1 a2 a3 : Value) {w : World} {k : Value → World → Prop} (h : F_codec_read_LLcodec_Use a0 a1 a2 a3 w k) : wCall P n_codec_read_LLcodec_Use [a0, a1, a2, a3] w k :=
  call_of_den mixedP Try.func155 (by kernel_rfl) (.s .z (.s .z (.s .z (.s (.s (.r (.ops [0, 1, 2] (.grp 2 false 27 [25, 26] (.ops [3, 4, 5] .nil) (.ops [6] .nil)))) .z) (.s .z (.s (.s .z (.s (.r (.ops [0, 1, 2, 3, 4] (.grp 4 false 48 [42, 43, 44, 45, 46, 47] (.ops [5, 6, 7, 8, 9, 10, 11] .nil) (.ops [12, 13] (.grp 13 false 54 [51, 52, 53] (.ops [14, 15, 16, 17] .nil) (.ops [18] .nil)))))) .z)) .z)))))) (by kernel_rfl) (Eq.mp (by kernel_rfl) h)

def F_codec_write_codec_Inode (a0 a1 a2 a3 : Value) (w : World) (k : Value → World → Prop) : Prop :=
  wBox P T_codec_Inode a1 w fun t5 w =>
  wAlloc P T_api_Sector w fun t8 w =>
  wBuild P T_codec_writer [] w fun t11 w =>
  wBox P T_codec_writer t11 w fun t12 w =>
  wLoad P T_codec_Inode t5 w fun t14 w =>
  wCallV P a3 [t14] w fun t15 w =>
  wUn P .not t15 w fun t16 w =>
  wIf t16 (
    wBuild P T_api_Sector [] w fun t17 w =>
    wStore P T_api_Sector t8 t17 w fun w =>
    wRes P T_api_Sector t8 w fun r8 =>
    k (.tuple #[r8, (.int .i64 1)]) w) (
    wIface P T_pcodec_writer t12 w fun t20 w =>
    wCallV P a2 [t20, t5] w fun _ w =>
    wNil P t12 w fun t23 w =>
    wFieldA P T_codec_writer t23 1 w fun t24 w =>
    wLoad P T_bool t24 w fun t25 w =>
    wIf t25 (
      wBuild P T_api_Sector [] w fun t26 w =>
      wStore P T_api_Sector t8 t26 w fun w =>
      wRes P T_api_Sector t8 w fun r8 =>
      k (.tuple #[r8, (.int .i64 1)]) w) (
      wNil P t12 w fun t29 w =>
      wFieldA P T_codec_writer t29 0 w fun t30 w =>
      wLoad P T_Luint8 t30 w fun t31 w =>
      wCall P n_seal_Make [a0, t31] w fun t32 w =>
      wExtract P t32 0 w fun t33 w =>
      wExtract P t32 1 w fun t34 w =>
      wStore P T_api_Sector t8 t33 w fun w =>
      wRes P T_api_Sector t8 w fun r8 =>
      k (.tuple #[r8, t34]) w))

theorem call_codec_write_codec_Inode (a0 a1 a2 a3 : Value) {w : World} {k : Value → World → Prop} (h : F_codec_write_codec_Inode a0 a1 a2 a3 w k) : wCall P n_codec_write_codec_Inode [a0, a1, a2, a3] w k :=
  call_of_den mixedP Try.func162 (by kernel_rfl) .z (by kernel_rfl) (Eq.mp (by kernel_rfl) h)

def F_codec_passInode (a0 a1 : Value) (w : World) (k : Value → World → Prop) : Prop :=
  wDraw w fun w =>
  wNil P a1 w fun t7 w =>
  wFieldA P T_codec_Inode t7 0 w fun t8 w =>
  wFunc P (.method "drumlin/codec.word") [a0] [] w fun t9 w =>
  wNil P t9 w fun _ w =>
  wInvoke P a0 "drumlin/codec.word" [(.int .i64 2), t8] w fun _ w =>
  wDraw w fun w =>
  wNil P a1 w fun t15 w =>
  wFieldA P T_codec_Inode t15 1 w fun t16 w =>
  wFunc P (.method "drumlin/codec.word") [a0] [] w fun t17 w =>
  wNil P t17 w fun _ w =>
  wInvoke P a0 "drumlin/codec.word" [(.int .i64 4), t16] w fun _ w =>
  wDraw w fun w =>
  wNil P a1 w fun t23 w =>
  wFieldA P T_codec_Inode t23 2 w fun t24 w =>
  wFunc P (.method "drumlin/codec.int") [a0] [] w fun t25 w =>
  wNil P t25 w fun _ w =>
  wInvoke P a0 "drumlin/codec.int" [(.int .i64 1), t24] w fun _ w =>
  wDraw w fun w =>
  wNil P a1 w fun t31 w =>
  wFieldA P T_codec_Inode t31 3 w fun t32 w =>
  wFunc P (.method "drumlin/codec.int") [a0] [] w fun t33 w =>
  wNil P t33 w fun _ w =>
  wInvoke P a0 "drumlin/codec.int" [(.int .i64 4), t32] w fun _ w =>
  wDraw w fun w =>
  wNil P a1 w fun t39 w =>
  wFieldA P T_codec_Inode t39 4 w fun t40 w =>
  wFunc P (.method "drumlin/codec.word") [a0] [] w fun t41 w =>
  wNil P t41 w fun _ w =>
  wInvoke P a0 "drumlin/codec.word" [(.int .i64 4), t40] w fun _ w =>
  wJ0 (fun k1 =>
    wL1 (.int .i64 0) w (fun _ v45 w k2 =>
      wBin P .lss T_int v45 (.int .i64 8) w fun t46 w =>
      wIf t46 (
        wDraw w fun w =>
        wNil P a1 w fun t51 w =>
        wFieldA P T_codec_Inode t51 5 w fun t52 w =>
        wIndexA P T_A8int t52 v45 w fun t53 w =>
        wFunc P (.method "drumlin/codec.int") [a0] [] w fun t54 w =>
        wNil P t54 w fun _ w =>
        wInvoke P a0 "drumlin/codec.int" [(.int .i64 4), t53] w fun _ w =>
        wBin P .add T_int v45 (.int .i64 1) w fun t58 w =>
        k2 t58 w) (
        k1 w))) fun _ w =>
  wDraw w fun w =>
  wNil P a1 w fun t61 w =>
  wFieldA P T_codec_Inode t61 6 w fun t62 w =>
  wFunc P (.method "drumlin/codec.int") [a0] [] w fun t63 w =>
  wNil P t63 w fun _ w =>
  wInvoke P a0 "drumlin/codec.int" [(.int .i64 4), t62] w fun _ w =>
  wDraw w fun w =>
  wNil P a1 w fun t69 w =>
  wFieldA P T_codec_Inode t69 7 w fun t70 w =>
  wFunc P (.method "drumlin/codec.int") [a0] [] w fun t71 w =>
  wNil P t71 w fun _ w =>
  wInvoke P a0 "drumlin/codec.int" [(.int .i64 4), t70] w fun _ w =>
  k (.tuple #[]) w

theorem call_codec_passInode (a0 a1 : Value) {w : World} {k : Value → World → Prop} (h : F_codec_passInode a0 a1 w k) : wCall P n_codec_passInode [a0, a1] w k :=
  call_of_den mixedP Try.func163 (by kernel_rfl) (.s (.r (.ops [0, 1, 2, 3] (.eff 4 [] (.ops [5, 6] (.eff 7 [] .nil))))) (.s (.r (.ops [0, 1, 2, 3] (.eff 4 [] (.ops [5, 6] (.eff 7 [] .nil))))) (.s (.r (.ops [0, 1, 2, 3] (.eff 4 [] (.ops [5, 6] (.eff 7 [] .nil))))) (.s (.r (.ops [0, 1, 2, 3] (.eff 4 [] (.ops [5, 6] (.eff 7 [] .nil))))) (.s (.r (.ops [0, 1, 2, 3] (.eff 4 [] (.ops [5, 6] (.eff 7 [] .nil))))) (.j [] [0, 1] (.s .z (.b (.l [45] [0, 1] (.s .z (.s .z (.s (.b (.s .z (.r (.ops [0, 1, 2, 3, 4, 5] (.eff 6 [] (.ops [7, 8] (.eff 9 [] .nil))))))) .z)))))) (.s (.r (.ops [0, 1, 2, 3] (.eff 4 [] (.ops [5, 6] (.eff 7 [] .nil))))) (.r (.ops [0, 1, 2, 3] (.eff 4 [] (.ops [5, 6] (.eff 7 [] .nil)))))))))))) (by kernel_rfl) (Eq.mp (by kernel_rfl) h)

def F_codec_mayInode (a0 : Value) (w : World) (k : Value → World → Prop) : Prop :=
  wBox P T_codec_Inode a0 w fun t1 w =>
  wFieldA P T_codec_Inode t1 2 w fun t3 w =>
  wLoad P T_int t3 w fun t4 w =>
  wCall P n_codec_among [t4, (.int .i64 1), (.int .i64 2)] w fun t5 w =>
  k t5 w

theorem call_codec_mayInode (a0 : Value) {w : World} {k : Value → World → Prop} (h : F_codec_mayInode a0 w k) : wCall P n_codec_mayInode [a0] w k :=
  call_of_den mixedP Try.func164 (by kernel_rfl) .z (by kernel_rfl) (Eq.mp (by kernel_rfl) h)

def F_codec_read_codec_Inode (a0 a1 a2 a3 : Value) (w : World) (k : Value → World → Prop) : Prop :=
  wBox P T_api_Sector a1 w fun t5 w =>
  wAlloc P T_codec_Inode w fun t8 w =>
  wAlloc P T_codec_Inode w fun t10 w =>
  wAlloc P T_codec_Inode w fun t11 w =>
  wLoad P T_api_Sector t5 w fun t17 w =>
  wCall P n_seal_Open [t17] w fun t18 w =>
  wExtract P t18 0 w fun t19 w =>
  wExtract P t18 1 w fun t20 w =>
  wExtract P t18 2 w fun t21 w =>
  wBin P .neq T_api_Errno t21 (.int .i64 0) w fun t23 w =>
  wGrp t23 false (fun k27 =>
    wBin P .neq T_uint8 t19 a0 w fun t27 w =>
    k27 t27 w) w fun _ t27 w =>
  wPick t23 (.bool true) t27 w fun t28 w =>
  wIf t28 (
    wLoad P T_codec_Inode t11 w fun t29 w =>
    wStore P T_codec_Inode t8 t29 w fun w =>
    wRes P T_codec_Inode t8 w fun r8 =>
    k (.tuple #[r8, (.int .i64 21)]) w) (
    wBuild P T_codec_reader [(0, t20)] w fun t31 w =>
    wBox P T_codec_reader t31 w fun t32 w =>
    wIface P T_pcodec_reader t32 w fun t35 w =>
    wCallV P a2 [t35, t10] w fun _ w =>
    wNil P t32 w fun t38 w =>
    wFieldA P T_codec_reader t38 2 w fun t39 w =>
    wLoad P T_bool t39 w fun t40 w =>
    wGrp t40 false (fun k48 =>
      wNil P t32 w fun t43 w =>
      wFieldA P T_codec_reader t43 1 w fun t44 w =>
      wLoad P T_int t44 w fun t45 w =>
      wLen P .len #[T_Luint8] [t20] w fun t47 w =>
      wBin P .neq T_int t45 t47 w fun t48 w =>
      k48 t48 w) w fun _ t48 w =>
    wPick t40 (.bool true) t48 w fun t49 w =>
    wGrp t49 false (fun k54 =>
      wLoad P T_codec_Inode t10 w fun t52 w =>
      wCallV P a3 [t52] w fun t53 w =>
      wUn P .not t53 w fun t54 w =>
      k54 t54 w) w fun _ t54 w =>
    wPick t49 (.bool true) t54 w fun t55 w =>
    wIf t55 (
      wLoad P T_codec_Inode t11 w fun t56 w =>
      wStore P T_codec_Inode t8 t56 w fun w =>
      wRes P T_codec_Inode t8 w fun r8 =>
      k (.tuple #[r8, (.int .i64 21)]) w) (
      wLoad P T_codec_Inode t10 w fun t57 w =>
      wStore P T_codec_Inode t8 t57 w fun w =>
      wRes P T_codec_Inode t8 w fun r8 =>
      k (.tuple #[r8, (.int .i64 0)]) w))

theorem call_codec_read_codec_Inode (a0 a1 a2 a3 : Value) {w : World} {k : Value → World → Prop} (h : F_codec_read_codec_Inode a0 a1 a2 a3 w k) : wCall P n_codec_read_codec_Inode [a0, a1, a2, a3] w k :=
  call_of_den mixedP Try.func167 (by kernel_rfl) (.s .z (.s .z (.s .z (.s (.s (.r (.ops [0, 1, 2] (.grp 2 false 27 [25, 26] (.ops [3, 4, 5] .nil) (.ops [6] .nil)))) .z) (.s .z (.s (.s .z (.s (.r (.ops [0, 1, 2, 3, 4] (.grp 4 false 48 [42, 43, 44, 45, 46, 47] (.ops [5, 6, 7, 8, 9, 10, 11] .nil) (.ops [12, 13] (.grp 13 false 54 [51, 52, 53] (.ops [14, 15, 16, 17] .nil) (.ops [18] .nil)))))) .z)) .z)))))) (by kernel_rfl) (Eq.mp (by kernel_rfl) h)

def F_codec_write_codec_Header (a0 a1 a2 a3 : Value) (w : World) (k : Value → World → Prop) : Prop :=
  wBox P T_codec_Header a1 w fun t5 w =>
  wAlloc P T_api_Sector w fun t8 w =>
  wBuild P T_codec_writer [] w fun t11 w =>
  wBox P T_codec_writer t11 w fun t12 w =>
  wLoad P T_codec_Header t5 w fun t14 w =>
  wCallV P a3 [t14] w fun t15 w =>
  wUn P .not t15 w fun t16 w =>
  wIf t16 (
    wBuild P T_api_Sector [] w fun t17 w =>
    wStore P T_api_Sector t8 t17 w fun w =>
    wRes P T_api_Sector t8 w fun r8 =>
    k (.tuple #[r8, (.int .i64 1)]) w) (
    wIface P T_pcodec_writer t12 w fun t20 w =>
    wCallV P a2 [t20, t5] w fun _ w =>
    wNil P t12 w fun t23 w =>
    wFieldA P T_codec_writer t23 1 w fun t24 w =>
    wLoad P T_bool t24 w fun t25 w =>
    wIf t25 (
      wBuild P T_api_Sector [] w fun t26 w =>
      wStore P T_api_Sector t8 t26 w fun w =>
      wRes P T_api_Sector t8 w fun r8 =>
      k (.tuple #[r8, (.int .i64 1)]) w) (
      wNil P t12 w fun t29 w =>
      wFieldA P T_codec_writer t29 0 w fun t30 w =>
      wLoad P T_Luint8 t30 w fun t31 w =>
      wCall P n_seal_Make [a0, t31] w fun t32 w =>
      wExtract P t32 0 w fun t33 w =>
      wExtract P t32 1 w fun t34 w =>
      wStore P T_api_Sector t8 t33 w fun w =>
      wRes P T_api_Sector t8 w fun r8 =>
      k (.tuple #[r8, t34]) w))

theorem call_codec_write_codec_Header (a0 a1 a2 a3 : Value) {w : World} {k : Value → World → Prop} (h : F_codec_write_codec_Header a0 a1 a2 a3 w k) : wCall P n_codec_write_codec_Header [a0, a1, a2, a3] w k :=
  call_of_den mixedP Try.func170 (by kernel_rfl) .z (by kernel_rfl) (Eq.mp (by kernel_rfl) h)

def F_codec_passHeader (a0 a1 : Value) (w : World) (k : Value → World → Prop) : Prop :=
  wDraw w fun w =>
  wNil P a1 w fun t6 w =>
  wFieldA P T_codec_Header t6 0 w fun t7 w =>
  wFunc P (.method "drumlin/codec.wide") [a0] [] w fun t8 w =>
  wNil P t8 w fun _ w =>
  wInvoke P a0 "drumlin/codec.wide" [(.int .i64 8), t7] w fun _ w =>
  wDraw w fun w =>
  wNil P a1 w fun t14 w =>
  wFieldA P T_codec_Header t14 1 w fun t15 w =>
  wFunc P (.method "drumlin/codec.wide") [a0] [] w fun t16 w =>
  wNil P t16 w fun _ w =>
  wInvoke P a0 "drumlin/codec.wide" [(.int .i64 8), t15] w fun _ w =>
  wDraw w fun w =>
  wNil P a1 w fun t22 w =>
  wFieldA P T_codec_Header t22 2 w fun t23 w =>
  wFunc P (.method "drumlin/codec.int") [a0] [] w fun t24 w =>
  wNil P t24 w fun _ w =>
  wInvoke P a0 "drumlin/codec.int" [(.int .i64 2), t23] w fun _ w =>
  wDraw w fun w =>
  wNil P a1 w fun t30 w =>
  wFieldA P T_codec_Header t30 3 w fun t31 w =>
  wFunc P (.method "drumlin/codec.int") [a0] [] w fun t32 w =>
  wNil P t32 w fun _ w =>
  wInvoke P a0 "drumlin/codec.int" [(.int .i64 2), t31] w fun _ w =>
  wDraw w fun w =>
  wNil P a1 w fun t38 w =>
  wFieldA P T_codec_Header t38 4 w fun t39 w =>
  wFunc P (.method "drumlin/codec.int") [a0] [] w fun t40 w =>
  wNil P t40 w fun _ w =>
  wInvoke P a0 "drumlin/codec.int" [(.int .i64 2), t39] w fun _ w =>
  wDraw w fun w =>
  wNil P a1 w fun t46 w =>
  wFieldA P T_codec_Header t46 5 w fun t47 w =>
  wFunc P (.method "drumlin/codec.word") [a0] [] w fun t48 w =>
  wNil P t48 w fun _ w =>
  wInvoke P a0 "drumlin/codec.word" [(.int .i64 4), t47] w fun _ w =>
  k (.tuple #[]) w

theorem call_codec_passHeader (a0 a1 : Value) {w : World} {k : Value → World → Prop} (h : F_codec_passHeader a0 a1 w k) : wCall P n_codec_passHeader [a0, a1] w k :=
  call_of_den mixedP Try.func171 (by kernel_rfl) (.s (.r (.ops [0, 1, 2, 3] (.eff 4 [] (.ops [5, 6] (.eff 7 [] .nil))))) (.s (.r (.ops [0, 1, 2, 3] (.eff 4 [] (.ops [5, 6] (.eff 7 [] .nil))))) (.s (.r (.ops [0, 1, 2, 3] (.eff 4 [] (.ops [5, 6] (.eff 7 [] .nil))))) (.s (.r (.ops [0, 1, 2, 3] (.eff 4 [] (.ops [5, 6] (.eff 7 [] .nil))))) (.s (.r (.ops [0, 1, 2, 3] (.eff 4 [] (.ops [5, 6] (.eff 7 [] .nil))))) (.r (.ops [0, 1, 2, 3] (.eff 4 [] (.ops [5, 6] (.eff 7 [] .nil)))))))))) (by kernel_rfl) (Eq.mp (by kernel_rfl) h)

def F_codec_mayHeader (a0 : Value) (w : World) (k : Value → World → Prop) : Prop :=
  wBox P T_codec_Header a0 w fun _ w =>
  k (.bool true) w

theorem call_codec_mayHeader (a0 : Value) {w : World} {k : Value → World → Prop} (h : F_codec_mayHeader a0 w k) : wCall P n_codec_mayHeader [a0] w k :=
  call_of_den mixedP Try.func172 (by kernel_rfl) .z (by kernel_rfl) (Eq.mp (by kernel_rfl) h)

def F_codec_read_codec_Header (a0 a1 a2 a3 : Value) (w : World) (k : Value → World → Prop) : Prop :=
  wBox P T_api_Sector a1 w fun t5 w =>
  wAlloc P T_codec_Header w fun t8 w =>
  wAlloc P T_codec_Header w fun t10 w =>
  wAlloc P T_codec_Header w fun t11 w =>
  wLoad P T_api_Sector t5 w fun t17 w =>
  wCall P n_seal_Open [t17] w fun t18 w =>
  wExtract P t18 0 w fun t19 w =>
  wExtract P t18 1 w fun t20 w =>
  wExtract P t18 2 w fun t21 w =>
  wBin P .neq T_api_Errno t21 (.int .i64 0) w fun t23 w =>
  wGrp t23 false (fun k27 =>
    wBin P .neq T_uint8 t19 a0 w fun t27 w =>
    k27 t27 w) w fun _ t27 w =>
  wPick t23 (.bool true) t27 w fun t28 w =>
  wIf t28 (
    wLoad P T_codec_Header t11 w fun t29 w =>
    wStore P T_codec_Header t8 t29 w fun w =>
    wRes P T_codec_Header t8 w fun r8 =>
    k (.tuple #[r8, (.int .i64 21)]) w) (
    wBuild P T_codec_reader [(0, t20)] w fun t31 w =>
    wBox P T_codec_reader t31 w fun t32 w =>
    wIface P T_pcodec_reader t32 w fun t35 w =>
    wCallV P a2 [t35, t10] w fun _ w =>
    wNil P t32 w fun t38 w =>
    wFieldA P T_codec_reader t38 2 w fun t39 w =>
    wLoad P T_bool t39 w fun t40 w =>
    wGrp t40 false (fun k48 =>
      wNil P t32 w fun t43 w =>
      wFieldA P T_codec_reader t43 1 w fun t44 w =>
      wLoad P T_int t44 w fun t45 w =>
      wLen P .len #[T_Luint8] [t20] w fun t47 w =>
      wBin P .neq T_int t45 t47 w fun t48 w =>
      k48 t48 w) w fun _ t48 w =>
    wPick t40 (.bool true) t48 w fun t49 w =>
    wGrp t49 false (fun k54 =>
      wLoad P T_codec_Header t10 w fun t52 w =>
      wCallV P a3 [t52] w fun t53 w =>
      wUn P .not t53 w fun t54 w =>
      k54 t54 w) w fun _ t54 w =>
    wPick t49 (.bool true) t54 w fun t55 w =>
    wIf t55 (
      wLoad P T_codec_Header t11 w fun t56 w =>
      wStore P T_codec_Header t8 t56 w fun w =>
      wRes P T_codec_Header t8 w fun r8 =>
      k (.tuple #[r8, (.int .i64 21)]) w) (
      wLoad P T_codec_Header t10 w fun t57 w =>
      wStore P T_codec_Header t8 t57 w fun w =>
      wRes P T_codec_Header t8 w fun r8 =>
      k (.tuple #[r8, (.int .i64 0)]) w))

theorem call_codec_read_codec_Header (a0 a1 a2 a3 : Value) {w : World} {k : Value → World → Prop} (h : F_codec_read_codec_Header a0 a1 a2 a3 w k) : wCall P n_codec_read_codec_Header [a0, a1, a2, a3] w k :=
  call_of_den mixedP Try.func175 (by kernel_rfl) (.s .z (.s .z (.s .z (.s (.s (.r (.ops [0, 1, 2] (.grp 2 false 27 [25, 26] (.ops [3, 4, 5] .nil) (.ops [6] .nil)))) .z) (.s .z (.s (.s .z (.s (.r (.ops [0, 1, 2, 3, 4] (.grp 4 false 48 [42, 43, 44, 45, 46, 47] (.ops [5, 6, 7, 8, 9, 10, 11] .nil) (.ops [12, 13] (.grp 13 false 54 [51, 52, 53] (.ops [14, 15, 16, 17] .nil) (.ops [18] .nil)))))) .z)) .z)))))) (by kernel_rfl) (Eq.mp (by kernel_rfl) h)

def F_codec_among (a0 a1 a2 : Value) (w : World) (k : Value → World → Prop) : Prop :=
  wBin P .geq T_int a0 a1 w fun t9 w =>
  wGrp t9 true (fun k13 =>
    wBin P .leq T_int a0 a2 w fun t13 w =>
    k13 t13 w) w fun _ t13 w =>
  wPick t9 t13 (.bool false) w fun t14 w =>
  k t14 w

theorem call_codec_among (a0 a1 a2 : Value) {w : World} {k : Value → World → Prop} (h : F_codec_among a0 a1 a2 w k) : wCall P n_codec_among [a0, a1, a2] w k :=
  call_of_den mixedP Try.func178 (by kernel_rfl) (.s .z (.s (.r (.ops [0, 1, 2, 3] (.grp 3 true 13 [11, 12] (.ops [4, 5, 6] .nil) (.ops [7, 8] .nil)))) .z)) (by kernel_rfl) (Eq.mp (by kernel_rfl) h)

def F_codec_write_LLcodec_Slot (a0 a1 a2 a3 : Value) (w : World) (k : Value → World → Prop) : Prop :=
  wBox P T_Lcodec_Slot a1 w fun t5 w =>
  wAlloc P T_api_Sector w fun t8 w =>
  wBuild P T_codec_writer [] w fun t11 w =>
  wBox P T_codec_writer t11 w fun t12 w =>
  wLoad P T_Lcodec_Slot t5 w fun t14 w =>
  wCallV P a3 [t14] w fun t15 w =>
  wUn P .not t15 w fun t16 w =>
  wIf t16 (
    wBuild P T_api_Sector [] w fun t17 w =>
    wStore P T_api_Sector t8 t17 w fun w =>
    wRes P T_api_Sector t8 w fun r8 =>
    k (.tuple #[r8, (.int .i64 1)]) w) (
    wIface P T_pcodec_writer t12 w fun t20 w =>
    wCallV P a2 [t20, t5] w fun _ w =>
    wNil P t12 w fun t23 w =>
    wFieldA P T_codec_writer t23 1 w fun t24 w =>
    wLoad P T_bool t24 w fun t25 w =>
    wIf t25 (
      wBuild P T_api_Sector [] w fun t26 w =>
      wStore P T_api_Sector t8 t26 w fun w =>
      wRes P T_api_Sector t8 w fun r8 =>
      k (.tuple #[r8, (.int .i64 1)]) w) (
      wNil P t12 w fun t29 w =>
      wFieldA P T_codec_writer t29 0 w fun t30 w =>
      wLoad P T_Luint8 t30 w fun t31 w =>
      wCall P n_seal_Make [a0, t31] w fun t32 w =>
      wExtract P t32 0 w fun t33 w =>
      wExtract P t32 1 w fun t34 w =>
      wStore P T_api_Sector t8 t33 w fun w =>
      wRes P T_api_Sector t8 w fun r8 =>
      k (.tuple #[r8, t34]) w))

theorem call_codec_write_LLcodec_Slot (a0 a1 a2 a3 : Value) {w : World} {k : Value → World → Prop} (h : F_codec_write_LLcodec_Slot a0 a1 a2 a3 w k) : wCall P n_codec_write_LLcodec_Slot [a0, a1, a2, a3] w k :=
  call_of_den mixedP Try.func183 (by kernel_rfl) .z (by kernel_rfl) (Eq.mp (by kernel_rfl) h)

def F_codec_passSlots (a0 a1 : Value) (w : World) (k : Value → World → Prop) : Prop :=
  wCall P n_codec_list_codec_Slot [a0, a1, (.func (.func n_codec_passSlot) #[] #[])] w fun _ w =>
  k (.tuple #[]) w

theorem call_codec_passSlots (a0 a1 : Value) {w : World} {k : Value → World → Prop} (h : F_codec_passSlots a0 a1 w k) : wCall P n_codec_passSlots [a0, a1] w k :=
  call_of_den mixedP Try.func184 (by kernel_rfl) .z (by kernel_rfl) (Eq.mp (by kernel_rfl) h)

def F_codec_maySlots (a0 : Value) (w : World) (k : Value → World → Prop) : Prop :=
  wCall P n_codec_each_codec_Slot [(.int .i64 10), (.func (.func n_codec_maySlots_c1) #[] #[])] w fun t3 w =>
  wCallV P t3 [a0] w fun t5 w =>
  k t5 w

theorem call_codec_maySlots (a0 : Value) {w : World} {k : Value → World → Prop} (h : F_codec_maySlots a0 w k) : wCall P n_codec_maySlots [a0] w k :=
  call_of_den mixedP Try.func185 (by kernel_rfl) .z (by kernel_rfl) (Eq.mp (by kernel_rfl) h)

def F_codec_read_LLcodec_Slot (a0 a1 a2 a3 : Value) (w : World) (k : Value → World → Prop) : Prop :=
  wBox P T_api_Sector a1 w fun t5 w =>
  wAlloc P T_Lcodec_Slot w fun t10 w =>
  wLoad P T_api_Sector t5 w fun t17 w =>
  wCall P n_seal_Open [t17] w fun t18 w =>
  wExtract P t18 0 w fun t19 w =>
  wExtract P t18 1 w fun t20 w =>
  wExtract P t18 2 w fun t21 w =>
  wBin P .neq T_api_Errno t21 (.int .i64 0) w fun t23 w =>
  wGrp t23 false (fun k27 =>
    wBin P .neq T_uint8 t19 a0 w fun t27 w =>
    k27 t27 w) w fun _ t27 w =>
  wPick t23 (.bool true) t27 w fun t28 w =>
  wIf t28 (
    k (.tuple #[(.slice none 0 0), (.int .i64 21)]) w) (
    wBuild P T_codec_reader [(0, t20)] w fun t31 w =>
    wBox P T_codec_reader t31 w fun t32 w =>
    wIface P T_pcodec_reader t32 w fun t35 w =>
    wCallV P a2 [t35, t10] w fun _ w =>
    wNil P t32 w fun t38 w =>
    wFieldA P T_codec_reader t38 2 w fun t39 w =>
    wLoad P T_bool t39 w fun t40 w =>
    wGrp t40 false (fun k48 =>
      wNil P t32 w fun t43 w =>
      wFieldA P T_codec_reader t43 1 w fun t44 w =>
      wLoad P T_int t44 w fun t45 w =>
      wLen P .len #[T_Luint8] [t20] w fun t47 w =>
      wBin P .neq T_int t45 t47 w fun t48 w =>
      k48 t48 w) w fun _ t48 w =>
    wPick t40 (.bool true) t48 w fun t49 w =>
    wGrp t49 false (fun k54 =>
      wLoad P T_Lcodec_Slot t10 w fun t52 w =>
      wCallV P a3 [t52] w fun t53 w =>
      wUn P .not t53 w fun t54 w =>
      k54 t54 w) w fun _ t54 w =>
    wPick t49 (.bool true) t54 w fun t55 w =>
    wIf t55 (
      k (.tuple #[(.slice none 0 0), (.int .i64 21)]) w) (
      wLoad P T_Lcodec_Slot t10 w fun t57 w =>
      k (.tuple #[t57, (.int .i64 0)]) w))

theorem call_codec_read_LLcodec_Slot (a0 a1 a2 a3 : Value) {w : World} {k : Value → World → Prop} (h : F_codec_read_LLcodec_Slot a0 a1 a2 a3 w k) : wCall P n_codec_read_LLcodec_Slot [a0, a1, a2, a3] w k :=
  call_of_den mixedP Try.func186 (by kernel_rfl) (.s .z (.s .z (.s .z (.s (.s (.r (.ops [0, 1, 2] (.grp 2 false 27 [25, 26] (.ops [3, 4, 5] .nil) (.ops [6] .nil)))) .z) (.s .z (.s (.s .z (.s (.r (.ops [0, 1, 2, 3, 4] (.grp 4 false 48 [42, 43, 44, 45, 46, 47] (.ops [5, 6, 7, 8, 9, 10, 11] .nil) (.ops [12, 13] (.grp 13 false 54 [51, 52, 53] (.ops [14, 15, 16, 17] .nil) (.ops [18] .nil)))))) .z)) .z)))))) (by kernel_rfl) (Eq.mp (by kernel_rfl) h)

def F_codec_write_LLcodec_Record (a0 a1 a2 a3 : Value) (w : World) (k : Value → World → Prop) : Prop :=
  wBox P T_Lcodec_Record a1 w fun t5 w =>
  wAlloc P T_api_Sector w fun t8 w =>
  wBuild P T_codec_writer [] w fun t11 w =>
  wBox P T_codec_writer t11 w fun t12 w =>
  wLoad P T_Lcodec_Record t5 w fun t14 w =>
  wCallV P a3 [t14] w fun t15 w =>
  wUn P .not t15 w fun t16 w =>
  wIf t16 (
    wBuild P T_api_Sector [] w fun t17 w =>
    wStore P T_api_Sector t8 t17 w fun w =>
    wRes P T_api_Sector t8 w fun r8 =>
    k (.tuple #[r8, (.int .i64 1)]) w) (
    wIface P T_pcodec_writer t12 w fun t20 w =>
    wCallV P a2 [t20, t5] w fun _ w =>
    wNil P t12 w fun t23 w =>
    wFieldA P T_codec_writer t23 1 w fun t24 w =>
    wLoad P T_bool t24 w fun t25 w =>
    wIf t25 (
      wBuild P T_api_Sector [] w fun t26 w =>
      wStore P T_api_Sector t8 t26 w fun w =>
      wRes P T_api_Sector t8 w fun r8 =>
      k (.tuple #[r8, (.int .i64 1)]) w) (
      wNil P t12 w fun t29 w =>
      wFieldA P T_codec_writer t29 0 w fun t30 w =>
      wLoad P T_Luint8 t30 w fun t31 w =>
      wCall P n_seal_Make [a0, t31] w fun t32 w =>
      wExtract P t32 0 w fun t33 w =>
      wExtract P t32 1 w fun t34 w =>
      wStore P T_api_Sector t8 t33 w fun w =>
      wRes P T_api_Sector t8 w fun r8 =>
      k (.tuple #[r8, t34]) w))

theorem call_codec_write_LLcodec_Record (a0 a1 a2 a3 : Value) {w : World} {k : Value → World → Prop} (h : F_codec_write_LLcodec_Record a0 a1 a2 a3 w k) : wCall P n_codec_write_LLcodec_Record [a0, a1, a2, a3] w k :=
  call_of_den mixedP Try.func187 (by kernel_rfl) .z (by kernel_rfl) (Eq.mp (by kernel_rfl) h)

def F_codec_passRecords (a0 a1 : Value) (w : World) (k : Value → World → Prop) : Prop :=
  wCall P n_codec_list_codec_Record [a0, a1, (.func (.func n_codec_passRecord) #[] #[])] w fun _ w =>
  k (.tuple #[]) w

theorem call_codec_passRecords (a0 a1 : Value) {w : World} {k : Value → World → Prop} (h : F_codec_passRecords a0 a1 w k) : wCall P n_codec_passRecords [a0, a1] w k :=
  call_of_den mixedP Try.func188 (by kernel_rfl) .z (by kernel_rfl) (Eq.mp (by kernel_rfl) h)

def F_codec_mayRecords (a0 : Value) (w : World) (k : Value → World → Prop) : Prop :=
  wCall P n_codec_each_codec_Record [(.int .i64 13), (.func (.func n_codec_mayRecords_c1) #[] #[])] w fun t3 w =>
  wCallV P t3 [a0] w fun t5 w =>
  k t5 w

theorem call_codec_mayRecords (a0 : Value) {w : World} {k : Value → World → Prop} (h : F_codec_mayRecords a0 w k) : wCall P n_codec_mayRecords [a0] w k :=
  call_of_den mixedP Try.func189 (by kernel_rfl) .z (by kernel_rfl) (Eq.mp (by kernel_rfl) h)

def F_codec_read_LLcodec_Record (a0 a1 a2 a3 : Value) (w : World) (k : Value → World → Prop) : Prop :=
  wBox P T_api_Sector a1 w fun t5 w =>
  wAlloc P T_Lcodec_Record w fun t10 w =>
  wLoad P T_api_Sector t5 w fun t17 w =>
  wCall P n_seal_Open [t17] w fun t18 w =>
  wExtract P t18 0 w fun t19 w =>
  wExtract P t18 1 w fun t20 w =>
  wExtract P t18 2 w fun t21 w =>
  wBin P .neq T_api_Errno t21 (.int .i64 0) w fun t23 w =>
  wGrp t23 false (fun k27 =>
    wBin P .neq T_uint8 t19 a0 w fun t27 w =>
    k27 t27 w) w fun _ t27 w =>
  wPick t23 (.bool true) t27 w fun t28 w =>
  wIf t28 (
    k (.tuple #[(.slice none 0 0), (.int .i64 21)]) w) (
    wBuild P T_codec_reader [(0, t20)] w fun t31 w =>
    wBox P T_codec_reader t31 w fun t32 w =>
    wIface P T_pcodec_reader t32 w fun t35 w =>
    wCallV P a2 [t35, t10] w fun _ w =>
    wNil P t32 w fun t38 w =>
    wFieldA P T_codec_reader t38 2 w fun t39 w =>
    wLoad P T_bool t39 w fun t40 w =>
    wGrp t40 false (fun k48 =>
      wNil P t32 w fun t43 w =>
      wFieldA P T_codec_reader t43 1 w fun t44 w =>
      wLoad P T_int t44 w fun t45 w =>
      wLen P .len #[T_Luint8] [t20] w fun t47 w =>
      wBin P .neq T_int t45 t47 w fun t48 w =>
      k48 t48 w) w fun _ t48 w =>
    wPick t40 (.bool true) t48 w fun t49 w =>
    wGrp t49 false (fun k54 =>
      wLoad P T_Lcodec_Record t10 w fun t52 w =>
      wCallV P a3 [t52] w fun t53 w =>
      wUn P .not t53 w fun t54 w =>
      k54 t54 w) w fun _ t54 w =>
    wPick t49 (.bool true) t54 w fun t55 w =>
    wIf t55 (
      k (.tuple #[(.slice none 0 0), (.int .i64 21)]) w) (
      wLoad P T_Lcodec_Record t10 w fun t57 w =>
      k (.tuple #[t57, (.int .i64 0)]) w))

theorem call_codec_read_LLcodec_Record (a0 a1 a2 a3 : Value) {w : World} {k : Value → World → Prop} (h : F_codec_read_LLcodec_Record a0 a1 a2 a3 w k) : wCall P n_codec_read_LLcodec_Record [a0, a1, a2, a3] w k :=
  call_of_den mixedP Try.func190 (by kernel_rfl) (.s .z (.s .z (.s .z (.s (.s (.r (.ops [0, 1, 2] (.grp 2 false 27 [25, 26] (.ops [3, 4, 5] .nil) (.ops [6] .nil)))) .z) (.s .z (.s (.s .z (.s (.r (.ops [0, 1, 2, 3, 4] (.grp 4 false 48 [42, 43, 44, 45, 46, 47] (.ops [5, 6, 7, 8, 9, 10, 11] .nil) (.ops [12, 13] (.grp 13 false 54 [51, 52, 53] (.ops [14, 15, 16, 17] .nil) (.ops [18] .nil)))))) .z)) .z)))))) (by kernel_rfl) (Eq.mp (by kernel_rfl) h)

def F_codec_write_codec_Summary (a0 a1 a2 a3 : Value) (w : World) (k : Value → World → Prop) : Prop :=
  wBox P T_codec_Summary a1 w fun t5 w =>
  wAlloc P T_api_Sector w fun t8 w =>
  wBuild P T_codec_writer [] w fun t11 w =>
  wBox P T_codec_writer t11 w fun t12 w =>
  wLoad P T_codec_Summary t5 w fun t14 w =>
  wCallV P a3 [t14] w fun t15 w =>
  wUn P .not t15 w fun t16 w =>
  wIf t16 (
    wBuild P T_api_Sector [] w fun t17 w =>
    wStore P T_api_Sector t8 t17 w fun w =>
    wRes P T_api_Sector t8 w fun r8 =>
    k (.tuple #[r8, (.int .i64 1)]) w) (
    wIface P T_pcodec_writer t12 w fun t20 w =>
    wCallV P a2 [t20, t5] w fun _ w =>
    wNil P t12 w fun t23 w =>
    wFieldA P T_codec_writer t23 1 w fun t24 w =>
    wLoad P T_bool t24 w fun t25 w =>
    wIf t25 (
      wBuild P T_api_Sector [] w fun t26 w =>
      wStore P T_api_Sector t8 t26 w fun w =>
      wRes P T_api_Sector t8 w fun r8 =>
      k (.tuple #[r8, (.int .i64 1)]) w) (
      wNil P t12 w fun t29 w =>
      wFieldA P T_codec_writer t29 0 w fun t30 w =>
      wLoad P T_Luint8 t30 w fun t31 w =>
      wCall P n_seal_Make [a0, t31] w fun t32 w =>
      wExtract P t32 0 w fun t33 w =>
      wExtract P t32 1 w fun t34 w =>
      wStore P T_api_Sector t8 t33 w fun w =>
      wRes P T_api_Sector t8 w fun r8 =>
      k (.tuple #[r8, t34]) w))

theorem call_codec_write_codec_Summary (a0 a1 a2 a3 : Value) {w : World} {k : Value → World → Prop} (h : F_codec_write_codec_Summary a0 a1 a2 a3 w k) : wCall P n_codec_write_codec_Summary [a0, a1, a2, a3] w k :=
  call_of_den mixedP Try.func191 (by kernel_rfl) .z (by kernel_rfl) (Eq.mp (by kernel_rfl) h)

def F_codec_passSummary (a0 a1 : Value) (w : World) (k : Value → World → Prop) : Prop :=
  wDraw w fun w =>
  wNil P a1 w fun t7 w =>
  wFieldA P T_codec_Summary t7 0 w fun t8 w =>
  wFunc P (.method "drumlin/codec.wide") [a0] [] w fun t9 w =>
  wNil P t9 w fun _ w =>
  wInvoke P a0 "drumlin/codec.wide" [(.int .i64 8), t8] w fun _ w =>
  wDraw w fun w =>
  wNil P a1 w fun t15 w =>
  wFieldA P T_codec_Summary t15 1 w fun t16 w =>
  wFunc P (.method "drumlin/codec.wide") [a0] [] w fun t17 w =>
  wNil P t17 w fun _ w =>
  wInvoke P a0 "drumlin/codec.wide" [(.int .i64 8), t16] w fun _ w =>
  wNil P a1 w fun t23 w =>
  wFieldA P T_codec_Summary t23 2 w fun t24 w =>
  wCall P n_codec_flag [a0, t24] w fun _ w =>
  wNil P a1 w fun t27 w =>
  wFieldA P T_codec_Summary t27 5 w fun t28 w =>
  wLoad P T_Lcodec_Entry t28 w fun t29 w =>
  wLen P .len #[T_Lcodec_Entry] [t29] w fun t30 w =>
  wAlloc P T_int w fun t4 w =>
  wStore P T_int t4 t30 w fun w =>
  wInvoke P a0 "drumlin/codec.int" [(.int .i64 1), t4] w fun _ w =>
  wDraw w fun w =>
  wNil P a1 w fun t35 w =>
  wFieldA P T_codec_Summary t35 3 w fun t36 w =>
  wFunc P (.method "drumlin/codec.int") [a0] [] w fun t37 w =>
  wNil P t37 w fun _ w =>
  wInvoke P a0 "drumlin/codec.int" [(.int .i64 2), t36] w fun _ w =>
  wDraw w fun w =>
  wNil P a1 w fun t43 w =>
  wFieldA P T_codec_Summary t43 4 w fun t44 w =>
  wFunc P (.method "drumlin/codec.word") [a0] [] w fun t45 w =>
  wNil P t45 w fun _ w =>
  wInvoke P a0 "drumlin/codec.word" [(.int .i64 4), t44] w fun _ w =>
  wNil P a1 w fun t51 w =>
  wFieldA P T_codec_Summary t51 5 w fun t52 w =>
  wCall P n_codec_list_codec_Entry [a0, t52, (.func (.func n_codec_passEntry) #[] #[])] w fun _ w =>
  k (.tuple #[]) w

theorem call_codec_passSummary (a0 a1 : Value) {w : World} {k : Value → World → Prop} (h : F_codec_passSummary a0 a1 w k) : wCall P n_codec_passSummary [a0, a1] w k :=
  call_of_den mixedP Try.func192 (by kernel_rfl) (.s (.r (.ops [0, 1, 2, 3] (.eff 4 [] (.ops [5, 6] (.eff 7 [] .nil))))) (.s (.r (.ops [0, 1, 2, 3] (.eff 4 [] (.ops [5, 6] (.eff 7 [] .nil))))) (.s .z (.s .z (.s .z (.s (.r (.ops [0, 1, 2, 3] (.eff 4 [] (.ops [5, 6] (.eff 7 [] .nil))))) (.s (.r (.ops [0, 1, 2, 3] (.eff 4 [] (.ops [5, 6] (.eff 7 [] .nil))))) .z))))))) (by kernel_rfl) (Eq.mp (by kernel_rfl) h)

def F_codec_maySummary (a0 : Value) (w : World) (k : Value → World → Prop) : Prop :=
  wBox P T_codec_Summary a0 w fun t1 w =>
  wDraw w fun w =>
  wFieldA P T_codec_Summary t1 5 w fun t4 w =>
  wLoad P T_Lcodec_Entry t4 w fun t5 w =>
  wCall P n_codec_each_codec_Entry [(.int .i64 8), (.func (.func n_codec_maySummary_c1) #[] #[])] w fun t3 w =>
  wKeep P [(T_Lcodec_Entry, t4, t5)] w ∧ wCallV P t3 [t5] w fun t6 w =>
  k t6 w

theorem call_codec_maySummary (a0 : Value) {w : World} {k : Value → World → Prop} (h : F_codec_maySummary a0 w k) : wCall P n_codec_maySummary [a0] w k :=
  call_of_den mixedP Try.func193 (by kernel_rfl) (.s .z (.s (.r (.ops [1, 2] (.eff 0 [2] (.eff 3 [] (.ops [4] .nil))))) .z)) (by kernel_rfl) (Eq.mp (by kernel_rfl) h)

def F_codec_read_codec_Summary (a0 a1 a2 a3 : Value) (w : World) (k : Value → World → Prop) : Prop :=
  wBox P T_api_Sector a1 w fun t5 w =>
  wAlloc P T_codec_Summary w fun t8 w =>
  wAlloc P T_codec_Summary w fun t10 w =>
  wAlloc P T_codec_Summary w fun t11 w =>
  wLoad P T_api_Sector t5 w fun t17 w =>
  wCall P n_seal_Open [t17] w fun t18 w =>
  wExtract P t18 0 w fun t19 w =>
  wExtract P t18 1 w fun t20 w =>
  wExtract P t18 2 w fun t21 w =>
  wBin P .neq T_api_Errno t21 (.int .i64 0) w fun t23 w =>
  wGrp t23 false (fun k27 =>
    wBin P .neq T_uint8 t19 a0 w fun t27 w =>
    k27 t27 w) w fun _ t27 w =>
  wPick t23 (.bool true) t27 w fun t28 w =>
  wIf t28 (
    wLoad P T_codec_Summary t11 w fun t29 w =>
    wStore P T_codec_Summary t8 t29 w fun w =>
    wRes P T_codec_Summary t8 w fun r8 =>
    k (.tuple #[r8, (.int .i64 21)]) w) (
    wBuild P T_codec_reader [(0, t20)] w fun t31 w =>
    wBox P T_codec_reader t31 w fun t32 w =>
    wIface P T_pcodec_reader t32 w fun t35 w =>
    wCallV P a2 [t35, t10] w fun _ w =>
    wNil P t32 w fun t38 w =>
    wFieldA P T_codec_reader t38 2 w fun t39 w =>
    wLoad P T_bool t39 w fun t40 w =>
    wGrp t40 false (fun k48 =>
      wNil P t32 w fun t43 w =>
      wFieldA P T_codec_reader t43 1 w fun t44 w =>
      wLoad P T_int t44 w fun t45 w =>
      wLen P .len #[T_Luint8] [t20] w fun t47 w =>
      wBin P .neq T_int t45 t47 w fun t48 w =>
      k48 t48 w) w fun _ t48 w =>
    wPick t40 (.bool true) t48 w fun t49 w =>
    wGrp t49 false (fun k54 =>
      wLoad P T_codec_Summary t10 w fun t52 w =>
      wCallV P a3 [t52] w fun t53 w =>
      wUn P .not t53 w fun t54 w =>
      k54 t54 w) w fun _ t54 w =>
    wPick t49 (.bool true) t54 w fun t55 w =>
    wIf t55 (
      wLoad P T_codec_Summary t11 w fun t56 w =>
      wStore P T_codec_Summary t8 t56 w fun w =>
      wRes P T_codec_Summary t8 w fun r8 =>
      k (.tuple #[r8, (.int .i64 21)]) w) (
      wLoad P T_codec_Summary t10 w fun t57 w =>
      wStore P T_codec_Summary t8 t57 w fun w =>
      wRes P T_codec_Summary t8 w fun r8 =>
      k (.tuple #[r8, (.int .i64 0)]) w))

theorem call_codec_read_codec_Summary (a0 a1 a2 a3 : Value) {w : World} {k : Value → World → Prop} (h : F_codec_read_codec_Summary a0 a1 a2 a3 w k) : wCall P n_codec_read_codec_Summary [a0, a1, a2, a3] w k :=
  call_of_den mixedP Try.func194 (by kernel_rfl) (.s .z (.s .z (.s .z (.s (.s (.r (.ops [0, 1, 2] (.grp 2 false 27 [25, 26] (.ops [3, 4, 5] .nil) (.ops [6] .nil)))) .z) (.s .z (.s (.s .z (.s (.r (.ops [0, 1, 2, 3, 4] (.grp 4 false 48 [42, 43, 44, 45, 46, 47] (.ops [5, 6, 7, 8, 9, 10, 11] .nil) (.ops [12, 13] (.grp 13 false 54 [51, 52, 53] (.ops [14, 15, 16, 17] .nil) (.ops [18] .nil)))))) .z)) .z)))))) (by kernel_rfl) (Eq.mp (by kernel_rfl) h)

def F_codec_list_codec_Use (a0 a1 a2 : Value) (w : World) (k : Value → World → Prop) : Prop :=
  wJ0 (fun k1 =>
    wNil P a1 w fun t9 w =>
    wLoad P T_Lcodec_Use t9 w fun t10 w =>
    wLen P .len #[T_Lcodec_Use] [t10] w fun t11 w =>
    wL1 (.int .i64 0) w (fun _ v12 w k2 =>
      wBin P .lss T_int v12 t11 w fun t13 w =>
      wIf t13 (
        wNil P a1 w fun t18 w =>
        wLoad P T_Lcodec_Use t18 w fun t19 w =>
        wIndexA P T_Lcodec_Use t19 v12 w fun t21 w =>
        wCallV P a2 [a0, t21] w fun _ w =>
        wBin P .add T_int v12 (.int .i64 1) w fun t23 w =>
        k2 t23 w) (
        k1 w))) fun _ w =>
  wL0 w (fun _ w k1 =>
    wInvoke P a0 "drumlin/codec.more" [] w fun t25 w =>
    wIf t25 (
      wAlloc P T_codec_Use w fun t7 w =>
      wCallV P a2 [a0, t7] w fun _ w =>
      wDraw w fun w =>
      wNil P a1 w fun t31 w =>
      wLoad P T_Lcodec_Use t31 w fun t32 w =>
      wLoad P T_codec_Use t7 w fun t33 w =>
      wBuildS P T_Lcodec_Use 1 [(0, t33)] w fun t34 w =>
      wKeep P [(T_Lcodec_Use, t31, t32)] w ∧ wBuiltin P .append #[T_Lcodec_Use, T_Lcodec_Use] [t32, t34] w fun t35 w =>
      wNil P a1 w fun t36 w =>
      wStore P T_Lcodec_Use t36 t35 w fun w =>
      k1 w) (
      k (.tuple #[]) w))

theorem call_codec_list_codec_Use (a0 a1 a2 : Value) {w : World} {k : Value → World → Prop} (h : F_codec_list_codec_Use a0 a1 a2 w k) : wCall P n_codec_list_codec_Use [a0, a1, a2] w k :=
  call_of_den mixedP Try.func236 (by kernel_rfl) (.j [] [0, 1, 2] (.s .z (.b (.l [12] [0, 1, 2, 11] .z))) (.b (.l [] [0, 1, 2] (.s .z (.b (.s .z (.s .z (.r (.ops [0, 1, 2, 3, 4] (.eff 5 [3] (.eff 6 [] (.ops [7] (.eff 8 [] .nil))))))))))))) (by kernel_rfl) (Eq.mp (by kernel_rfl) h)

def F_codec_passUse (a0 a1 : Value) (w : World) (k : Value → World → Prop) : Prop :=
  wDraw w fun w =>
  wNil P a1 w fun t6 w =>
  wFieldA P T_codec_Use t6 0 w fun t7 w =>
  wFunc P (.method "drumlin/codec.int") [a0] [] w fun t8 w =>
  wNil P t8 w fun _ w =>
  wInvoke P a0 "drumlin/codec.int" [(.int .i64 2), t7] w fun _ w =>
  wDraw w fun w =>
  wNil P a1 w fun t14 w =>
  wFieldA P T_codec_Use t14 1 w fun t15 w =>
  wFunc P (.method "drumlin/codec.int") [a0] [] w fun t16 w =>
  wNil P t16 w fun _ w =>
  wInvoke P a0 "drumlin/codec.int" [(.int .i64 1), t15] w fun _ w =>
  wDraw w fun w =>
  wNil P a1 w fun t22 w =>
  wFieldA P T_codec_Use t22 2 w fun t23 w =>
  wFunc P (.method "drumlin/codec.word") [a0] [] w fun t24 w =>
  wNil P t24 w fun _ w =>
  wInvoke P a0 "drumlin/codec.word" [(.int .i64 4), t23] w fun _ w =>
  k (.tuple #[]) w

theorem call_codec_passUse (a0 a1 : Value) {w : World} {k : Value → World → Prop} (h : F_codec_passUse a0 a1 w k) : wCall P n_codec_passUse [a0, a1] w k :=
  call_of_den mixedP Try.func237 (by kernel_rfl) (.s (.r (.ops [0, 1, 2, 3] (.eff 4 [] (.ops [5, 6] (.eff 7 [] .nil))))) (.s (.r (.ops [0, 1, 2, 3] (.eff 4 [] (.ops [5, 6] (.eff 7 [] .nil))))) (.r (.ops [0, 1, 2, 3] (.eff 4 [] (.ops [5, 6] (.eff 7 [] .nil))))))) (by kernel_rfl) (Eq.mp (by kernel_rfl) h)

def F_codec_each_codec_Use (a0 a1 : Value) (w : World) (k : Value → World → Prop) : Prop :=
  wBox P T_int a0 w fun t2 w =>
  wBox P T_func_codec_Use__bool a1 w fun t3 w =>
  wFunc P (.func n_codec_each_codec_Use_c1) [] [t3, t2] w fun t5 w =>
  k t5 w

theorem call_codec_each_codec_Use (a0 a1 : Value) {w : World} {k : Value → World → Prop} (h : F_codec_each_codec_Use a0 a1 w k) : wCall P n_codec_each_codec_Use [a0, a1] w k :=
  call_of_den mixedP Try.func238 (by kernel_rfl) .z (by kernel_rfl) (Eq.mp (by kernel_rfl) h)

def F_codec_mayUses_c1 (a0 : Value) (w : World) (k : Value → World → Prop) : Prop :=
  wBox P T_codec_Use a0 w fun t1 w =>
  wFieldA P T_codec_Use t1 1 w fun t3 w =>
  wLoad P T_int t3 w fun t4 w =>
  wCall P n_codec_among [t4, (.int .i64 0), (.int .i64 3)] w fun t5 w =>
  k t5 w

theorem call_codec_mayUses_c1 (a0 : Value) {w : World} {k : Value → World → Prop} (h : F_codec_mayUses_c1 a0 w k) : wCall P n_codec_mayUses_c1 [a0] w k :=
  call_of_den mixedP Try.func239 (by kernel_rfl) .z (by kernel_rfl) (Eq.mp (by kernel_rfl) h)

def F_codec_list_codec_Slot (a0 a1 a2 : Value) (w : World) (k : Value → World → Prop) : Prop :=
  wJ0 (fun k1 =>
    wNil P a1 w fun t9 w =>
    wLoad P T_Lcodec_Slot t9 w fun t10 w =>
    wLen P .len #[T_Lcodec_Slot] [t10] w fun t11 w =>
    wL1 (.int .i64 0) w (fun _ v12 w k2 =>
      wBin P .lss T_int v12 t11 w fun t13 w =>
      wIf t13 (
        wNil P a1 w fun t18 w =>
        wLoad P T_Lcodec_Slot t18 w fun t19 w =>
        wIndexA P T_Lcodec_Slot t19 v12 w fun t21 w =>
        wCallV P a2 [a0, t21] w fun _ w =>
        wBin P .add T_int v12 (.int .i64 1) w fun t23 w =>
        k2 t23 w) (
        k1 w))) fun _ w =>
  wL0 w (fun _ w k1 =>
    wInvoke P a0 "drumlin/codec.more" [] w fun t25 w =>
    wIf t25 (
      wAlloc P T_codec_Slot w fun t7 w =>
      wCallV P a2 [a0, t7] w fun _ w =>
      wDraw w fun w =>
      wNil P a1 w fun t31 w =>
      wLoad P T_Lcodec_Slot t31 w fun t32 w =>
      wLoad P T_codec_Slot t7 w fun t33 w =>
      wBuildS P T_Lcodec_Slot 1 [(0, t33)] w fun t34 w =>
      wKeep P [(T_Lcodec_Slot, t31, t32)] w ∧ wBuiltin P .append #[T_Lcodec_Slot, T_Lcodec_Slot] [t32, t34] w fun t35 w =>
      wNil P a1 w fun t36 w =>
      wStore P T_Lcodec_Slot t36 t35 w fun w =>
      k1 w) (
      k (.tuple #[]) w))

theorem call_codec_list_codec_Slot (a0 a1 a2 : Value) {w : World} {k : Value → World → Prop} (h : F_codec_list_codec_Slot a0 a1 a2 w k) : wCall P n_codec_list_codec_Slot [a0, a1, a2] w k :=
  call_of_den mixedP Try.func246 (by kernel_rfl) (.j [] [0, 1, 2] (.s .z (.b (.l [12] [0, 1, 2, 11] .z))) (.b (.l [] [0, 1, 2] (.s .z (.b (.s .z (.s .z (.r (.ops [0, 1, 2, 3, 4] (.eff 5 [3] (.eff 6 [] (.ops [7] (.eff 8 [] .nil))))))))))))) (by kernel_rfl) (Eq.mp (by kernel_rfl) h)

def F_codec_passSlot (a0 a1 : Value) (w : World) (k : Value → World → Prop) : Prop :=
  wDraw w fun w =>
  wNil P a1 w fun t6 w =>
  wFieldA P T_codec_Slot t6 0 w fun t7 w =>
  wFunc P (.method "drumlin/codec.int") [a0] [] w fun t8 w =>
  wNil P t8 w fun _ w =>
  wInvoke P a0 "drumlin/codec.int" [(.int .i64 4), t7] w fun _ w =>
  wDraw w fun w =>
  wNil P a1 w fun t14 w =>
  wFieldA P T_codec_Slot t14 1 w fun t15 w =>
  wFunc P (.method "drumlin/codec.word") [a0] [] w fun t16 w =>
  wNil P t16 w fun _ w =>
  wInvoke P a0 "drumlin/codec.word" [(.int .i64 4), t15] w fun _ w =>
  wDraw w fun w =>
  wNil P a1 w fun t22 w =>
  wFieldA P T_codec_Slot t22 2 w fun t23 w =>
  wFunc P (.method "drumlin/codec.int") [a0] [] w fun t24 w =>
  wNil P t24 w fun _ w =>
  wInvoke P a0 "drumlin/codec.int" [(.int .i64 2), t23] w fun _ w =>
  wDraw w fun w =>
  wNil P a1 w fun t30 w =>
  wFieldA P T_codec_Slot t30 3 w fun t31 w =>
  wFunc P (.method "drumlin/codec.int") [a0] [] w fun t32 w =>
  wNil P t32 w fun _ w =>
  wInvoke P a0 "drumlin/codec.int" [(.int .i64 1), t31] w fun _ w =>
  k (.tuple #[]) w

theorem call_codec_passSlot (a0 a1 : Value) {w : World} {k : Value → World → Prop} (h : F_codec_passSlot a0 a1 w k) : wCall P n_codec_passSlot [a0, a1] w k :=
  call_of_den mixedP Try.func247 (by kernel_rfl) (.s (.r (.ops [0, 1, 2, 3] (.eff 4 [] (.ops [5, 6] (.eff 7 [] .nil))))) (.s (.r (.ops [0, 1, 2, 3] (.eff 4 [] (.ops [5, 6] (.eff 7 [] .nil))))) (.s (.r (.ops [0, 1, 2, 3] (.eff 4 [] (.ops [5, 6] (.eff 7 [] .nil))))) (.r (.ops [0, 1, 2, 3] (.eff 4 [] (.ops [5, 6] (.eff 7 [] .nil)))))))) (by kernel_rfl) (Eq.mp (by kernel_rfl) h)

def F_codec_each_codec_Slot (a0 a1 : Value) (w : World) (k : Value → World → Prop) : Prop :=
  wBox P T_int a0 w fun t2 w =>
  wBox P T_func_codec_Slot__bool a1 w fun t3 w =>
  wFunc P (.func n_codec_each_codec_Slot_c1) [] [t3, t2] w fun t5 w =>
  k t5 w

theorem call_codec_each_codec_Slot (a0 a1 : Value) {w : World} {k : Value → World → Prop} (h : F_codec_each_codec_Slot a0 a1 w k) : wCall P n_codec_each_codec_Slot [a0, a1] w k :=
  call_of_den mixedP Try.func248 (by kernel_rfl) .z (by kernel_rfl) (Eq.mp (by kernel_rfl) h)

def F_codec_maySlots_c1 (a0 : Value) (w : World) (k : Value → World → Prop) : Prop :=
  wBox P T_codec_Slot a0 w fun t1 w =>
  wFieldA P T_codec_Slot t1 3 w fun t3 w =>
  wLoad P T_int t3 w fun t4 w =>
  wCall P n_codec_among [t4, (.int .i64 0), (.int .i64 2)] w fun t5 w =>
  k t5 w

theorem call_codec_maySlots_c1 (a0 : Value) {w : World} {k : Value → World → Prop} (h : F_codec_maySlots_c1 a0 w k) : wCall P n_codec_maySlots_c1 [a0] w k :=
  call_of_den mixedP Try.func249 (by kernel_rfl) .z (by kernel_rfl) (Eq.mp (by kernel_rfl) h)

def F_codec_list_codec_Record (a0 a1 a2 : Value) (w : World) (k : Value → World → Prop) : Prop :=
  wJ0 (fun k1 =>
    wNil P a1 w fun t9 w =>
    wLoad P T_Lcodec_Record t9 w fun t10 w =>
    wLen P .len #[T_Lcodec_Record] [t10] w fun t11 w =>
    wL1 (.int .i64 0) w (fun _ v12 w k2 =>
      wBin P .lss T_int v12 t11 w fun t13 w =>
      wIf t13 (
        wNil P a1 w fun t18 w =>
        wLoad P T_Lcodec_Record t18 w fun t19 w =>
        wIndexA P T_Lcodec_Record t19 v12 w fun t21 w =>
        wCallV P a2 [a0, t21] w fun _ w =>
        wBin P .add T_int v12 (.int .i64 1) w fun t23 w =>
        k2 t23 w) (
        k1 w))) fun _ w =>
  wL0 w (fun _ w k1 =>
    wInvoke P a0 "drumlin/codec.more" [] w fun t25 w =>
    wIf t25 (
      wAlloc P T_codec_Record w fun t7 w =>
      wCallV P a2 [a0, t7] w fun _ w =>
      wDraw w fun w =>
      wNil P a1 w fun t31 w =>
      wLoad P T_Lcodec_Record t31 w fun t32 w =>
      wLoad P T_codec_Record t7 w fun t33 w =>
      wBuildS P T_Lcodec_Record 1 [(0, t33)] w fun t34 w =>
      wKeep P [(T_Lcodec_Record, t31, t32)] w ∧ wBuiltin P .append #[T_Lcodec_Record, T_Lcodec_Record] [t32, t34] w fun t35 w =>
      wNil P a1 w fun t36 w =>
      wStore P T_Lcodec_Record t36 t35 w fun w =>
      k1 w) (
      k (.tuple #[]) w))

theorem call_codec_list_codec_Record (a0 a1 a2 : Value) {w : World} {k : Value → World → Prop} (h : F_codec_list_codec_Record a0 a1 a2 w k) : wCall P n_codec_list_codec_Record [a0, a1, a2] w k :=
  call_of_den mixedP Try.func250 (by kernel_rfl) (.j [] [0, 1, 2] (.s .z (.b (.l [12] [0, 1, 2, 11] .z))) (.b (.l [] [0, 1, 2] (.s .z (.b (.s .z (.s .z (.r (.ops [0, 1, 2, 3, 4] (.eff 5 [3] (.eff 6 [] (.ops [7] (.eff 8 [] .nil))))))))))))) (by kernel_rfl) (Eq.mp (by kernel_rfl) h)

def F_codec_passRecord (a0 a1 : Value) (w : World) (k : Value → World → Prop) : Prop :=
  wDraw w fun w =>
  wNil P a1 w fun t6 w =>
  wFieldA P T_codec_Record t6 0 w fun t7 w =>
  wFunc P (.method "drumlin/codec.word") [a0] [] w fun t8 w =>
  wNil P t8 w fun _ w =>
  wInvoke P a0 "drumlin/codec.word" [(.int .i64 2), t7] w fun _ w =>
  wDraw w fun w =>
  wNil P a1 w fun t14 w =>
  wFieldA P T_codec_Record t14 1 w fun t15 w =>
  wFunc P (.method "drumlin/codec.word") [a0] [] w fun t16 w =>
  wNil P t16 w fun _ w =>
  wInvoke P a0 "drumlin/codec.word" [(.int .i64 4), t15] w fun _ w =>
  wDraw w fun w =>
  wNil P a1 w fun t22 w =>
  wFieldA P T_codec_Record t22 2 w fun t23 w =>
  wFunc P (.method "drumlin/codec.int") [a0] [] w fun t24 w =>
  wNil P t24 w fun _ w =>
  wInvoke P a0 "drumlin/codec.int" [(.int .i64 2), t23] w fun _ w =>
  wDraw w fun w =>
  wNil P a1 w fun t30 w =>
  wFieldA P T_codec_Record t30 3 w fun t31 w =>
  wFunc P (.method "drumlin/codec.int") [a0] [] w fun t32 w =>
  wNil P t32 w fun _ w =>
  wInvoke P a0 "drumlin/codec.int" [(.int .i64 1), t31] w fun _ w =>
  k (.tuple #[]) w

theorem call_codec_passRecord (a0 a1 : Value) {w : World} {k : Value → World → Prop} (h : F_codec_passRecord a0 a1 w k) : wCall P n_codec_passRecord [a0, a1] w k :=
  call_of_den mixedP Try.func251 (by kernel_rfl) (.s (.r (.ops [0, 1, 2, 3] (.eff 4 [] (.ops [5, 6] (.eff 7 [] .nil))))) (.s (.r (.ops [0, 1, 2, 3] (.eff 4 [] (.ops [5, 6] (.eff 7 [] .nil))))) (.s (.r (.ops [0, 1, 2, 3] (.eff 4 [] (.ops [5, 6] (.eff 7 [] .nil))))) (.r (.ops [0, 1, 2, 3] (.eff 4 [] (.ops [5, 6] (.eff 7 [] .nil)))))))) (by kernel_rfl) (Eq.mp (by kernel_rfl) h)

def F_codec_each_codec_Record (a0 a1 : Value) (w : World) (k : Value → World → Prop) : Prop :=
  wBox P T_int a0 w fun t2 w =>
  wBox P T_func_codec_Record__bool a1 w fun t3 w =>
  wFunc P (.func n_codec_each_codec_Record_c1) [] [t3, t2] w fun t5 w =>
  k t5 w

theorem call_codec_each_codec_Record (a0 a1 : Value) {w : World} {k : Value → World → Prop} (h : F_codec_each_codec_Record a0 a1 w k) : wCall P n_codec_each_codec_Record [a0, a1] w k :=
  call_of_den mixedP Try.func252 (by kernel_rfl) .z (by kernel_rfl) (Eq.mp (by kernel_rfl) h)

def F_codec_mayRecords_c1 (a0 : Value) (w : World) (k : Value → World → Prop) : Prop :=
  wBox P T_codec_Record a0 w fun t1 w =>
  wFieldA P T_codec_Record t1 3 w fun t3 w =>
  wLoad P T_int t3 w fun t4 w =>
  wCall P n_codec_among [t4, (.int .i64 0), (.int .i64 2)] w fun t5 w =>
  k t5 w

theorem call_codec_mayRecords_c1 (a0 : Value) {w : World} {k : Value → World → Prop} (h : F_codec_mayRecords_c1 a0 w k) : wCall P n_codec_mayRecords_c1 [a0] w k :=
  call_of_den mixedP Try.func253 (by kernel_rfl) .z (by kernel_rfl) (Eq.mp (by kernel_rfl) h)

def F_codec_flag (a0 a1 : Value) (w : World) (k : Value → World → Prop) : Prop :=
  wAlloc P T_int w fun t4 w =>
  wStore P T_int t4 (.int .i64 0) w fun w =>
  wJ0 (fun k1 =>
    wNil P a1 w fun t6 w =>
    wLoad P T_bool t6 w fun t7 w =>
    wIf t7 (
      wStore P T_int t4 (.int .i64 1) w fun w =>
      k1 w) (
      k1 w)) fun _ w =>
  wInvoke P a0 "drumlin/codec.int" [(.int .i64 1), t4] w fun _ w =>
  wLoad P T_int t4 w fun t11 w =>
  wBin P .eql T_int t11 (.int .i64 1) w fun t12 w =>
  wNil P a1 w fun t13 w =>
  wStore P T_bool t13 t12 w fun w =>
  k (.tuple #[]) w

theorem call_codec_flag (a0 a1 : Value) {w : World} {k : Value → World → Prop} (h : F_codec_flag a0 a1 w k) : wCall P n_codec_flag [a0, a1] w k :=
  call_of_den mixedP Try.func254 (by kernel_rfl) (.s .z (.j [] [0, 1, 4] .z .z)) (by kernel_rfl) (Eq.mp (by kernel_rfl) h)

def F_codec_list_codec_Entry (a0 a1 a2 : Value) (w : World) (k : Value → World → Prop) : Prop :=
  wJ0 (fun k1 =>
    wNil P a1 w fun t9 w =>
    wLoad P T_Lcodec_Entry t9 w fun t10 w =>
    wLen P .len #[T_Lcodec_Entry] [t10] w fun t11 w =>
    wL1 (.int .i64 0) w (fun _ v12 w k2 =>
      wBin P .lss T_int v12 t11 w fun t13 w =>
      wIf t13 (
        wNil P a1 w fun t18 w =>
        wLoad P T_Lcodec_Entry t18 w fun t19 w =>
        wIndexA P T_Lcodec_Entry t19 v12 w fun t21 w =>
        wCallV P a2 [a0, t21] w fun _ w =>
        wBin P .add T_int v12 (.int .i64 1) w fun t23 w =>
        k2 t23 w) (
        k1 w))) fun _ w =>
  wL0 w (fun _ w k1 =>
    wInvoke P a0 "drumlin/codec.more" [] w fun t25 w =>
    wIf t25 (
      wAlloc P T_codec_Entry w fun t7 w =>
      wCallV P a2 [a0, t7] w fun _ w =>
      wDraw w fun w =>
      wNil P a1 w fun t31 w =>
      wLoad P T_Lcodec_Entry t31 w fun t32 w =>
      wLoad P T_codec_Entry t7 w fun t33 w =>
      wBuildS P T_Lcodec_Entry 1 [(0, t33)] w fun t34 w =>
      wKeep P [(T_Lcodec_Entry, t31, t32)] w ∧ wBuiltin P .append #[T_Lcodec_Entry, T_Lcodec_Entry] [t32, t34] w fun t35 w =>
      wNil P a1 w fun t36 w =>
      wStore P T_Lcodec_Entry t36 t35 w fun w =>
      k1 w) (
      k (.tuple #[]) w))

theorem call_codec_list_codec_Entry (a0 a1 a2 : Value) {w : World} {k : Value → World → Prop} (h : F_codec_list_codec_Entry a0 a1 a2 w k) : wCall P n_codec_list_codec_Entry [a0, a1, a2] w k :=
  call_of_den mixedP Try.func255 (by kernel_rfl) (.j [] [0, 1, 2] (.s .z (.b (.l [12] [0, 1, 2, 11] .z))) (.b (.l [] [0, 1, 2] (.s .z (.b (.s .z (.s .z (.r (.ops [0, 1, 2, 3, 4] (.eff 5 [3] (.eff 6 [] (.ops [7] (.eff 8 [] .nil))))))))))))) (by kernel_rfl) (Eq.mp (by kernel_rfl) h)

def F_codec_passEntry (a0 a1 : Value) (w : World) (k : Value → World → Prop) : Prop :=
  wDraw w fun w =>
  wNil P a1 w fun t6 w =>
  wFieldA P T_codec_Entry t6 0 w fun t7 w =>
  wFunc P (.method "drumlin/codec.int") [a0] [] w fun t8 w =>
  wNil P t8 w fun _ w =>
  wInvoke P a0 "drumlin/codec.int" [(.int .i64 1), t7] w fun _ w =>
  wDraw w fun w =>
  wNil P a1 w fun t14 w =>
  wFieldA P T_codec_Entry t14 1 w fun t15 w =>
  wFunc P (.method "drumlin/codec.word") [a0] [] w fun t16 w =>
  wNil P t16 w fun _ w =>
  wInvoke P a0 "drumlin/codec.word" [(.int .i64 2), t15] w fun _ w =>
  wDraw w fun w =>
  wNil P a1 w fun t22 w =>
  wFieldA P T_codec_Entry t22 2 w fun t23 w =>
  wFunc P (.method "drumlin/codec.word") [a0] [] w fun t24 w =>
  wNil P t24 w fun _ w =>
  wInvoke P a0 "drumlin/codec.word" [(.int .i64 4), t23] w fun _ w =>
  wDraw w fun w =>
  wNil P a1 w fun t30 w =>
  wFieldA P T_codec_Entry t30 3 w fun t31 w =>
  wFunc P (.method "drumlin/codec.int") [a0] [] w fun t32 w =>
  wNil P t32 w fun _ w =>
  wInvoke P a0 "drumlin/codec.int" [(.int .i64 2), t31] w fun _ w =>
  k (.tuple #[]) w

theorem call_codec_passEntry (a0 a1 : Value) {w : World} {k : Value → World → Prop} (h : F_codec_passEntry a0 a1 w k) : wCall P n_codec_passEntry [a0, a1] w k :=
  call_of_den mixedP Try.func256 (by kernel_rfl) (.s (.r (.ops [0, 1, 2, 3] (.eff 4 [] (.ops [5, 6] (.eff 7 [] .nil))))) (.s (.r (.ops [0, 1, 2, 3] (.eff 4 [] (.ops [5, 6] (.eff 7 [] .nil))))) (.s (.r (.ops [0, 1, 2, 3] (.eff 4 [] (.ops [5, 6] (.eff 7 [] .nil))))) (.r (.ops [0, 1, 2, 3] (.eff 4 [] (.ops [5, 6] (.eff 7 [] .nil)))))))) (by kernel_rfl) (Eq.mp (by kernel_rfl) h)

def F_codec_each_codec_Entry (a0 a1 : Value) (w : World) (k : Value → World → Prop) : Prop :=
  wBox P T_int a0 w fun t2 w =>
  wBox P T_func_codec_Entry__bool a1 w fun t3 w =>
  wFunc P (.func n_codec_each_codec_Entry_c1) [] [t3, t2] w fun t5 w =>
  k t5 w

theorem call_codec_each_codec_Entry (a0 a1 : Value) {w : World} {k : Value → World → Prop} (h : F_codec_each_codec_Entry a0 a1 w k) : wCall P n_codec_each_codec_Entry [a0, a1] w k :=
  call_of_den mixedP Try.func257 (by kernel_rfl) .z (by kernel_rfl) (Eq.mp (by kernel_rfl) h)

def F_codec_maySummary_c1 (a0 : Value) (w : World) (k : Value → World → Prop) : Prop :=
  wBox P T_codec_Entry a0 w fun t1 w =>
  wFieldA P T_codec_Entry t1 0 w fun t3 w =>
  wLoad P T_int t3 w fun t4 w =>
  wCall P n_codec_among [t4, (.int .i64 1), (.int .i64 6)] w fun t5 w =>
  k t5 w

theorem call_codec_maySummary_c1 (a0 : Value) {w : World} {k : Value → World → Prop} (h : F_codec_maySummary_c1 a0 w k) : wCall P n_codec_maySummary_c1 [a0] w k :=
  call_of_den mixedP Try.func258 (by kernel_rfl) .z (by kernel_rfl) (Eq.mp (by kernel_rfl) h)

def F_codec_each_codec_Use_c1 (a0 a1 a2 : Value) (w : World) (k : Value → World → Prop) : Prop :=
  wJ0 (fun k1 =>
    wLen P .len #[T_Lcodec_Use] [a0] w fun t8 w =>
    wL1 (.int .i64 0) w (fun _ v9 w k2 =>
      wBin P .lss T_int v9 t8 w fun t10 w =>
      wIf t10 (
        wIndexA P T_Lcodec_Use a0 v9 w fun t11 w =>
        wLoad P T_codec_Use t11 w fun t12 w =>
        wAlloc P T_codec_Use w fun t6 w =>
        wStore P T_codec_Use t6 t12 w fun w =>
        wLoad P T_func_codec_Use__bool a1 w fun t13 w =>
        wLoad P T_codec_Use t6 w fun t14 w =>
        wCallV P t13 [t14] w fun t15 w =>
        wUn P .not t15 w fun t16 w =>
        wIf t16 (
          k (.bool false) w) (
          wBin P .add T_int v9 (.int .i64 1) w fun t17 w =>
          k2 t17 w)) (
        k1 w))) fun _ w =>
  wLen P .len #[T_Lcodec_Use] [a0] w fun t19 w =>
  wLoad P T_int a2 w fun t20 w =>
  wBin P .leq T_int t19 t20 w fun t21 w =>
  k t21 w

theorem call_codec_each_codec_Use_c1 (a0 a1 a2 : Value) {w : World} {k : Value → World → Prop} (h : F_codec_each_codec_Use_c1 a0 a1 a2 w k) : wCall P n_codec_each_codec_Use_c1 [a0, a1, a2] w k :=
  call_of_den mixedP Try.func280 (by kernel_rfl) (.s .z (.j [] [0, 2] (.s .z (.b (.l [9] [0, 1, 2, 7, 8] .z))) .z)) (by kernel_rfl) (Eq.mp (by kernel_rfl) h)

def F_codec_each_codec_Slot_c1 (a0 a1 a2 : Value) (w : World) (k : Value → World → Prop) : Prop :=
  wJ0 (fun k1 =>
    wLen P .len #[T_Lcodec_Slot] [a0] w fun t8 w =>
    wL1 (.int .i64 0) w (fun _ v9 w k2 =>
      wBin P .lss T_int v9 t8 w fun t10 w =>
      wIf t10 (
        wIndexA P T_Lcodec_Slot a0 v9 w fun t11 w =>
        wLoad P T_codec_Slot t11 w fun t12 w =>
        wAlloc P T_codec_Slot w fun t6 w =>
        wStore P T_codec_Slot t6 t12 w fun w =>
        wLoad P T_func_codec_Slot__bool a1 w fun t13 w =>
        wLoad P T_codec_Slot t6 w fun t14 w =>
        wCallV P t13 [t14] w fun t15 w =>
        wUn P .not t15 w fun t16 w =>
        wIf t16 (
          k (.bool false) w) (
          wBin P .add T_int v9 (.int .i64 1) w fun t17 w =>
          k2 t17 w)) (
        k1 w))) fun _ w =>
  wLen P .len #[T_Lcodec_Slot] [a0] w fun t19 w =>
  wLoad P T_int a2 w fun t20 w =>
  wBin P .leq T_int t19 t20 w fun t21 w =>
  k t21 w

theorem call_codec_each_codec_Slot_c1 (a0 a1 a2 : Value) {w : World} {k : Value → World → Prop} (h : F_codec_each_codec_Slot_c1 a0 a1 a2 w k) : wCall P n_codec_each_codec_Slot_c1 [a0, a1, a2] w k :=
  call_of_den mixedP Try.func285 (by kernel_rfl) (.s .z (.j [] [0, 2] (.s .z (.b (.l [9] [0, 1, 2, 7, 8] .z))) .z)) (by kernel_rfl) (Eq.mp (by kernel_rfl) h)

def F_codec_each_codec_Record_c1 (a0 a1 a2 : Value) (w : World) (k : Value → World → Prop) : Prop :=
  wJ0 (fun k1 =>
    wLen P .len #[T_Lcodec_Record] [a0] w fun t8 w =>
    wL1 (.int .i64 0) w (fun _ v9 w k2 =>
      wBin P .lss T_int v9 t8 w fun t10 w =>
      wIf t10 (
        wIndexA P T_Lcodec_Record a0 v9 w fun t11 w =>
        wLoad P T_codec_Record t11 w fun t12 w =>
        wAlloc P T_codec_Record w fun t6 w =>
        wStore P T_codec_Record t6 t12 w fun w =>
        wLoad P T_func_codec_Record__bool a1 w fun t13 w =>
        wLoad P T_codec_Record t6 w fun t14 w =>
        wCallV P t13 [t14] w fun t15 w =>
        wUn P .not t15 w fun t16 w =>
        wIf t16 (
          k (.bool false) w) (
          wBin P .add T_int v9 (.int .i64 1) w fun t17 w =>
          k2 t17 w)) (
        k1 w))) fun _ w =>
  wLen P .len #[T_Lcodec_Record] [a0] w fun t19 w =>
  wLoad P T_int a2 w fun t20 w =>
  wBin P .leq T_int t19 t20 w fun t21 w =>
  k t21 w

theorem call_codec_each_codec_Record_c1 (a0 a1 a2 : Value) {w : World} {k : Value → World → Prop} (h : F_codec_each_codec_Record_c1 a0 a1 a2 w k) : wCall P n_codec_each_codec_Record_c1 [a0, a1, a2] w k :=
  call_of_den mixedP Try.func286 (by kernel_rfl) (.s .z (.j [] [0, 2] (.s .z (.b (.l [9] [0, 1, 2, 7, 8] .z))) .z)) (by kernel_rfl) (Eq.mp (by kernel_rfl) h)

def F_codec_each_codec_Entry_c1 (a0 a1 a2 : Value) (w : World) (k : Value → World → Prop) : Prop :=
  wJ0 (fun k1 =>
    wLen P .len #[T_Lcodec_Entry] [a0] w fun t8 w =>
    wL1 (.int .i64 0) w (fun _ v9 w k2 =>
      wBin P .lss T_int v9 t8 w fun t10 w =>
      wIf t10 (
        wIndexA P T_Lcodec_Entry a0 v9 w fun t11 w =>
        wLoad P T_codec_Entry t11 w fun t12 w =>
        wAlloc P T_codec_Entry w fun t6 w =>
        wStore P T_codec_Entry t6 t12 w fun w =>
        wLoad P T_func_codec_Entry__bool a1 w fun t13 w =>
        wLoad P T_codec_Entry t6 w fun t14 w =>
        wCallV P t13 [t14] w fun t15 w =>
        wUn P .not t15 w fun t16 w =>
        wIf t16 (
          k (.bool false) w) (
          wBin P .add T_int v9 (.int .i64 1) w fun t17 w =>
          k2 t17 w)) (
        k1 w))) fun _ w =>
  wLen P .len #[T_Lcodec_Entry] [a0] w fun t19 w =>
  wLoad P T_int a2 w fun t20 w =>
  wBin P .leq T_int t19 t20 w fun t21 w =>
  k t21 w

theorem call_codec_each_codec_Entry_c1 (a0 a1 a2 : Value) {w : World} {k : Value → World → Prop} (h : F_codec_each_codec_Entry_c1 a0 a1 a2 w k) : wCall P n_codec_each_codec_Entry_c1 [a0, a1, a2] w k :=
  call_of_den mixedP Try.func287 (by kernel_rfl) (.s .z (.j [] [0, 2] (.s .z (.b (.l [9] [0, 1, 2, 7, 8] .z))) .z)) (by kernel_rfl) (Eq.mp (by kernel_rfl) h)

def F_codec_writer_int (a0 a1 a2 : Value) (w : World) (k : Value → World → Prop) : Prop :=
  wNil P a2 w fun t8 w =>
  wLoad P T_int t8 w fun t9 w =>
  wLen P .max #[T_int, T_int] [t9, (.int .i64 0)] w fun t10 w =>
  wConv P T_int T_uint64 t10 w fun t11 w =>
  wAlloc P T_uint64 w fun t6 w =>
  wStore P T_uint64 t6 t11 w fun w =>
  wNil P a0 w fun t14 w =>
  wFieldA P T_codec_writer t14 1 w fun t15 w =>
  wLoad P T_bool t15 w fun t16 w =>
  wGrp t16 false (fun k21 =>
    wNil P a2 w fun t19 w =>
    wLoad P T_int t19 w fun t20 w =>
    wBin P .lss T_int t20 (.int .i64 0) w fun t21 w =>
    k21 t21 w) w fun _ t21 w =>
  wPick t16 (.bool true) t21 w fun t22 w =>
  wNil P a0 w fun t23 w =>
  wFieldA P T_codec_writer t23 1 w fun t24 w =>
  wStore P T_bool t24 t22 w fun w =>
  wCall P n_codec_writer_wide [a0, a1, t6] w fun _ w =>
  k (.tuple #[]) w

theorem call_codec_writer_int (a0 a1 a2 : Value) {w : World} {k : Value → World → Prop} (h : F_codec_writer_int a0 a1 a2 w k) : wCall P n_codec_writer_int [a0, a1, a2] w k :=
  call_of_den mixedP Try.func315 (by kernel_rfl) (.s .z (.s (.r (.ops [0, 1, 2, 3, 4, 5] (.grp 5 false 21 [18, 19, 20] (.ops [6, 7, 8, 9] .nil) (.ops [10, 11, 12, 13] .nil)))) .z)) (by kernel_rfl) (Eq.mp (by kernel_rfl) h)

def F_codec_writer_more (a0 : Value) (w : World) (k : Value → World → Prop) : Prop :=
  k (.bool false) w

theorem call_codec_writer_more (a0 : Value) {w : World} {k : Value → World → Prop} (h : F_codec_writer_more a0 w k) : wCall P n_codec_writer_more [a0] w k :=
  call_of_den mixedP Try.func316 (by kernel_rfl) .z (by kernel_rfl) (Eq.mp (by kernel_rfl) h)

def F_codec_writer_wide (a0 a1 a2 : Value) (w : World) (k : Value → World → Prop) : Prop :=
  wMake P T_Luint8 a1 a1 w fun t8 w =>
  wJ0 (fun k1 =>
    wNil P a2 w fun t12 w =>
    wLoad P T_uint64 t12 w fun t13 w =>
    wCall P n_num_Put [t8, (.int .i64 0), a1, t13] w fun t14 w =>
    wBin P .neq T_api_Errno t14 (.int .i64 0) w fun t15 w =>
    wIf t15 (
      wNil P a0 w fun t17 w =>
      wFieldA P T_codec_writer t17 1 w fun t18 w =>
      wStore P T_bool t18 (.bool true) w fun w =>
      k1 w) (
      k1 w)) fun _ w =>
  wNil P a0 w fun t21 w =>
  wFieldA P T_codec_writer t21 0 w fun t22 w =>
  wLoad P T_Luint8 t22 w fun t23 w =>
  wBuiltin P .append #[T_Luint8, T_Luint8] [t23, t8] w fun t25 w =>
  wNil P a0 w fun t26 w =>
  wFieldA P T_codec_writer t26 0 w fun t27 w =>
  wStore P T_Luint8 t27 t25 w fun w =>
  k (.tuple #[]) w

theorem call_codec_writer_wide (a0 a1 a2 : Value) {w : World} {k : Value → World → Prop} (h : F_codec_writer_wide a0 a1 a2 w k) : wCall P n_codec_writer_wide [a0, a1, a2] w k :=
  call_of_den mixedP Try.func317 (by kernel_rfl) (.s .z (.j [] [0, 6] .z .z)) (by kernel_rfl) (Eq.mp (by kernel_rfl) h)

def F_codec_writer_word (a0 a1 a2 : Value) (w : World) (k : Value → World → Prop) : Prop :=
  wNil P a2 w fun t8 w =>
  wLoad P T_uint32 t8 w fun t9 w =>
  wConv P T_uint32 T_uint64 t9 w fun t10 w =>
  wAlloc P T_uint64 w fun t6 w =>
  wStore P T_uint64 t6 t10 w fun w =>
  wCall P n_codec_writer_wide [a0, a1, t6] w fun _ w =>
  k (.tuple #[]) w

theorem call_codec_writer_word (a0 a1 a2 : Value) {w : World} {k : Value → World → Prop} (h : F_codec_writer_word a0 a1 a2 w k) : wCall P n_codec_writer_word [a0, a1, a2] w k :=
  call_of_den mixedP Try.func318 (by kernel_rfl) .z (by kernel_rfl) (Eq.mp (by kernel_rfl) h)

def F_codec_reader_int (a0 a1 a2 : Value) (w : World) (k : Value → World → Prop) : Prop :=
  wAlloc P T_uint64 w fun t6 w =>
  wCall P n_codec_reader_wide [a0, a1, t6] w fun _ w =>
  wLoad P T_uint64 t6 w fun t11 w =>
  wConv P T_uint64 T_int t11 w fun t12 w =>
  wNil P a2 w fun t13 w =>
  wStore P T_int t13 t12 w fun w =>
  k (.tuple #[]) w

theorem call_codec_reader_int (a0 a1 a2 : Value) {w : World} {k : Value → World → Prop} (h : F_codec_reader_int a0 a1 a2 w k) : wCall P n_codec_reader_int [a0, a1, a2] w k :=
  call_of_den mixedP Try.func319 (by kernel_rfl) .z (by kernel_rfl) (Eq.mp (by kernel_rfl) h)

def F_codec_reader_more (a0 : Value) (w : World) (k : Value → World → Prop) : Prop :=
  wDraw w fun w =>
  wNil P a0 w fun t4 w =>
  wFieldA P T_codec_reader t4 2 w fun t5 w =>
  wLoad P T_bool t5 w fun t6 w =>
  wUn P .not t6 w fun t7 w =>
  wGrp t7 true (fun k18 =>
    wNil P a0 w fun t10 w =>
    wFieldA P T_codec_reader t10 1 w fun t11 w =>
    wLoad P T_int t11 w fun t12 w =>
    wNil P a0 w fun t14 w =>
    wFieldA P T_codec_reader t14 0 w fun t15 w =>
    wLoad P T_Luint8 t15 w fun t16 w =>
    wLen P .len #[T_Luint8] [t16] w fun t17 w =>
    wBin P .lss T_int t12 t17 w fun t18 w =>
    k18 t18 w) w fun _ t18 w =>
  wPick t7 t18 (.bool false) w fun t19 w =>
  k t19 w

theorem call_codec_reader_more (a0 : Value) {w : World} {k : Value → World → Prop} (h : F_codec_reader_more a0 w k) : wCall P n_codec_reader_more [a0] w k :=
  call_of_den mixedP Try.func320 (by kernel_rfl) (.s .z (.s (.r (.ops [0, 1, 2, 3, 4, 5] (.grp 5 true 18 [9, 10, 11, 12, 13, 14, 15, 16, 17] (.ops [6, 7, 8, 9, 10, 11, 12, 13, 14, 15] .nil) (.ops [16, 17] .nil)))) .z)) (by kernel_rfl) (Eq.mp (by kernel_rfl) h)

def F_codec_reader_wide (a0 a1 a2 : Value) (w : World) (k : Value → World → Prop) : Prop :=
  wDraw w fun w =>
  wNil P a0 w fun t10 w =>
  wFieldA P T_codec_reader t10 0 w fun t11 w =>
  wLoad P T_Luint8 t11 w fun t12 w =>
  wNil P a0 w fun t14 w =>
  wFieldA P T_codec_reader t14 1 w fun t15 w =>
  wLoad P T_int t15 w fun t16 w =>
  wCall P n_num_Get [t12, t16, a1] w fun t18 w =>
  wExtract P t18 0 w fun t19 w =>
  wExtract P t18 1 w fun t20 w =>
  wNil P a2 w fun t23 w =>
  wStore P T_uint64 t23 t19 w fun w =>
  wNil P a0 w fun t26 w =>
  wFieldA P T_codec_reader t26 2 w fun t27 w =>
  wLoad P T_bool t27 w fun t28 w =>
  wGrp t28 false (fun k31 =>
    wBin P .neq T_api_Errno t20 (.int .i64 0) w fun t31 w =>
    k31 t31 w) w fun _ t31 w =>
  wPick t28 (.bool true) t31 w fun t32 w =>
  wNil P a0 w fun t33 w =>
  wFieldA P T_codec_reader t33 2 w fun t34 w =>
  wStore P T_bool t34 t32 w fun w =>
  wNil P a0 w fun t36 w =>
  wFieldA P T_codec_reader t36 1 w fun t37 w =>
  wLoad P T_int t37 w fun t38 w =>
  wBin P .add T_int t38 a1 w fun t40 w =>
  wNil P a0 w fun t41 w =>
  wFieldA P T_codec_reader t41 1 w fun t42 w =>
  wStore P T_int t42 t40 w fun w =>
  k (.tuple #[]) w

theorem call_codec_reader_wide (a0 a1 a2 : Value) {w : World} {k : Value → World → Prop} (h : F_codec_reader_wide a0 a1 a2 w k) : wCall P n_codec_reader_wide [a0, a1, a2] w k :=
  call_of_den mixedP Try.func321 (by kernel_rfl) (.s (.r (.ops [0, 1, 2, 3, 4, 5, 6, 7, 8] (.eff 9 [] (.ops [10, 11, 12, 13, 14] .nil)))) (.s .z (.s (.r (.ops [0, 1, 2, 3, 4, 5] (.grp 5 false 31 [30] (.ops [6, 7] .nil) (.ops [8, 9, 10, 11] .nil)))) .z))) (by kernel_rfl) (Eq.mp (by kernel_rfl) h)

def F_codec_reader_word (a0 a1 a2 : Value) (w : World) (k : Value → World → Prop) : Prop :=
  wAlloc P T_uint64 w fun t6 w =>
  wCall P n_codec_reader_wide [a0, a1, t6] w fun _ w =>
  wLoad P T_uint64 t6 w fun t11 w =>
  wConv P T_uint64 T_uint32 t11 w fun t12 w =>
  wNil P a2 w fun t13 w =>
  wStore P T_uint32 t13 t12 w fun w =>
  k (.tuple #[]) w

theorem call_codec_reader_word (a0 a1 a2 : Value) {w : World} {k : Value → World → Prop} (h : F_codec_reader_word a0 a1 a2 w k) : wCall P n_codec_reader_word [a0, a1, a2] w k :=
  call_of_den mixedP Try.func322 (by kernel_rfl) .z (by kernel_rfl) (Eq.mp (by kernel_rfl) h)

end Go.Dn
end
section
/-! Texts of functions, printed by mkg.py. -/
set_option maxRecDepth 100000
set_option linter.unusedVariables false
namespace Go.Dn
open Go Go.Proofs
def F_num_Writer_Num (a0 a1 a2 : Value) (w : World) (k : Value → World → Prop) : Prop :=
  wJ0 (fun k1 =>
    wNil P a0 w fun t7 w =>
    wFieldA P T_num_Writer t7 2 w fun t8 w =>
    wLoad P T_api_Errno t8 w fun t9 w =>
    wBin P .eql T_api_Errno t9 (.int .i64 0) w fun t10 w =>
    wIf t10 (
      wDraw w fun w =>
      wNil P a0 w fun t13 w =>
      wFieldA P T_num_Writer t13 0 w fun t14 w =>
      wSlice P T_api_Sector t14 none none none w fun t15 w =>
      wNil P a0 w fun t17 w =>
      wFieldA P T_num_Writer t17 1 w fun t18 w =>
      wLoad P T_int t18 w fun t19 w =>
      wCall P n_num_Put [t15, t19, a1, a2] w fun t22 w =>
      wNil P a0 w fun t23 w =>
      wFieldA P T_num_Writer t23 2 w fun t24 w =>
      wStore P T_api_Errno t24 t22 w fun w =>
      k1 w) (
      k1 w)) fun _ w =>
  wNil P a0 w fun t26 w =>
  wFieldA P T_num_Writer t26 2 w fun t27 w =>
  wLoad P T_api_Errno t27 w fun t28 w =>
  wBin P .eql T_api_Errno t28 (.int .i64 0) w fun t29 w =>
  wIf t29 (
    wNil P a0 w fun t31 w =>
    wFieldA P T_num_Writer t31 1 w fun t32 w =>
    wLoad P T_int t32 w fun t33 w =>
    wBin P .add T_int t33 a1 w fun t35 w =>
    wNil P a0 w fun t36 w =>
    wFieldA P T_num_Writer t36 1 w fun t37 w =>
    wStore P T_int t37 t35 w fun w =>
    k (.tuple #[]) w) (
    k (.tuple #[]) w)

theorem call_num_Writer_Num (a0 a1 a2 : Value) {w : World} {k : Value → World → Prop} (h : F_num_Writer_Num a0 a1 a2 w k) : wCall P n_num_Writer_Num [a0, a1, a2] w k :=
  call_of_den mixedP Try.func179 (by kernel_rfl) (.j [] [0, 1] (.s .z (.s (.r (.ops [0, 1, 2, 3, 4, 5, 6, 7, 8, 9, 10] (.eff 11 [] (.ops [12, 13] (.eff 14 [] .nil))))) .z)) .z) (by kernel_rfl) (Eq.mp (by kernel_rfl) h)

def F_num_Writer_Sector (a0 : Value) (w : World) (k : Value → World → Prop) : Prop :=
  wAlloc P T_api_Sector w fun t2 w =>
  wNil P a0 w fun t5 w =>
  wFieldA P T_num_Writer t5 2 w fun t6 w =>
  wLoad P T_api_Errno t6 w fun t7 w =>
  wBin P .neq T_api_Errno t7 (.int .i64 0) w fun t8 w =>
  wIf t8 (
    wDraw w fun w =>
    wBuild P T_api_Sector [] w fun t9 w =>
    wNil P a0 w fun t11 w =>
    wFieldA P T_num_Writer t11 2 w fun t12 w =>
    wLoad P T_api_Errno t12 w fun t13 w =>
    wStore P T_api_Sector t2 t9 w fun w =>
    wKeep P [(T_api_Errno, t12, t13)] w ∧ wRes P T_api_Sector t2 w fun r2 =>
    k (.tuple #[r2, t13]) w) (
    wNil P a0 w fun t15 w =>
    wFieldA P T_num_Writer t15 0 w fun t16 w =>
    wLoad P T_api_Sector t16 w fun t17 w =>
    wStore P T_api_Sector t2 t17 w fun w =>
    wRes P T_api_Sector t2 w fun r2 =>
    k (.tuple #[r2, (.int .i64 0)]) w)

theorem call_num_Writer_Sector (a0 : Value) {w : World} {k : Value → World → Prop} (h : F_num_Writer_Sector a0 w k) : wCall P n_num_Writer_Sector [a0] w k :=
  call_of_den mixedP Try.func180 (by kernel_rfl) (.s .z (.s (.s .z (.s (.s (.r (.ops [0, 1, 2, 3, 4] (.eff 5 [4] (.ops [6] .nil)))) .z) .z)) .z)) (by kernel_rfl) (Eq.mp (by kernel_rfl) h)

def F_num_Read (a0 : Value) (w : World) (k : Value → World → Prop) : Prop :=
  wBox P T_api_Sector a0 w fun t1 w =>
  wLoad P T_api_Sector t1 w fun t3 w =>
  wBuild P T_num_Reader [(0, t3)] w fun t4 w =>
  wBox P T_num_Reader t4 w fun t5 w =>
  k t5 w

theorem call_num_Read (a0 : Value) {w : World} {k : Value → World → Prop} (h : F_num_Read a0 w k) : wCall P n_num_Read [a0] w k :=
  call_of_den mixedP Try.func181 (by kernel_rfl) .z (by kernel_rfl) (Eq.mp (by kernel_rfl) h)

def F_num_Reader_Num (a0 a1 : Value) (w : World) (k : Value → World → Prop) : Prop :=
  wNil P a0 w fun t8 w =>
  wFieldA P T_num_Reader t8 2 w fun t9 w =>
  wLoad P T_api_Errno t9 w fun t10 w =>
  wBin P .neq T_api_Errno t10 (.int .i64 0) w fun t11 w =>
  wIf t11 (
    k (.int .u64 0) w) (
    wDraw w fun w =>
    wNil P a0 w fun t14 w =>
    wFieldA P T_num_Reader t14 0 w fun t15 w =>
    wSlice P T_api_Sector t15 none none none w fun t16 w =>
    wNil P a0 w fun t18 w =>
    wFieldA P T_num_Reader t18 1 w fun t19 w =>
    wLoad P T_int t19 w fun t20 w =>
    wCall P n_num_Get [t16, t20, a1] w fun t22 w =>
    wExtract P t22 0 w fun t23 w =>
    wExtract P t22 1 w fun t24 w =>
    wNil P a0 w fun t27 w =>
    wFieldA P T_num_Reader t27 2 w fun t28 w =>
    wStore P T_api_Errno t28 t24 w fun w =>
    wBin P .eql T_api_Errno t24 (.int .i64 0) w fun t30 w =>
    wIf t30 (
      wNil P a0 w fun t32 w =>
      wFieldA P T_num_Reader t32 1 w fun t33 w =>
      wLoad P T_int t33 w fun t34 w =>
      wBin P .add T_int t34 a1 w fun t36 w =>
      wNil P a0 w fun t37 w =>
      wFieldA P T_num_Reader t37 1 w fun t38 w =>
      wStore P T_int t38 t36 w fun w =>
      k t23 w) (
      k t23 w))

theorem call_num_Reader_Num (a0 a1 : Value) {w : World} {k : Value → World → Prop} (h : F_num_Reader_Num a0 a1 w k) : wCall P n_num_Reader_Num [a0, a1] w k :=
  call_of_den mixedP Try.func182 (by kernel_rfl) (.s .z (.s .z (.s (.r (.ops [0, 1, 2, 3, 4, 5, 6, 7, 8] (.eff 9 [] (.ops [10, 11, 12, 13, 14] .nil)))) .z))) (by kernel_rfl) (Eq.mp (by kernel_rfl) h)

def F_num_Put (a0 a1 a2 a3 : Value) (w : World) (k : Value → World → Prop) : Prop :=
  wCall P n_num_fits [a0, a1, a2] w fun t13 w =>
  wUn P .not t13 w fun t14 w =>
  wGrp t14 false (fun k24 =>
    wBin P .lss T_int a2 (.int .i64 8) w fun t17 w =>
    wGrp t17 true (fun k23 =>
      wBin P .mul T_int (.int .i64 8) a2 w fun t21 w =>
      wBin P .shr T_uint64 a3 t21 w fun t22 w =>
      wBin P .neq T_uint64 t22 (.int .u64 0) w fun t23 w =>
      k23 t23 w) w fun _ t23 w =>
    wPick t17 t23 (.bool false) w fun t24 w =>
    k24 t24 w) w fun _ t24 w =>
  wPick t14 (.bool true) t24 w fun t25 w =>
  wIf t25 (
    k (.int .i64 1) w) (
    wL1 (.int .i64 0) w (fun _ v27 w k2 =>
      wBin P .lss T_int v27 a2 w fun t28 w =>
      wIf t28 (
        wBin P .add T_int a1 v27 w fun t33 w =>
        wBin P .mul T_int (.int .i64 8) v27 w fun t36 w =>
        wBin P .shr T_uint64 a3 t36 w fun t37 w =>
        wConv P T_uint64 T_uint8 t37 w fun t38 w =>
        wIndexA P T_Luint8 a0 t33 w fun t39 w =>
        wStore P T_uint8 t39 t38 w fun w =>
        wBin P .add T_int v27 (.int .i64 1) w fun t40 w =>
        k2 t40 w) (
        k (.int .i64 0) w)))

theorem call_num_Put (a0 a1 a2 a3 : Value) {w : World} {k : Value → World → Prop} (h : F_num_Put a0 a1 a2 a3 w k) : wCall P n_num_Put [a0, a1, a2, a3] w k :=
  call_of_den mixedP Try.func244 (by kernel_rfl) (.s .z (.s (.s (.r (.ops [0, 1, 2, 3, 4, 5] (.grp 5 false 24 [16, 17, 18, 19, 20, 21, 22, 23] (.ops [6, 7, 8] (.grp 8 true 23 [19, 20, 21, 22] (.ops [9, 10, 11, 12, 13] .nil) (.ops [14] .nil))) (.ops [15] .nil)))) .z) (.s (.s .z (.b (.l [27] [0, 1, 3, 26] .z))) .z))) (by kernel_rfl) (Eq.mp (by kernel_rfl) h)

def F_num_Get (a0 a1 a2 : Value) (w : World) (k : Value → World → Prop) : Prop :=
  wCall P n_num_fits [a0, a1, a2] w fun t13 w =>
  wUn P .not t13 w fun t14 w =>
  wIf t14 (
    k (.tuple #[(.int .u64 0), (.int .i64 1)]) w) (
    wL2 (.int .u64 0) (.int .i64 0) w (fun _ v8 v16 w k2 =>
      wBin P .lss T_int v16 a2 w fun t17 w =>
      wIf t17 (
        wBin P .add T_int a1 v16 w fun t23 w =>
        wIndexA P T_Luint8 a0 t23 w fun t24 w =>
        wLoad P T_uint8 t24 w fun t25 w =>
        wConv P T_uint8 T_uint64 t25 w fun t26 w =>
        wBin P .mul T_int (.int .i64 8) v16 w fun t28 w =>
        wBin P .shl T_uint64 t26 t28 w fun t29 w =>
        wBin P .or T_uint64 v8 t29 w fun t30 w =>
        wBin P .add T_int v16 (.int .i64 1) w fun t31 w =>
        k2 t30 t31 w) (
        k (.tuple #[v8, (.int .i64 0)]) w)))

theorem call_num_Get (a0 a1 a2 : Value) {w : World} {k : Value → World → Prop} (h : F_num_Get a0 a1 a2 w k) : wCall P n_num_Get [a0, a1, a2] w k :=
  call_of_den mixedP Try.func245 (by kernel_rfl) (.s .z (.s .z (.s .z (.s (.s .z (.b (.l [8, 16] [0, 1, 15] .z))) .z)))) (by kernel_rfl) (Eq.mp (by kernel_rfl) h)

def F_num_Writer_Bytes (a0 a1 a2 : Value) (w : World) (k : Value → World → Prop) : Prop :=
  wJ0 (fun k1 =>
    wNil P a0 w fun t7 w =>
    wFieldA P T_num_Writer t7 2 w fun t8 w =>
    wLoad P T_api_Errno t8 w fun t9 w =>
    wBin P .eql T_api_Errno t9 (.int .i64 0) w fun t10 w =>
    wGrp t10 true (fun k24 =>
      wLen P .len #[T_Luint8] [a2] w fun t14 w =>
      wBin P .lss T_int a1 t14 w fun t15 w =>
      wGrp t15 false (fun k23 =>
        wNil P a0 w fun t19 w =>
        wFieldA P T_num_Writer t19 1 w fun t20 w =>
        wLoad P T_int t20 w fun t21 w =>
        wBin P .sub T_int (.int .i64 128) t21 w fun t22 w =>
        wBin P .gtr T_int a1 t22 w fun t23 w =>
        k23 t23 w) w fun _ t23 w =>
      wPick t15 (.bool true) t23 w fun t24 w =>
      k24 t24 w) w fun _ t24 w =>
    wPick t10 t24 (.bool false) w fun t25 w =>
    wIf t25 (
      wNil P a0 w fun t27 w =>
      wFieldA P T_num_Writer t27 2 w fun t28 w =>
      wStore P T_api_Errno t28 (.int .i64 1) w fun w =>
      k1 w) (
      k1 w)) fun _ w =>
  wNil P a0 w fun t30 w =>
  wFieldA P T_num_Writer t30 2 w fun t31 w =>
  wLoad P T_api_Errno t31 w fun t32 w =>
  wBin P .eql T_api_Errno t32 (.int .i64 0) w fun t33 w =>
  wIf t33 (
    wDraw w fun w =>
    wNil P a0 w fun t35 w =>
    wFieldA P T_num_Writer t35 0 w fun t36 w =>
    wNil P a0 w fun t38 w =>
    wFieldA P T_num_Writer t38 1 w fun t39 w =>
    wLoad P T_int t39 w fun t40 w =>
    wSlice P T_api_Sector t36 (some t40) none none w fun t41 w =>
    wBuiltin P .copy #[T_Luint8, T_Luint8] [t41, a2] w fun _ w =>
    wNil P a0 w fun t45 w =>
    wFieldA P T_num_Writer t45 1 w fun t46 w =>
    wLoad P T_int t46 w fun t47 w =>
    wBin P .add T_int t47 a1 w fun t49 w =>
    wNil P a0 w fun t50 w =>
    wFieldA P T_num_Writer t50 1 w fun t51 w =>
    wStore P T_int t51 t49 w fun w =>
    k (.tuple #[]) w) (
    k (.tuple #[]) w)

theorem call_num_Writer_Bytes (a0 a1 a2 : Value) {w : World} {k : Value → World → Prop} (h : F_num_Writer_Bytes a0 a1 a2 w k) : wCall P n_num_Writer_Bytes [a0, a1, a2] w k :=
  call_of_den mixedP Try.func278 (by kernel_rfl) (.j [] [0, 1, 2] (.s (.r (.ops [0, 1, 2, 3, 4, 5] (.grp 5 true 24 [12, 13, 14, 15, 16, 17, 18, 19, 20, 21, 22, 23] (.ops [6, 7, 8, 9, 10] (.grp 10 false 23 [17, 18, 19, 20, 21, 22] (.ops [11, 12, 13, 14, 15, 16, 17] .nil) (.ops [18] .nil))) (.ops [19] .nil)))) .z) (.s .z (.s (.s (.r (.ops [0, 1, 2, 3, 4, 5, 6, 7, 8] (.eff 9 [] .nil))) .z) .z))) (by kernel_rfl) (Eq.mp (by kernel_rfl) h)

def F_num_Reader_Bytes (a0 a1 : Value) (w : World) (k : Value → World → Prop) : Prop :=
  wJ0 (fun k1 =>
    wNil P a0 w fun t6 w =>
    wFieldA P T_num_Reader t6 2 w fun t7 w =>
    wLoad P T_api_Errno t7 w fun t8 w =>
    wBin P .eql T_api_Errno t8 (.int .i64 0) w fun t9 w =>
    wGrp t9 true (fun k18 =>
      wBin P .lss T_int a1 (.int .i64 0) w fun t12 w =>
      wGrp t12 false (fun k17 =>
        wCall P n_num_Reader_Left [a0] w fun t16 w =>
        wBin P .gtr T_int a1 t16 w fun t17 w =>
        k17 t17 w) w fun _ t17 w =>
      wPick t12 (.bool true) t17 w fun t18 w =>
      k18 t18 w) w fun _ t18 w =>
    wPick t9 t18 (.bool false) w fun t19 w =>
    wIf t19 (
      wNil P a0 w fun t21 w =>
      wFieldA P T_num_Reader t21 2 w fun t22 w =>
      wStore P T_api_Errno t22 (.int .i64 1) w fun w =>
      k1 w) (
      k1 w)) fun _ w =>
  wNil P a0 w fun t24 w =>
  wFieldA P T_num_Reader t24 2 w fun t25 w =>
  wLoad P T_api_Errno t25 w fun t26 w =>
  wBin P .neq T_api_Errno t26 (.int .i64 0) w fun t27 w =>
  wIf t27 (
    k (.slice none 0 0) w) (
    wNil P a0 w fun t29 w =>
    wFieldA P T_num_Reader t29 1 w fun t30 w =>
    wLoad P T_int t30 w fun t31 w =>
    wBin P .add T_int t31 a1 w fun t33 w =>
    wNil P a0 w fun t34 w =>
    wFieldA P T_num_Reader t34 1 w fun t35 w =>
    wStore P T_int t35 t33 w fun w =>
    wDraw w fun w =>
    wNil P a0 w fun t37 w =>
    wFieldA P T_num_Reader t37 0 w fun t38 w =>
    wNil P a0 w fun t40 w =>
    wFieldA P T_num_Reader t40 1 w fun t41 w =>
    wLoad P T_int t41 w fun t42 w =>
    wBin P .sub T_int t42 a1 w fun t44 w =>
    wNil P a0 w fun t46 w =>
    wFieldA P T_num_Reader t46 1 w fun t47 w =>
    wLoad P T_int t47 w fun t48 w =>
    wSlice P T_api_Sector t38 (some t44) (some t48) none w fun t49 w =>
    wBuiltin P .append #[T_Luint8, T_Luint8] [(.slice none 0 0), t49] w fun t50 w =>
    k t50 w)

theorem call_num_Reader_Bytes (a0 a1 : Value) {w : World} {k : Value → World → Prop} (h : F_num_Reader_Bytes a0 a1 w k) : wCall P n_num_Reader_Bytes [a0, a1] w k :=
  call_of_den mixedP Try.func281 (by kernel_rfl) (.s .z (.j [] [0, 1] (.s (.r (.ops [0, 1, 2, 3, 4, 5] (.grp 5 true 18 [11, 12, 13, 14, 15, 16, 17] (.ops [6, 7, 8] (.grp 8 false 17 [14, 15, 16] (.ops [9, 10, 11, 12] .nil) (.ops [13] .nil))) (.ops [14] .nil)))) .z) (.s .z (.s .z (.s (.r (.ops [0, 1, 2, 3, 4, 5, 6, 7, 8, 9, 10, 11, 12, 13] (.eff 14 [] (.ops [15] .nil)))) .z))))) (by kernel_rfl) (Eq.mp (by kernel_rfl) h)

def F_num_fits (a0 a1 a2 : Value) (w : World) (k : Value → World → Prop) : Prop :=
  wBin P .geq T_int a2 (.int .i64 1) w fun t8 w =>
  wGrp t8 true (fun k11 =>
    wBin P .leq T_int a2 (.int .i64 8) w fun t11 w =>
    k11 t11 w) w fun _ t11 w =>
  wPick t8 t11 (.bool false) w fun t12 w =>
  wGrp t12 true (fun k15 =>
    wBin P .geq T_int a1 (.int .i64 0) w fun t15 w =>
    k15 t15 w) w fun _ t15 w =>
  wPick t12 t15 (.bool false) w fun t16 w =>
  wGrp t16 true (fun k21 =>
    wLen P .len #[T_Luint8] [a0] w fun t20 w =>
    wBin P .leq T_int a1 t20 w fun t21 w =>
    k21 t21 w) w fun _ t21 w =>
  wPick t16 t21 (.bool false) w fun t22 w =>
  wGrp t22 true (fun k29 =>
    wLen P .len #[T_Luint8] [a0] w fun t25 w =>
    wBin P .sub T_int t25 a1 w fun t27 w =>
    wBin P .geq T_int t27 a2 w fun t29 w =>
    k29 t29 w) w fun _ t29 w =>
  wPick t22 t29 (.bool false) w fun t30 w =>
  k t30 w

theorem call_num_fits (a0 a1 a2 : Value) {w : World} {k : Value → World → Prop} (h : F_num_fits a0 a1 a2 w k) : wCall P n_num_fits [a0, a1, a2] w k :=
  call_of_den mixedP Try.func284 (by kernel_rfl) (.s .z (.s (.r (.ops [0, 1, 2] (.grp 2 true 11 [10] (.ops [3, 4] .nil) (.ops [5, 6] (.grp 6 true 15 [14] (.ops [7, 8] .nil) (.ops [9, 10] (.grp 10 true 21 [18, 19, 20] (.ops [11, 12, 13, 14] .nil) (.ops [15, 16] (.grp 16 true 29 [24, 25, 26, 27, 28] (.ops [17, 18, 19, 20, 21, 22] .nil) (.ops [23, 24] .nil)))))))))) .z)) (by kernel_rfl) (Eq.mp (by kernel_rfl) h)

def F_num_Reader_Left (a0 : Value) (w : World) (k : Value → World → Prop) : Prop :=
  wNil P a0 w fun t4 w =>
  wFieldA P T_num_Reader t4 1 w fun t5 w =>
  wLoad P T_int t5 w fun t6 w =>
  wBin P .sub T_int (.int .i64 128) t6 w fun t7 w =>
  k t7 w

theorem call_num_Reader_Left (a0 : Value) {w : World} {k : Value → World → Prop} (h : F_num_Reader_Left a0 w k) : wCall P n_num_Reader_Left [a0] w k :=
  call_of_den mixedP Try.func294 (by kernel_rfl) .z (by kernel_rfl) (Eq.mp (by kernel_rfl) h)

end Go.Dn
end
section
/-! Bytes and numbers, plain. -/
set_option linter.unusedVariables false
set_option linter.unusedSimpArgs false
namespace Go.Dn
/-- A number's lowest bytes. -/
def low (n : Nat) : Nat → List Nat
  | 0 => []
  | w + 1 => n % 256 :: low (n / 256) w
/-- The number of bytes. -/
def numOf : List Nat → Nat
  | [] => 0
  | b :: l => b + 256 * numOf l
theorem low_length (n w : Nat) : (low n w).length = w := by
  induction w generalizing n with
  | zero => rfl
  | succ w ih => simp [low, ih]
theorem low_lt (n w : Nat) : ∀ b ∈ low n w, b < 256 := by
  induction w generalizing n with
  | zero => intro b hb; simp [low] at hb
  | succ w ih =>
    intro b hb
    rcases List.mem_cons.1 hb with rfl | hb
    · omega
    · exact ih _ b hb
theorem numOf_lt (l : List Nat) (h : ∀ b ∈ l, b < 256) : numOf l < 256 ^ l.length := by
  induction l with
  | nil => simp [numOf]
  | cons b l ih =>
    have h1 := h b (List.mem_cons_self ..)
    have h2 := ih fun x hx => h x (List.mem_cons_of_mem _ hx)
    simp only [numOf, List.length_cons, Nat.pow_succ]
    omega
theorem numOf_low (n w : Nat) : numOf (low n w) = n % 256 ^ w := by
  induction w generalizing n with
  | zero => simp [low, numOf, Nat.mod_one]
  | succ w ih =>
    simp only [low, numOf, ih]
    rw [Nat.pow_succ, Nat.mul_comm (256 ^ w) 256, Nat.mod_mul]
theorem low_numOf (l : List Nat) (h : ∀ b ∈ l, b < 256) : low (numOf l) l.length = l := by
  induction l with
  | nil => rfl
  | cons b l ih =>
    have h1 := h b (List.mem_cons_self ..)
    simp only [List.length_cons, low, numOf]
    rw [show (b + 256 * numOf l) % 256 = b by omega, show (b + 256 * numOf l) / 256 = numOf l by omega, ih fun x hx => h x (List.mem_cons_of_mem _ hx)]
theorem low_get (n w i : Nat) (h : i < w) : (low n w)[i]? = some (n / 256 ^ i % 256) := by
  induction w generalizing n i with
  | zero => omega
  | succ w ih =>
    cases i with
    | zero => simp [low]
    | succ i =>
      simp only [low, List.getElem?_cons_succ]
      rw [ih _ _ (by omega), Nat.pow_succ, Nat.div_div_eq_div_mul, Nat.mul_comm]
theorem low_append (n a b : Nat) : low n (a + b) = low n a ++ low (n / 256 ^ a) b := by
  induction a generalizing n with
  | zero => simp [low]
  | succ a ih =>
    rw [show a + 1 + b = (a + b) + 1 by omega]
    simp only [low, ih, List.cons_append]
    rw [Nat.div_div_eq_div_mul, Nat.pow_succ, Nat.mul_comm 256]
theorem low_snoc (n a : Nat) : low n (a + 1) = low n a ++ [n / 256 ^ a % 256] := by
  rw [low_append]; rfl
theorem numOf_snoc (l : List Nat) (b : Nat) : numOf (l ++ [b]) = numOf l + 256 ^ l.length * b := by
  induction l with
  | nil => simp [numOf]
  | cons x l ih =>
    simp only [List.cons_append, numOf, ih, List.length_cons, Nat.pow_succ]
    rw [Nat.mul_add, Nat.add_assoc]
    congr 2
    rw [← Nat.mul_assoc, Nat.mul_comm 256]
end Go.Dn
end
section
/-! Contracts of package num. -/
set_option linter.unusedVariables false
set_option linter.unusedSimpArgs false
namespace Go.Dn
open Go
def bvs (l : List Nat) : List Value := l.map fun n : Nat => .int .u8 (n : Int)
theorem bvs_length (l : List Nat) : (bvs l).length = l.length := by simp [bvs]
theorem bvs_isC (l : List Nat) : ∀ v ∈ bvs l, isC v = true := by
  intro v hv
  obtain ⟨n, _, rfl⟩ := List.mem_map.1 hv
  rfl
theorem bvs_get {l : List Nat} {i : Nat} {b : Nat} (h : l[i]? = some b) : (bvs l)[i]? = some (.int .u8 b) := by simp [bvs, h]
theorem bvs_append (l m : List Nat) : bvs (l ++ m) = bvs l ++ bvs m := by simp [bvs]
theorem bvs_inj {l m : List Nat} (h : bvs l = bvs m) : l = m := by
  have : ∀ a b : Nat, Value.int .u8 (a : Int) = Value.int .u8 (b : Int) → a = b := by
    intro a b h
    injection h with _ h
    exact Int.ofNat.inj h
  induction l generalizing m with
  | nil => cases m <;> simp [bvs] at h; rfl
  | cons x l ih =>
    cases m with
    | nil => simp [bvs] at h
    | cons y m =>
      simp only [bvs, List.map_cons, List.cons.injEq] at h
      rw [this _ _ h.1, ih h.2]
theorem pow_256 (n : Nat) : 2 ^ (8 * n) = 256 ^ n := by rw [Nat.pow_mul]
theorem splice_snoc {cs vs : List Value} {o i : Nat} {v : Value} (hl : vs.length = i) (hlt : o + i < cs.length) : (splice cs o vs).set (o + i) v = splice cs o (vs ++ [v]) := by
  subst hl
  unfold splice
  rw [List.set_append_right _ _ (by simp; omega)]
  have h1 : o + vs.length - (cs.take o ++ vs).length = 0 := by simp; omega
  rw [h1, List.drop_eq_getElem_cons hlt]
  simp [Nat.add_assoc]
section nums
variable {w : World} {K : Value → World → Prop}
theorem num_fits {A : Option Addr} {n c : Nat} {a wd : Int} {w : World} {k : Value → World → Prop} (hn : n ≤ 9223372036854775807) (ha : a ≤ 9223372036854775807)
    (h : k (.bool (decide (1 ≤ wd ∧ wd ≤ 8 ∧ 0 ≤ a ∧ a + wd ≤ n))) w) : wCall P n_num_fits [.slice A n c, .int .i64 a, .int .i64 wd] w k := by
  refine call_num_fits _ _ _ ?_
  unfold F_num_fits
  simp only [bin_geq, bin_leq, and_p, len_s u_T_Luint8]
  refine and_i (r := decide (a + wd ≤ n)) (fun hb k' hk => ?_) ?_
  · simp only [Bool.and_eq_true, decide_eq_true_eq] at hb
    rw [bin_sub (by omega)]
    simp only [bin_geq]
    rw [show decide (wd ≤ (n : Int) - a) = decide (a + wd ≤ n) from by congr 1; simp only [eq_iff_iff]; omega]
    exact hk
  · have e : (decide (1 ≤ wd) && decide (wd ≤ 8) && decide (0 ≤ a) && decide (a ≤ (n : Int)) && decide (a + wd ≤ n)) = decide (1 ≤ wd ∧ wd ≤ 8 ∧ 0 ≤ a ∧ a + wd ≤ n) := by
      rw [Bool.eq_iff_iff]; simp; omega
    rw [e]
    exact h
theorem shr_u64 {x s : Nat} {yk : IntKind} : wBin P .shr T_uint64 (.int .u64 x) (.int yk (s : Int)) w K = K (.int .u64 ((x / 2 ^ (min s 64) : Nat) : Int)) w := by
  rw [bin_shr (by omega)]
  congr 2
  rw [Int.fdiv_eq_ediv_of_nonneg _ (by exact Int.le_of_lt (Int.pow_pos (by decide)))]
  simp [IntKind.bits]
theorem conv_64_8 {x : Nat} : wConv P T_uint64 T_uint8 (.int .u64 (x : Int)) w K = K (.int .u8 ((x % 256 : Nat) : Int)) w := by
  rw [conv_i i_T_uint64 i_T_uint8, IntKind.wrap_u8]
  congr 2
theorem conv_8_64 {x : Nat} (h : x < 256) : wConv P T_uint8 T_uint64 (.int .u8 (x : Int)) w K = K (.int .u64 (x : Int)) w := by
  rw [conv_i i_T_uint8 i_T_uint64, IntWalk.u64_in _ (by omega)]
def putOk (n : Nat) (a wd : Int) (x : Nat) : Prop := 1 ≤ wd ∧ wd ≤ 8 ∧ 0 ≤ a ∧ a + wd ≤ n ∧ x < 256 ^ wd.toNat
theorem num_Put {g o n c x : Nat} {t : TypeId} {cs : List Value} {a wd : Int} {w : World} {k : Value → World → Prop} (H : Blk w g t cs) (hl : o + n ≤ cs.length) (hn : n ≤ 9223372036854775807) (ha : a ≤ 9223372036854775807) (hx : x < 18446744073709551616)
    (hbad : ¬ putOk n a wd x → k (.int .i64 1) w) (hk : putOk n a wd x → ∀ w', Ex [g] w w' → Blk w' g t (splice cs (o + a.toNat) (bvs (low x wd.toNat))) → k (.int .i64 0) w') :
    wCall P n_num_Put [.slice (some ⟨g, o, none⟩) n c, .int .i64 a, .int .i64 wd, .int .u64 x] w k := by
  refine call_num_Put _ _ _ _ ?_
  unfold F_num_Put
  refine num_fits hn ha ?_
  simp only [un_not, bin_lss]
  by_cases hf : 1 ≤ wd ∧ wd ≤ 8 ∧ 0 ≤ a ∧ a + wd ≤ n
  · obtain ⟨m, rfl⟩ : ∃ m : Nat, wd = m := ⟨wd.toNat, by omega⟩
    obtain ⟨p, rfl⟩ : ∃ p : Nat, a = p := ⟨a.toNat, by omega⟩
    simp only [Int.toNat_natCast] at *
    rw [decide_eq_true hf]
    have hm : ((8 : Int) * (m : Int)) = ((8 * m : Nat) : Int) := by omega
    have h8 : min (8 * m) 64 = 8 * m := by omega
    simp only [Bool.not_true, bin_mul (P := P) (t := T_int) (w := w) (show -9223372036854775808 ≤ (8 : Int) * m ∧ (8 : Int) * m ≤ 9223372036854775807 by omega), hm, shr_u64, bin_neq, and_p, or_p, h8, pow_256, Bool.false_or]
    refine wIf_i _ (fun hb => hbad fun hok => ?_) (fun hb => ?_)
    · simp only [Bool.and_eq_true, decide_eq_true_eq] at hb
      have h0 : x / 256 ^ m = 0 := Nat.div_eq_of_lt hok.2.2.2.2
      rw [h0] at hb
      exact hb.2 rfl
    · have hlt : x < 256 ^ m := by
        rcases Nat.lt_or_ge m 8 with h | h
        · have : ¬ ((x / 256 ^ m : Nat) : Int) ≠ 0 := by
            intro hne
            have : (decide ((m : Int) < 8) && decide (((x / 256 ^ m : Nat) : Int) ≠ 0)) = true := by
              rw [decide_eq_true (by omega : (m : Int) < 8), decide_eq_true hne]; rfl
            rw [this] at hb; cases hb
          rcases Nat.lt_or_ge x (256 ^ m) with h' | h'
          · exact h'
          · have := Nat.div_pos h' (Nat.pow_pos (by decide))
            omega
        · obtain rfl : m = 8 := by omega
          exact hx
      have hok : putOk n (p : Int) (m : Int) x := ⟨hf.1, hf.2.1, hf.2.2.1, hf.2.2.2, by simpa using hlt⟩
      refine loop_up m (fun i v w' => v = .int .i64 (i : Int) ∧ Ex [g] w w' ∧ Blk w' g t (splice cs (o + p) (bvs (low x i)))) ⟨rfl, Ex.refl _ _, by simpa [low, bvs, splice] using H⟩ ?_
      rintro i J v w' k' hi ⟨rfl, hE, hB⟩ hk'
      simp only [bin_lss]
      refine wIf_d (fun hlt' => ?_) (fun hge => ?_)
      · have hm' : ((8 : Int) * (i : Int)) = ((8 * i : Nat) : Int) := by omega
        have h8' : min (8 * i) 64 = 8 * i := by omega
        rw [bin_add (by omega), bin_mul (by omega), hm', shr_u64, h8', pow_256, conv_64_8, indexS_i s_T_Luint8 (by omega) (by omega)]
        refine st_one o_T_uint8 rfl hB (by rw [splice_length (by rw [bvs_length, low_length]; omega)]; omega) fun w2 hE2 hB2 => ?_
        rw [bin_add (by omega)]
        refine hk' _ _ (by omega) ⟨rfl, hE.trans hE2, ?_⟩
        have e1 : o + ((p : Int) + (i : Int)).toNat * 1 = o + p + i := by omega
        rw [e1] at hB2
        have e2 : (splice cs (o + p) (bvs (low x i))).set (o + p + i) (.int .u8 ((x / 256 ^ i % 256 : Nat) : Int)) = splice cs (o + p) (bvs (low x (i + 1))) := by
          rw [low_snoc, bvs_append]
          exact splice_snoc (by rw [bvs_length, low_length]) (by omega)
        rw [e2] at hB2
        exact hB2
      · obtain rfl : i = m := by omega
        exact hk hok w' hE hB
  · rw [decide_eq_false hf]
    refine wGrp_or (r := true) (fun h => by cases h) fun J v _ => ?_
    simp only [Bool.not_false, wPick_b, if_true, wIf_t]
    exact hbad fun hok => hf ⟨hok.1, hok.2.1, hok.2.2.1, hok.2.2.2.1⟩
end nums
end Go.Dn
end
section
/-! Contracts of package num: Get, Writer, Reader. -/
set_option linter.unusedVariables false
set_option linter.unusedSimpArgs false
namespace Go.Dn
open Go
section
variable {w : World} {K : Value → World → Prop}
theorem or_shift {n b i : Nat} (hn : n < 256 ^ i) : n ||| b * 256 ^ i = n + b * 256 ^ i := by
  have h := Nat.two_pow_add_eq_or_of_lt (i := 8 * i) (b := n) (by rw [pow_256]; exact hn) b
  rw [pow_256] at h
  rw [Nat.or_comm, Nat.mul_comm b, ← h, Nat.add_comm]
theorem numOf_take_snoc {bs : List Nat} {p i b : Nat} (h : bs[p + i]? = some b) : numOf ((bs.drop p).take (i + 1)) = numOf ((bs.drop p).take i) + 256 ^ i * b := by
  have hlt := (List.getElem?_eq_some_iff.1 h).1
  have hb := (List.getElem?_eq_some_iff.1 h).2
  have e : min i (bs.drop p).length = i := by rw [List.length_drop]; omega
  rw [List.take_succ_eq_append_getElem (by rw [List.length_drop]; omega), numOf_snoc, List.length_take, e]
  simp [hb]
def getOk (n : Nat) (a wd : Int) : Prop := 1 ≤ wd ∧ wd ≤ 8 ∧ 0 ≤ a ∧ a + wd ≤ n
theorem pow256_le {i : Nat} (h : i ≤ 8) : 256 ^ i ≤ 18446744073709551616 := Nat.le_trans (Nat.pow_le_pow_right (by decide) h) (by decide)
theorem num_Get {A : Option Addr} {n c : Nat} {bs : List Nat} {a wd : Int} {k : Value → World → Prop} (H : SlG w 1 (.slice A n c) (bvs bs)) (hbs : ∀ b ∈ bs, b < 256) (hnl : bs.length = n) (hn : n ≤ 9223372036854775807) (ha : a ≤ 9223372036854775807)
    (hbad : ¬ getOk n a wd → k (.tuple #[.int .u64 0, .int .i64 1]) w) (hk : getOk n a wd → k (.tuple #[.int .u64 (numOf ((bs.drop a.toNat).take wd.toNat) : Nat), .int .i64 0]) w) :
    wCall P n_num_Get [.slice A n c, .int .i64 a, .int .i64 wd] w k := by
  refine call_num_Get _ _ _ ?_
  unfold F_num_Get
  refine num_fits hn ha ?_
  simp only [un_not]
  by_cases hf : 1 ≤ wd ∧ wd ≤ 8 ∧ 0 ≤ a ∧ a + wd ≤ n
  · have hok : getOk n a wd := hf
    obtain ⟨m, rfl⟩ : ∃ m : Nat, wd = m := ⟨wd.toNat, by omega⟩
    obtain ⟨p, rfl⟩ : ∃ p : Nat, a = p := ⟨a.toNat, by omega⟩
    simp only [Int.toNat_natCast] at *
    rw [decide_eq_true hf, Bool.not_true, wIf_f]
    refine loop_up2 m (fun i v u w' => v = .int .u64 (numOf ((bs.drop p).take i) : Nat) ∧ u = .int .i64 (i : Int) ∧ w' = w) ⟨by simp [numOf], rfl, rfl⟩ ?_
    rintro i J v u w' k' hi ⟨rfl, rfl, rfl⟩ hk'
    simp only [bin_lss]
    refine wIf_d (fun hlt => ?_) (fun hge => ?_)
    · have hpi : p + i < bs.length := by omega
      have hb : bs[p + i]? = some bs[p + i] := List.getElem?_eq_getElem hpi
      have hbl := hbs _ (List.getElem_mem hpi)
      have hm' : ((8 : Int) * (i : Int)) = ((8 * i : Nat) : Int) := by omega
      rw [bin_add (by omega)]
      refine H.ix1 (x := .int .u8 (bs[p + i] : Nat)) s_T_Luint8 (by omega) (by rw [show ((p : Int) + (i : Int)).toNat = p + i by omega]; exact bvs_get hb) fun ad had => ?_
      have hlow : numOf ((bs.drop p).take i) < 256 ^ i := by
        have h1 := numOf_lt ((bs.drop p).take i) (fun b hb => hbs b (List.mem_of_mem_drop (List.mem_of_mem_take hb)))
        rwa [List.length_take, List.length_drop, Nat.min_eq_left (by omega)] at h1
      have h8 : bs[p + i] * 256 ^ i < 256 ^ (i + 1) := by
        rw [Nat.pow_succ, Nat.mul_comm]; exact Nat.mul_lt_mul_of_pos_left hbl (Nat.pow_pos (by decide))
      have h9 : 256 ^ (i + 1) ≤ 18446744073709551616 := pow256_le (by omega)
      have h10 : 256 ^ i ≤ 18446744073709551616 := pow256_le (by omega)
      rw [ld_one o_T_uint8 had, conv_8_64 hbl, bin_mul (by omega), hm', bin_shl (by omega)]
      have e1 : (IntKind.u64.wrap (((bs[p + i] : Nat) : Int) * 2 ^ (min ((8 * i : Nat) : Int).toNat IntKind.u64.bits))) = ((bs[p + i] * 256 ^ i : Nat) : Int) := by
        have : min ((8 * i : Nat) : Int).toNat IntKind.u64.bits = 8 * i := by simp [IntKind.bits]; omega
        rw [this]
        have e2 : ((bs[p + i] : Nat) : Int) * 2 ^ (8 * i) = ((bs[p + i] * 256 ^ i : Nat) : Int) := by
          rw [← pow_256]; norm_cast
        rw [e2]
        exact wrapN rfl (by simp only [IntKind.bits]; omega)
      rw [e1, bin_orN (by simp only [IntKind.bits]; omega) (by simp only [IntKind.bits]; omega) rfl, or_shift hlow, bin_add (by omega)]
      refine hk' _ _ _ (by omega) ⟨?_, rfl, rfl⟩
      rw [numOf_take_snoc hb, Nat.mul_comm (256 ^ i)]
    · obtain rfl : i = m := by omega
      exact hk hok
  · rw [decide_eq_false hf, Bool.not_false, wIf_t]
    exact hbad hf

/-! Writer: a block of 128 bytes, a place, an error. -/
def wcells (s : List Nat) (at_ : Nat) (e : Int) : List Value := bvs s ++ [.int .i64 (at_ : Int), .int .i64 e]
theorem wcells_at {s : List Nat} (hs : s.length = 128) (a : Nat) (e : Int) : (wcells s a e)[128]? = some (.int .i64 (a : Int)) := by
  rw [wcells, List.getElem?_append_right (by simp [bvs_length, hs])]; simp [bvs_length, hs]
theorem wcells_e {s : List Nat} (hs : s.length = 128) (a : Nat) (e : Int) : (wcells s a e)[129]? = some (.int .i64 e) := by
  rw [wcells, List.getElem?_append_right (by simp [bvs_length, hs])]; simp [bvs_length, hs]
theorem wcells_len {s : List Nat} (hs : s.length = 128) (a : Nat) (e : Int) : (wcells s a e).length = 130 := by simp [wcells, bvs_length, hs]
theorem wcells_setE {s : List Nat} (hs : s.length = 128) (a : Nat) (e e' : Int) : (wcells s a e).set 129 (.int .i64 e') = wcells s a e' := by
  rw [wcells, List.set_append_right _ _ (by simp [bvs_length, hs])]; simp [bvs_length, hs, wcells]
theorem wcells_setA {s : List Nat} (hs : s.length = 128) (a a' : Nat) (e : Int) : (wcells s a e).set 128 (.int .i64 (a' : Int)) = wcells s a' e := by
  rw [wcells, List.set_append_right _ _ (by simp [bvs_length, hs])]; simp [bvs_length, hs, wcells]
def splN (s : List Nat) (o : Nat) (l : List Nat) : List Nat := s.take o ++ l ++ s.drop (o + l.length)
theorem splN_length {s l : List Nat} {o : Nat} (h : o + l.length ≤ s.length) : (splN s o l).length = s.length := by simp [splN]; omega
theorem wcells_splice {s l : List Nat} (hs : s.length = 128) {o : Nat} (h : o + l.length ≤ 128) (a : Nat) (e : Int) : splice (wcells s a e) o (bvs l) = wcells (splN s o l) a e := by
  unfold splice wcells splN
  rw [bvs_length, List.take_append_of_le_length (by rw [bvs_length]; omega), List.drop_append_of_le_length (by rw [bvs_length]; omega)]
  simp [bvs, List.map_take, List.map_drop]
theorem num_Writer_Num {g at_ x wd : Nat} {s : List Nat} {k : Value → World → Prop} (H : Blk w g T_num_Writer (wcells s at_ 0)) (hs : s.length = 128) (hx : x < 18446744073709551616)
    (hw : 1 ≤ wd ∧ wd ≤ 8) (ha : at_ + wd ≤ 128) (hxw : x < 256 ^ wd) (hk : ∀ w', Ex [g] w w' → Blk w' g T_num_Writer (wcells (splN s at_ (low x wd)) (at_ + wd) 0) → k (.tuple #[]) w') :
    wCall P n_num_Writer_Num [.pointer (some ⟨g, 0, none⟩), .int .i64 (wd : Int), .int .u64 x] w k := by
  refine call_num_Writer_Num _ _ _ ?_
  unfold F_num_Writer_Num wJ0
  simp only [nil_ptr, fA_T_num_Writer_2, fA_T_num_Writer_0, fA_T_num_Writer_1, Nat.zero_add]
  rw [ld_one o_T_api_Errno ((H.cell 129).trans (wcells_e hs _ _)), bin_eql, wIf_dt rfl]
  refine draw_i fun w1 hE1 hh1 => ?_
  have H1 := H.heap hh1
  rw [sliceA_all a_T_api_Sector, ld_one o_T_int ((H1.cell 128).trans (wcells_at hs _ _))]
  refine num_Put H1 (by rw [wcells_len hs]; omega) (by omega) (by omega) hx (fun hn => absurd ⟨by omega, by omega, by omega, by omega, by simpa using hxw⟩ hn) fun _ w2 hE2 H2 => ?_
  rw [show 0 + (at_ : Int).toNat = at_ by omega, show ((wd : Nat) : Int).toNat = wd by omega, wcells_splice hs (by rw [low_length]; omega)] at H2
  have hs2 : (splN s at_ (low x wd)).length = 128 := by rw [splN_length (by rw [low_length]; omega), hs]
  refine st_one o_T_api_Errno rfl H2 (by rw [wcells_len hs2]; omega) fun w3 hE3 H3 => ?_
  rw [wcells_setE hs2] at H3
  intro _
  rw [ld_one o_T_api_Errno ((H3.cell 129).trans (wcells_e hs2 _ _)), bin_eql, wIf_dt rfl, ld_one o_T_int ((H3.cell 128).trans (wcells_at hs2 _ _)), bin_add (by omega)]
  refine st_one o_T_int rfl H3 (by rw [wcells_len hs2]; omega) fun w4 hE4 H4 => ?_
  rw [show ((at_ : Int) + (wd : Int)) = ((at_ + wd : Nat) : Int) by omega, wcells_setA hs2] at H4
  exact hk w4 (((hE1.nil.trans hE2).trans hE3).trans hE4) H4
end
end Go.Dn
end
section
/-! Contracts of package num: the rest. -/
set_option linter.unusedVariables false
set_option linter.unusedSimpArgs false
namespace Go.Dn
open Go
section
variable {w : World} {K : Value → World → Prop}
def sv (s : List Nat) : Value := .agg ⟨bvs s⟩
theorem num_Writer_Bytes {g at_ n : Nat} {s bs : List Nat} {src : Value} {k : Value → World → Prop} (H : Blk w g T_num_Writer (wcells s at_ 0)) (hs : s.length = 128) (S : SlG w 1 src (bvs bs))
    (hl : bs.length ≤ n) (ha : at_ + n ≤ 128) (hk : ∀ w', Ex [g] w w' → Blk w' g T_num_Writer (wcells (splN s at_ bs) (at_ + n) 0) → k (.tuple #[]) w') :
    wCall P n_num_Writer_Bytes [.pointer (some ⟨g, 0, none⟩), .int .i64 (n : Int), src] w k := by
  refine call_num_Writer_Bytes _ _ _ ?_
  unfold F_num_Writer_Bytes wJ0
  simp only [nil_ptr, fA_T_num_Writer_2, fA_T_num_Writer_0, fA_T_num_Writer_1, Nat.zero_add]
  rw [ld_one o_T_api_Errno ((H.cell 129).trans (wcells_e hs _ _)), bin_eql]
  have hsub : -9223372036854775808 ≤ (128 : Int) - (at_ : Int) ∧ (128 : Int) - (at_ : Int) ≤ 9223372036854775807 := by omega
  simp only [S.len_i (P := P) u_T_Luint8 (by omega) (n := bs.length) (by rw [bvs_length]; omega), bin_lss, ld_one o_T_int ((H.cell 128).trans (wcells_at hs _ _)), bin_sub hsub, bin_gtr, or_p, and_p]
  refine wIf_i _ (fun hb => absurd hb (by simp; omega)) (fun _ => ?_)
  intro _
  rw [ld_one o_T_api_Errno ((H.cell 129).trans (wcells_e hs _ _)), bin_eql, wIf_dt rfl]
  refine draw_i fun w1 hE1 hh1 => ?_
  have H1 := H.heap hh1
  rw [ld_one o_T_int ((H1.cell 128).trans (wcells_at hs _ _)), sliceA_lo a_T_api_Sector (by omega) (by omega)]
  have fin : ∀ o, (bs ≠ [] → o = at_) → o ≤ 128 → wBuiltin P .copy #[T_Luint8, T_Luint8] [.slice (some ⟨g, o, none⟩) (128 - (at_ : Int).toNat) (128 - (at_ : Int).toNat), src] w1 fun _ w => wLoad P T_int (.pointer (some ⟨g, 128, none⟩)) w fun t47 w => wBin P .add T_int t47 (.int .i64 (n : Int)) w fun t49 w => wStore P T_int (.pointer (some ⟨g, 128, none⟩)) t49 w fun w => k (.tuple #[]) w := by
    intro o ho ho128
    have hm : min (bvs bs).length (128 - (at_ : Int).toNat) = bs.length := by rw [bvs_length]; omega
    refine copy_i u_T_Luint8 o_T_uint8 H1 (S.ex0 hE1) (bvs_isC bs) ?_ fun w2 hE2 H2 => ?_
    · rw [hm, wcells_len hs]
      by_cases hb : bs = []
      · subst hb; simp; omega
      · rw [ho hb]; omega
    · have ht : (bvs bs).take (128 - (at_ : Int).toNat) = bvs bs := List.take_of_length_le (by rw [bvs_length]; omega)
      rw [ht] at H2
      have e : splice (wcells s at_ 0) o (bvs bs) = wcells (splN s at_ bs) at_ 0 := by
        by_cases hb : bs = []
        · subst hb; simp [splice, bvs, splN, wcells]
        · rw [ho hb, wcells_splice hs (by omega)]
      rw [e] at H2
      have hs2 : (splN s at_ bs).length = 128 := by rw [splN_length (by omega), hs]
      rw [ld_one o_T_int ((H2.cell 128).trans (wcells_at hs2 _ _)), bin_add (by omega)]
      refine st_one o_T_int rfl H2 (by rw [wcells_len hs2]; omega) fun w3 hE3 H3 => ?_
      rw [show ((at_ : Int) + (n : Int)) = ((at_ + n : Nat) : Int) by omega, wcells_setA hs2] at H3
      exact hk w3 ((hE1.nil.trans hE2).trans hE3) H3
  refine fin _ (fun hb => ?_) ?_
  · have : bs.length ≠ 0 := fun h => hb (List.eq_nil_of_length_eq_zero h)
    rw [if_neg (by omega)]
    omega
  · split <;> omega
theorem num_Writer_Sector {g at_ : Nat} {s : List Nat} {k : Value → World → Prop} (H : Blk w g T_num_Writer (wcells s at_ 0)) (hs : s.length = 128)
    (hk : ∀ w', Ex [] w w' → k (.tuple #[sv s, .int .i64 0]) w') : wCall P n_num_Writer_Sector [.pointer (some ⟨g, 0, none⟩)] w k := by
  refine call_num_Writer_Sector _ ?_
  unfold F_num_Writer_Sector
  refine alloc_i z_T_api_Sector (vs := List.replicate 128 (.int .u8 0)) rfl fun w1 g1 hg1 hE1 B1 => ?_
  simp only [nil_ptr, fA_T_num_Writer_2, fA_T_num_Writer_0, Nat.zero_add]
  have H1 := H.ex hE1 (by simp)
  have hc : Cs w1 g 0 (bvs s) := by
    have := H1.cs 0 128
    rw [List.drop_zero, wcells, List.take_append_of_le_length (by rw [bvs_length]; omega), List.take_of_length_le (by rw [bvs_length]; omega)] at this
    exact this
  rw [ld_one o_T_api_Errno ((H1.cell 129).trans (wcells_e hs _ _)), bin_neq, wIf_df (by simp), ld_agg g_T_api_Sector hc (by rw [bvs_length, hs])]
  refine st_agg g_T_api_Sector (by rw [bvs_length, hs]) (bvs_isC s) B1 (by simp) fun w2 hE2 B2 => ?_
  have e : splice (List.replicate 128 (Value.int .u8 0)) 0 (bvs s) = bvs s := by simp [splice, bvs_length, hs]
  rw [e] at B2
  refine res_agg g_T_api_Sector B2.all (by rw [bvs_length, hs]) ?_
  exact hk w2 (hE1.new hE2 (by omega))
end
end Go.Dn
end
section
/-! Contracts of package num: Reader. -/
set_option linter.unusedVariables false
set_option linter.unusedSimpArgs false
namespace Go.Dn
open Go
section
variable {w : World} {K : Value → World → Prop}
theorem sv_cells (s : List Nat) : (sv s).cells = ⟨bvs s⟩ := rfl
theorem splice_front {cs vs : List Value} {n : Nat} (h : vs.length = n) (hc : n ≤ cs.length) : splice cs 0 vs = vs ++ cs.drop n := by simp [splice, h]
theorem num_Read {s : List Nat} {k : Value → World → Prop} (hs : s.length = 128)
    (hk : ∀ w' g, w.heap.size ≤ g → Ex [] w w' → Blk w' g T_num_Reader (wcells s 0 0) → k (.pointer (some ⟨g, 0, none⟩)) w') : wCall P n_num_Read [sv s] w k := by
  refine call_num_Read _ ?_
  unfold F_num_Read
  refine box_i (sv_cells s) fun w1 g1 hg1 hE1 B1 => ?_
  rw [ld_agg g_T_api_Sector B1.all (by rw [bvs_length, hs])]
  rw [bl_T_num_Reader (cs := wcells s 0 0) (by
    rw [fill_cons (off := 0) (size := 128) rfl rfl (by rw [bvs_length, hs]) (by simp), splice_front (n := 128) (by rw [bvs_length, hs]) (by simp)]
    exact fill_nil)]
  refine box_i (vs := wcells s 0 0) rfl fun w2 g2 hg2 hE2 B2 => ?_
  have := hE1.le
  exact hk w2 g2 (by omega) (hE1.trans hE2) B2
/-- A number is read. -/
theorem num_Reader_Num {g at_ wd : Nat} {s : List Nat} {k : Value → World → Prop} (H : Blk w g T_num_Reader (wcells s at_ 0)) (hs : s.length = 128) (hb : ∀ b ∈ s, b < 256) (hw : 1 ≤ wd ∧ wd ≤ 8) (ha : at_ + wd ≤ 128)
    (hk : ∀ w', Ex [g] w w' → Blk w' g T_num_Reader (wcells s (at_ + wd) 0) → k (.int .u64 (numOf ((s.drop at_).take wd) : Nat)) w') :
    wCall P n_num_Reader_Num [.pointer (some ⟨g, 0, none⟩), .int .i64 (wd : Int)] w k := by
  refine call_num_Reader_Num _ _ ?_
  unfold F_num_Reader_Num
  simp only [nil_ptr, fA_T_num_Reader_2, fA_T_num_Reader_0, fA_T_num_Reader_1, Nat.zero_add]
  rw [ld_one o_T_api_Errno ((H.cell 129).trans (wcells_e hs _ _)), bin_neq, wIf_df (by simp)]
  refine draw_i fun w1 hE1 hh1 => ?_
  have H1 := H.heap hh1
  rw [sliceA_all a_T_api_Sector, ld_one o_T_int ((H1.cell 128).trans (wcells_at hs _ _))]
  have hc : Cs w1 g 0 (bvs s) := by
    have := H1.cs 0 128
    rw [List.drop_zero, wcells, List.take_append_of_le_length (by rw [bvs_length]; omega), List.take_of_length_le (by rw [bvs_length]; omega)] at this
    exact this
  refine num_Get (bs := s) (SlG.of_cs hc (by rw [bvs_length]; omega) (by omega)) hb hs (by omega) (by omega) (fun hn => absurd ⟨by omega, by omega, by omega, by omega⟩ hn) fun _ => ?_
  rw [ext_0, ext_1]
  refine st_one o_T_api_Errno rfl H1 (by rw [wcells_len hs]; omega) fun w3 hE3 H3 => ?_
  rw [wcells_setE hs] at H3
  rw [bin_eql, wIf_dt rfl, ld_one o_T_int ((H3.cell 128).trans (wcells_at hs _ _)), bin_add (by omega)]
  refine st_one o_T_int rfl H3 (by rw [wcells_len hs]; omega) fun w4 hE4 H4 => ?_
  rw [show ((at_ : Int) + (wd : Int)) = ((at_ + wd : Nat) : Int) by omega, wcells_setA hs] at H4
  simp only [Int.toNat_natCast]
  exact hk w4 ((hE1.nil.trans hE3).trans hE4) H4
theorem num_Reader_Left {g at_ : Nat} {s : List Nat} {k : Value → World → Prop} (H : Blk w g T_num_Reader (wcells s at_ 0)) (hs : s.length = 128) (ha : at_ ≤ 128)
    (hk : k (.int .i64 ((128 - at_ : Nat) : Int)) w) : wCall P n_num_Reader_Left [.pointer (some ⟨g, 0, none⟩)] w k := by
  refine call_num_Reader_Left _ ?_
  unfold F_num_Reader_Left
  simp only [nil_ptr, fA_T_num_Reader_1, Nat.zero_add]
  rw [ld_one o_T_int ((H.cell 128).trans (wcells_at hs _ _)), bin_sub (by omega), show ((128 : Int) - (at_ : Int)) = ((128 - at_ : Nat) : Int) by omega]
  exact hk
theorem num_Reader_Bytes {g at_ n : Nat} {s : List Nat} {k : Value → World → Prop} (H : Blk w g T_num_Reader (wcells s at_ 0)) (hs : s.length = 128) (ha : at_ + n ≤ 128)
    (hk : ∀ v w', Ex [g] w w' → Blk w' g T_num_Reader (wcells s (at_ + n) 0) → Own w' w.heap.size T_uint8 1 v (bvs ((s.drop at_).take n)) → k v w') :
    wCall P n_num_Reader_Bytes [.pointer (some ⟨g, 0, none⟩), .int .i64 (n : Int)] w k := by
  refine call_num_Reader_Bytes _ _ ?_
  unfold F_num_Reader_Bytes wJ0
  simp only [nil_ptr, fA_T_num_Reader_2, fA_T_num_Reader_0, fA_T_num_Reader_1, Nat.zero_add]
  rw [ld_one o_T_api_Errno ((H.cell 129).trans (wcells_e hs _ _)), bin_eql]
  refine and_i (r := false) (fun _ k' hk' => ?_) ?_
  · rw [bin_lss]
    refine or_i (r := false) (fun _ k2 hk2 => ?_) ?_
    · refine num_Reader_Left H hs (by omega) ?_
      rw [bin_gtr, show decide (((128 - at_ : Nat) : Int) < (n : Int)) = false from by simp; omega]
      exact hk2
    · rw [show (decide ((n : Int) < 0) || false) = false from by simp]
      exact hk'
  · rw [Bool.and_false, wIf_f]
    intro _
    rw [ld_one o_T_api_Errno ((H.cell 129).trans (wcells_e hs _ _)), bin_neq, wIf_df (by simp), ld_one o_T_int ((H.cell 128).trans (wcells_at hs _ _)), bin_add (by omega)]
    refine st_one o_T_int rfl H (by rw [wcells_len hs]; omega) fun w1 hE1 H1 => ?_
    rw [show ((at_ : Int) + (n : Int)) = ((at_ + n : Nat) : Int) by omega, wcells_setA hs] at H1
    refine draw_i fun w2 hE2 hh2 => ?_
    have H2 := H1.heap hh2
    rw [ld_one o_T_int ((H2.cell 128).trans (wcells_at hs _ _)), bin_sub (by omega), ld_one o_T_int ((H2.cell 128).trans (wcells_at hs _ _)),
      show (((at_ + n : Nat) : Int) - (n : Int)) = (at_ : Int) by omega, sliceA_lohi a_T_api_Sector (by omega) (by omega) (by omega)]
    have hc : Cs w2 g 0 (bvs s) := by
      have := H2.cs 0 128
      rw [List.drop_zero, wcells, List.take_append_of_le_length (by rw [bvs_length]; omega), List.take_of_length_le (by rw [bvs_length]; omega)] at this
      exact this
    have hS : SlG w2 1 (.slice (some ⟨g, if 128 = (at_ : Int).toNat then 0 else 0 + (at_ : Int).toNat * 1, none⟩) (((at_ + n : Nat) : Int).toNat - (at_ : Int).toNat) (128 - (at_ : Int).toNat)) (bvs ((s.drop at_).take n)) := by
      rw [show ((at_ + n : Nat) : Int).toNat - (at_ : Int).toNat = n by omega, show 128 - (at_ : Int).toNat = 128 - at_ by omega]
      refine ⟨_, n, 128 - at_, rfl, ?_, by omega, fun hn => ⟨g, at_, ?_, ?_⟩⟩
      · rw [bvs_length, List.length_take, List.length_drop]; omega
      · rw [if_neg (by omega), show 0 + (at_ : Int).toNat * 1 = at_ by omega]
      · have := hc.sub at_ n
        rw [Nat.zero_add] at this
        rw [bvs, List.map_take, List.map_drop]
        exact this
    have e1 := hE1.le
    have e2 := hE2.le
    refine app_T_Luint8 (base := w2.heap.size) (n := 0) (m := n) (Own.nil _ _ _ _) hS rfl (by rw [bvs_length, List.length_take, List.length_drop]; omega) (bvs_isC _) (by omega) (Nat.le_refl _) fun v w3 hO3 hE3 _ => ?_
    refine hk v w3 ((hE1.trans hE2.nil).trans (hE3.mono (by simp [Value.ownBlock]))) (H2.ex hE3 (by simp [Value.ownBlock])) ?_
    simpa using hO3.base (by omega)
end
end Go.Dn
end
section
/-! Texts of functions, printed by mkg.py. -/
set_option maxRecDepth 100000
set_option linter.unusedVariables false
namespace Go.Dn
open Go Go.Proofs
def F_ref01_Full (a0 : Value) (w : World) (k : Value → World → Prop) : Prop :=
  wAlloc P T_A128uint8 w fun t2 w =>
  wAlloc P T_A128uint8 w fun t3 w =>
  wJ0 (fun k1 =>
    wL1 (.int .i64 0) w (fun _ v4 w k2 =>
      wLen P .len #[T_Luint8] [a0] w fun t7 w =>
      wBin P .lss T_int v4 t7 w fun t8 w =>
      wGrp t8 true (fun k11 =>
        wBin P .lss T_int v4 (.int .i64 128) w fun t11 w =>
        k11 t11 w) w fun _ t11 w =>
      wPick t8 t11 (.bool false) w fun t12 w =>
      wIf t12 (
        wIndexA P T_Luint8 a0 v4 w fun t18 w =>
        wLoad P T_uint8 t18 w fun t19 w =>
        wIndexA P T_A128uint8 t3 v4 w fun t20 w =>
        wStore P T_uint8 t20 t19 w fun w =>
        wBin P .add T_int v4 (.int .i64 1) w fun t14 w =>
        k2 t14 w) (
        k1 w))) fun _ w =>
  wLoad P T_A128uint8 t3 w fun t21 w =>
  wStore P T_A128uint8 t2 t21 w fun w =>
  wRes P T_A128uint8 t2 w fun r2 =>
  k r2 w

theorem call_ref01_Full (a0 : Value) {w : World} {k : Value → World → Prop} (h : F_ref01_Full a0 w k) : wCall P n_ref01_Full [a0] w k :=
  call_of_den mixedP Try.func68 (by kernel_rfl) (.s .z (.s .z (.j [] [2, 3] (.s .z (.b (.l [4] [0, 2, 3] (.s (.s (.r (.ops [0, 1, 2, 3, 4] (.grp 4 true 11 [10] (.ops [5, 6] .nil) (.ops [7] .nil)))) .z) .z)))) .z))) (by kernel_rfl) (Eq.mp (by kernel_rfl) h)

def F_ref01_Equal (a0 a1 : Value) (w : World) (k : Value → World → Prop) : Prop :=
  wLen P .len #[T_Luint8] [a0] w fun t7 w =>
  wLen P .len #[T_Luint8] [a1] w fun t9 w =>
  wBin P .neq T_int t7 t9 w fun t10 w =>
  wIf t10 (
    k (.bool false) w) (
    wL1 (.int .i64 0) w (fun _ v5 w k2 =>
      wLen P .len #[T_Luint8] [a0] w fun t13 w =>
      wBin P .lss T_int v5 t13 w fun t14 w =>
      wIf t14 (
        wDraw w fun w =>
        wIndexA P T_Luint8 a0 v5 w fun t19 w =>
        wLoad P T_uint8 t19 w fun t20 w =>
        wIndexA P T_Luint8 a1 v5 w fun t23 w =>
        wLoad P T_uint8 t23 w fun t24 w =>
        wBin P .neq T_uint8 t20 t24 w fun t25 w =>
        wIf t25 (
          k (.bool false) w) (
          wBin P .add T_int v5 (.int .i64 1) w fun t16 w =>
          k2 t16 w)) (
        k (.bool true) w)))

theorem call_ref01_Equal (a0 a1 : Value) {w : World} {k : Value → World → Prop} (h : F_ref01_Equal a0 a1 w k) : wCall P n_ref01_Equal [a0, a1] w k :=
  call_of_den mixedP Try.func116 (by kernel_rfl) (.s .z (.s .z (.s (.s .z (.b (.l [5] [0, 1] (.s .z (.s (.b (.s (.r (.ops [0, 1, 2, 3, 4, 5, 6, 7, 8] .nil)) .z)) .z))))) .z))) (by kernel_rfl) (Eq.mp (by kernel_rfl) h)

def F_ref01_Low (a0 a1 : Value) (w : World) (k : Value → World → Prop) : Prop :=
  wL3 a0 (.slice none 0 0) (.int .i64 0) w (fun _ v0 v5 v6 w k1 =>
    wBin P .lss T_int v6 a1 w fun t9 w =>
    wIf t9 (
      wBin P .rem T_uint64 v0 (.int .u64 256) w fun t14 w =>
      wConv P T_uint64 T_uint8 t14 w fun t15 w =>
      wBuildS P T_Luint8 1 [(0, t15)] w fun t16 w =>
      wBuiltin P .append #[T_Luint8, T_Luint8] [v5, t16] w fun t17 w =>
      wBin P .quo T_uint64 v0 (.int .u64 256) w fun t19 w =>
      wBin P .add T_int v6 (.int .i64 1) w fun t11 w =>
      k1 t19 t17 t11 w) (
      k v5 w))

theorem call_ref01_Low (a0 a1 : Value) {w : World} {k : Value → World → Prop} (h : F_ref01_Low a0 a1 w k) : wCall P n_ref01_Low [a0, a1] w k :=
  call_of_den mixedP Try.func173 (by kernel_rfl) (.s .z (.s .z (.s (.s .z (.b (.l [0, 5, 6] [1] .z))) .z))) (by kernel_rfl) (Eq.mp (by kernel_rfl) h)

def F_ref01_Num (a0 : Value) (w : World) (k : Value → World → Prop) : Prop :=
  wLen P .len #[T_Luint8] [a0] w fun t6 w =>
  wBin P .sub T_int t6 (.int .i64 1) w fun t7 w =>
  wL2 (.int .u64 0) t7 w (fun _ v3 v4 w k1 =>
    wBin P .geq T_int v4 (.int .i64 0) w fun t9 w =>
    wIf t9 (
      wBin P .mul T_uint64 (.int .u64 256) v3 w fun t13 w =>
      wIndexA P T_Luint8 a0 v4 w fun t16 w =>
      wLoad P T_uint8 t16 w fun t17 w =>
      wConv P T_uint8 T_uint64 t17 w fun t18 w =>
      wBin P .add T_uint64 t13 t18 w fun t19 w =>
      wBin P .sub T_int v4 (.int .i64 1) w fun t11 w =>
      k1 t19 t11 w) (
      k v3 w))

theorem call_ref01_Num (a0 : Value) {w : World} {k : Value → World → Prop} (h : F_ref01_Num a0 w k) : wCall P n_ref01_Num [a0] w k :=
  call_of_den mixedP Try.func177 (by kernel_rfl) (.s .z (.s .z (.s (.s .z (.b (.l [3, 4] [0] .z))) .z))) (by kernel_rfl) (Eq.mp (by kernel_rfl) h)

def F_ref01_Has (a0 a1 : Value) (w : World) (k : Value → World → Prop) : Prop :=
  wBin P .lss T_int a0 (.int .i64 1) w fun t7 w =>
  wGrp t7 false (fun k10 =>
    wBin P .gtr T_int a0 (.int .i64 8) w fun t10 w =>
    k10 t10 w) w fun _ t10 w =>
  wPick t7 (.bool true) t10 w fun t11 w =>
  wIf t11 (
    k (.bool false) w) (
    wJ1 (fun k2 =>
      wL2 a1 (.int .i64 0) w (fun _ v1 v5 w k3 =>
        wBin P .lss T_int v5 a0 w fun t14 w =>
        wIf t14 (
          wBin P .quo T_uint64 v1 (.int .u64 256) w fun t18 w =>
          wBin P .add T_int v5 (.int .i64 1) w fun t16 w =>
          k3 t18 t16 w) (
          k2 v1 w))) fun _ v1 w =>
    wBin P .eql T_uint64 v1 (.int .u64 0) w fun t20 w =>
    k t20 w)

theorem call_ref01_Has (a0 a1 : Value) {w : World} {k : Value → World → Prop} (h : F_ref01_Has a0 a1 w k) : wCall P n_ref01_Has [a0, a1] w k :=
  call_of_den mixedP Try.func243 (by kernel_rfl) (.s .z (.s (.s (.r (.ops [0, 1, 2] (.grp 2 false 10 [9] (.ops [3, 4] .nil) (.ops [5] .nil)))) .z) (.j [1] [] (.s .z (.b (.l [1, 5] [0] .z))) .z))) (by kernel_rfl) (Eq.mp (by kernel_rfl) h)

end Go.Dn
end
