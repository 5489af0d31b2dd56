import Derived.Test.YtflnhihdbhjlnaaCform
/-! Forms, on: the reader; both as forms. -/
set_option maxRecDepth 10000
set_option linter.unusedVariables false
set_option linter.unusedSimpArgs false
namespace Go.Dn
open Go
def RdS (h : Nat) (body : List Nat) (w : World) (s : Nat × Bool) (fp : List Nat) : Prop :=
  ∃ bv, Blk w h T_codec_reader [bv, .int .i64 (s.1 : Int), .bool s.2] ∧ SlG w 1 bv (bvs body) ∧ (∀ b ∈ body, b < 256) ∧ body.length ≤ 1000000 ∧ (∀ g, bv.ownBlock = some g → g ≠ h ∧ g < w.heap.size) ∧ fp = h :: bv.ownBlock.toList
theorem RdS.ex {T : List Nat} {w w' : World} {h : Nat} {body : List Nat} {s : Nat × Bool} {fp : List Nat} (H : RdS h body w s fp) (hx : Ex T w w') (hT : ∀ x ∈ T, x ∉ fp) : RdS h body w' s fp := by
  obtain ⟨v, hb, ho, hl, hn, hne, rfl⟩ := H
  have := hx.le
  refine ⟨v, hb.ex hx fun hm => hT _ hm (by simp), ho.ex hx fun g hg hm => hT _ hm (by simp [hg]), hl, hn, fun g hg => ⟨(hne g hg).1, by have := (hne g hg).2; omega⟩, rfl⟩
theorem RdS.bd {w : World} {h : Nat} {body : List Nat} {s : Nat × Bool} {fp : List Nat} (H : RdS h body w s fp) : ∀ x ∈ fp, x < w.heap.size := by
  obtain ⟨v, hb, ho, hl, hn, hne, rfl⟩ := H
  intro x hx
  rcases List.mem_cons.1 hx with rfl | hx
  · exact hb.lt
  · cases hv : v.ownBlock with
    | none => rw [hv] at hx; simp at hx
    | some g => rw [hv] at hx; simp at hx; subst hx; exact (hne _ hv).2
section
variable {w : World} {K : Value → World → Prop}
theorem codec_reader_wide {h b o wd : Nat} {body : List Nat} {s : Nat × Bool} {fp : List Nat} {t : TypeId} {cs : List Value} {n : Int} {k : Value → World → Prop} (H : RdS h body w s fp) (B : Blk w b t cs) (hb : b ∉ fp) (hn : cs[o]? = some (.int .u64 n)) (hw : 1 ≤ wd) (hw8 : wd ≤ 8)
    (hsz : s.1 ≤ 1000000) (hk : ∀ w', Ex (b :: fp) w w' → RdS h body w' (rstp body s wd n) fp → Blk w' b t (cs.set o (.int .u64 (rval body s wd n))) → k (.tuple #[]) w') : wCall P n_codec_reader_wide [ptr h, .int .i64 (wd : Nat), .pointer (some ⟨b, o, none⟩)] w k := by
  refine call_codec_reader_wide _ _ _ ?_
  unfold F_codec_reader_wide
  obtain ⟨v, hB, hS, hl, hbl, hne, rfl⟩ := H
  have hbh : b ≠ h := fun e => hb (by simp [e])
  have hbv : ∀ g, v.ownBlock = some g → g ≠ b := fun g hg e => hb (by simp [hg, e])
  refine draw_i fun w1 hE1 _ => ?_
  have B1 := B.ex hE1 (by simp)
  have hB1 := hB.ex hE1 (by simp)
  have hS1 := hS.ex0 hE1
  simp only [nil_ptr, fA_T_codec_reader_0, fA_T_codec_reader_1, fA_T_codec_reader_2, Nat.zero_add]
  rw [ld_one o_T_Luint8 (hB1.cell 0), ld_one o_T_int (hB1.cell 1)]
  have ho := (List.getElem?_eq_some_iff.1 hn).1
  have fin : ∀ (x : Nat) (e : Int), ((x : Int) = rval body s wd n) → ((!decide (s.1 + wd ≤ body.length)) = decide (e ≠ 0)) →
      wExtract P (.tuple #[.int .u64 (x : Int), .int .i64 e]) 0 w1 fun t19 w => wExtract P (.tuple #[.int .u64 (x : Int), .int .i64 e]) 1 w fun t20 w =>
        wStore P T_uint64 (.pointer (some ⟨b, o, none⟩)) t19 w fun w => wLoad P T_bool (.pointer (some ⟨h, 2, none⟩)) w fun t28 w =>
        wGrp t28 false (fun k31 => wBin P .neq T_api_Errno t20 (.int .i64 0) w fun t31 w => k31 t31 w) w fun _ t31 w => wPick t28 (.bool true) t31 w fun t32 w =>
        wStore P T_bool (.pointer (some ⟨h, 2, none⟩)) t32 w fun w => wLoad P T_int (.pointer (some ⟨h, 1, none⟩)) w fun t38 w => wBin P .add T_int t38 (.int .i64 (wd : Nat)) w fun t40 w =>
        wStore P T_int (.pointer (some ⟨h, 1, none⟩)) t40 w fun w => k (.tuple #[]) w := by
    intro x e hx he
    rw [ext_0, ext_1]
    refine st_one o_T_uint64 rfl B1 ho fun w2 hE2 B2 => ?_
    have hB2 := hB1.ex hE2 (by simpa using hbh.symm)
    have hS2 := hS1.ex hE2 fun g hg => by simpa using hbv g hg
    rw [ld_one o_T_bool (hB2.cell 2)]
    refine or_i (r := decide (e ≠ 0)) (fun _ k' hk' => by rw [bin_neq]; exact hk') ?_
    refine st_one o_T_bool rfl hB2 (by simp) fun w3 hE3 B3 => ?_
    rw [ld_one o_T_int (B3.cell 1), bin_add (by omega)]
    refine st_one o_T_int rfl B3 (by simp) fun w4 hE4 B4 => ?_
    have hvh : ∀ g, v.ownBlock = some g → g ∉ [h] := fun g hg => by have := (hne g hg).1; simpa using this
    have l1 := hE1.le
    have l2 := hE2.le
    have l3 := hE3.le
    have l4 := hE4.le
    refine hk w4 ?_ ⟨v, ?_, (hS2.ex hE3 hvh).ex hE4 hvh, hl, hbl, fun g hg => ⟨(hne g hg).1, by have := (hne g hg).2; omega⟩, rfl⟩ ?_
    · exact ((hE1.nil.trans (hE2.mono (by simp))).trans (hE3.mono (by simp))).trans (hE4.mono (by simp))
    · show Blk w4 h T_codec_reader [v, .int .i64 ((s.1 + wd : Nat) : Int), .bool (s.2 || !decide (s.1 + wd ≤ body.length))]
      rw [he]
      simpa using B4
    · rw [← hx]
      exact (B2.ex hE3 (by simpa using hbh)).ex hE4 (by simpa using hbh)
  obtain ⟨A, m, c, rfl, hlen, hmc, hr⟩ := hS1
  have hm : body.length = m := by rw [bvs_length] at hlen; omega
  refine num_Get (bs := body) ⟨A, m, c, rfl, hlen, hmc, hr⟩ hl hm (by omega) (by omega) (fun hbad => ?_) (fun hok => ?_)
  · have hlt : ¬ s.1 + wd ≤ body.length := fun h' => hbad ⟨by omega, by omega, by omega, by omega⟩
    refine fin 0 1 ?_ ?_
    · unfold rval; rw [if_neg hlt]; rfl
    · simp; omega
  · have hlt : s.1 + wd ≤ body.length := by have := hok.2.2.2; omega
    simp only [Int.toNat_natCast]
    refine fin _ 0 ?_ ?_
    · unfold rval; rw [if_pos hlt]
    · simp; omega
theorem pow256_4 {wd : Nat} (h : wd ≤ 4) : 256 ^ wd ≤ 4294967296 := Nat.le_trans (Nat.pow_le_pow_right (by decide) h) (by decide)
theorem rval_lt {body : List Nat} (hl : ∀ b ∈ body, b < 256) (s : Nat × Bool) (wd : Nat) (n : Int) : 0 ≤ rval body s wd n ∧ rval body s wd n < (256 ^ wd : Nat) := by
  unfold rval
  split
  · have := numOf_lt ((body.drop s.1).take wd) fun b hb => hl b (List.mem_of_mem_drop (List.mem_of_mem_take hb))
    rw [List.length_take, List.length_drop, Nat.min_eq_left (by omega)] at this
    omega
  · have : 0 < 256 ^ wd := Nat.pow_pos (by decide)
    omega
theorem codec_reader_int {h b o wd : Nat} {body : List Nat} {s : Nat × Bool} {fp : List Nat} {t : TypeId} {cs : List Value} {n : Int} {k : Value → World → Prop} (H : RdS h body w s fp) (B : Blk w b t cs) (hb : b ∉ fp) (hn : cs[o]? = some (.int .i64 n)) (hw : 1 ≤ wd) (hw4 : wd ≤ 4)
    (hsz : s.1 ≤ 1000000) (hk : ∀ w', Ex (b :: fp) w w' → RdS h body w' (rstp body s wd n) fp → Blk w' b t (cs.set o (.int .i64 (rval body s wd n))) → k (.tuple #[]) w') : wCall P n_codec_reader_int [ptr h, .int .i64 (wd : Nat), .pointer (some ⟨b, o, none⟩)] w k := by
  refine call_codec_reader_int _ _ _ ?_
  unfold F_codec_reader_int
  refine alloc_i z_T_uint64 (vs := [.int .u64 0]) rfl fun w1 g1 hg1 hE1 B1 => ?_
  have hbd := H.bd
  have hlt := B.lt
  have H1 := H.ex hE1 (by simp)
  have hl : ∀ b ∈ body, b < 256 := by obtain ⟨_, _, _, hl, _⟩ := H; exact hl
  refine codec_reader_wide H1 B1 (fun hm => by have := hbd _ hm; omega) rfl hw (by omega) hsz fun w2 hE2 H2 B2 => ?_
  have hB2 := (B.ex hE1 (by simp)).ex hE2 (by simp; exact ⟨by omega, hb⟩)
  rw [ld_one o_T_uint64 (B2.cell 0 : _ = some (.int .u64 (rval body s wd n)))]
  have hr := rval_lt hl s wd n
  have hp := pow256_4 hw4
  have e0 : rval body s wd 0 = rval body s wd n := rfl
  rw [conv_i i_T_uint64 i_T_int, IntWalk.i64_in _ (by omega), nil_ptr]
  refine st_one o_T_int rfl hB2 (List.getElem?_eq_some_iff.1 hn).1 fun w3 hE3 B3 => ?_
  refine hk w3 ?_ (H2.ex hE3 (by simpa using hb)) B3
  exact ((hE1.nil.step hE2 (by simp; exact ⟨by omega, fun x hx => .inl (.inr hx)⟩)).trans (hE3.mono (by simp)))
theorem codec_reader_word {h b o wd : Nat} {body : List Nat} {s : Nat × Bool} {fp : List Nat} {t : TypeId} {cs : List Value} {n : Int} {k : Value → World → Prop} (H : RdS h body w s fp) (B : Blk w b t cs) (hb : b ∉ fp) (hn : cs[o]? = some (.int .u32 n)) (hw : 1 ≤ wd) (hw4 : wd ≤ 4)
    (hsz : s.1 ≤ 1000000) (hk : ∀ w', Ex (b :: fp) w w' → RdS h body w' (rstp body s wd n) fp → Blk w' b t (cs.set o (.int .u32 (rval body s wd n))) → k (.tuple #[]) w') : wCall P n_codec_reader_word [ptr h, .int .i64 (wd : Nat), .pointer (some ⟨b, o, none⟩)] w k := by
  refine call_codec_reader_word _ _ _ ?_
  unfold F_codec_reader_word
  refine alloc_i z_T_uint64 (vs := [.int .u64 0]) rfl fun w1 g1 hg1 hE1 B1 => ?_
  have hbd := H.bd
  have hlt := B.lt
  have H1 := H.ex hE1 (by simp)
  have hl : ∀ b ∈ body, b < 256 := by obtain ⟨_, _, _, hl, _⟩ := H; exact hl
  refine codec_reader_wide H1 B1 (fun hm => by have := hbd _ hm; omega) rfl hw (by omega) hsz fun w2 hE2 H2 B2 => ?_
  have hB2 := (B.ex hE1 (by simp)).ex hE2 (by simp; exact ⟨by omega, hb⟩)
  rw [ld_one o_T_uint64 (B2.cell 0 : _ = some (.int .u64 (rval body s wd n)))]
  have hr := rval_lt hl s wd n
  have hp := pow256_4 hw4
  have ew : IntKind.wrap .u32 (rval body s wd n) = rval body s wd n := IntWalk.u32_in _ (by omega)
  rw [conv_i i_T_uint64 i_T_uint32, ew, nil_ptr]
  refine st_one o_T_uint32 rfl hB2 (List.getElem?_eq_some_iff.1 hn).1 fun w3 hE3 B3 => ?_
  refine hk w3 ?_ (H2.ex hE3 (by simpa using hb)) B3
  exact ((hE1.nil.step hE2 (by simp; exact ⟨by omega, fun x hx => .inl (.inr hx)⟩)).trans (hE3.mono (by simp)))
theorem codec_reader_more {h : Nat} {body : List Nat} {s : Nat × Bool} {fp : List Nat} {k : Value → World → Prop} (H : RdS h body w s fp) (hk : ∀ w', Ex [] w w' → k (.bool (!s.2 && decide (s.1 < body.length))) w') : wCall P n_codec_reader_more [ptr h] w k := by
  refine call_codec_reader_more _ ?_
  unfold F_codec_reader_more
  refine draw_i fun w1 hE1 _ => ?_
  obtain ⟨v, hB, hS, hl, hbl, hne, rfl⟩ := H.ex hE1 (by simp)
  simp only [nil_ptr, fA_T_codec_reader_0, fA_T_codec_reader_1, fA_T_codec_reader_2, Nat.zero_add]
  rw [ld_one o_T_bool (hB.cell 2), un_not]
  refine and_i (r := decide (s.1 < body.length)) (fun _ k' hk' => ?_) (hk w1 hE1)
  rw [ld_one o_T_int (hB.cell 1), ld_one o_T_Luint8 (hB.cell 0), hS.len_i u_T_Luint8 (by omega) (n := body.length) (by rw [bvs_length]; omega), bin_lss]
  have : decide ((s.1 : Int) < (body.length : Int)) = decide (s.1 < body.length) := by simp
  rw [this]
  exact hk'
theorem codec_writer_int {h b o wd : Nat} {s : List Nat × Bool} {fp : List Nat} {t : TypeId} {cs : List Value} {n : Int} {k : Value → World → Prop} (H : WrS h w s fp) (B : Blk w b t cs) (hb : b ∉ fp) (hn : cs[o]? = some (.int .i64 n)) (h1 : n ≤ 9223372036854775807) (hw : 1 ≤ wd) (hw8 : wd ≤ 8)
    (hsz : s.1.length ≤ 1000000) (hk : ∀ w' fp', Ex fp w w' → WrS h w' (wstp s wd n) fp' → (∀ x ∈ fp', x ∈ fp ∨ w.heap.size ≤ x) → k (.tuple #[]) w') : wCall P n_codec_writer_int [ptr h, .int .i64 (wd : Nat), .pointer (some ⟨b, o, none⟩)] w k := by
  refine call_codec_writer_int _ _ _ ?_
  unfold F_codec_writer_int
  simp only [nil_ptr, fA_T_codec_writer_1, Nat.zero_add]
  have hbd := H.bd
  rw [ld_one o_T_int ((B.cell o).trans hn), max_i, conv_i i_T_int i_T_uint64]
  have e1 : IntKind.wrap .u64 (max n 0) = ((n.toNat : Nat) : Int) := by rw [IntWalk.u64_in _ (by omega)]; omega
  rw [e1]
  refine alloc_i z_T_uint64 (vs := [.int .u64 0]) rfl fun w1 g1 hg1 hE1 B1 => ?_
  refine st_one o_T_uint64 rfl B1 (by simp) fun w2 hE2 B2 => ?_
  have B2 : Blk w2 g1 T_uint64 [.int .u64 ((n.toNat : Nat) : Int)] := B2
  have E2 : Ex [] w w2 := hE1.new hE2 (by omega)
  have Bb := B.ex E2 (by simp)
  obtain ⟨v, hB, hO, hl, hfp⟩ := H.ex E2 (by simp)
  have hhf : h ∈ fp := by rw [hfp]; simp
  have hhb : h ≠ b := fun e => hb (by rw [hfp]; simp [e])
  rw [ld_one o_T_bool (hB.cell 1)]
  refine or_i (r := decide (n < 0)) (fun _ k' hk' => ?_) ?_
  · rw [ld_one o_T_int ((Bb.cell o).trans hn), bin_lss]
    exact hk'
  refine st_one o_T_bool rfl hB (by simp) fun w3 hE3 B3 => ?_
  have B3 : Blk w3 h T_codec_writer [v, .bool (s.2 || decide (n < 0))] := B3
  have hvh : ∀ g, v.ownBlock = some g → g ∉ [h] := fun g hg => by have := hO.off hB (by decide) g hg; simpa using this
  have H3 : WrS h w3 (s.1, s.2 || decide (n < 0)) fp := ⟨v, B3, hO.ex hE3 hvh, hl, hfp⟩
  have hg1h : g1 ≠ h := by have := hbd h hhf; omega
  have G3 := B2.ex hE3 (by simpa using hg1h)
  refine codec_writer_wide (n := ((n.toNat : Nat) : Int)) H3 G3 (fun hm => by have := hbd _ hm; omega) rfl (by omega) (by omega) hw hw8 hsz fun w4 fp' hE4 H4 hfp' => ?_
  have l2 := E2.le
  have l3 := hE3.le
  refine hk w4 fp' ((E2.nil.trans (hE3.mono fun x hx _ => by simp at hx; subst hx; exact hhf)).trans hE4) ?_ fun x hx => (hfp' x hx).imp_right (by omega)
  have e2 : wstp (s.1, s.2 || decide (n < 0)) wd ((n.toNat : Nat) : Int) = wstp s wd n := by
    unfold wstp okN
    simp only [Int.toNat_natCast]
    congr 1
    have : decide ((0 : Int) ≤ ((n.toNat : Nat) : Int)) = true := decide_eq_true (by omega)
    rw [this]
    by_cases h0 : n < 0
    · have : decide (0 ≤ n) = false := decide_eq_false (by omega)
      rw [this, decide_eq_true h0]
      simp
    · have : decide (0 ≤ n) = true := decide_eq_true (by omega)
      rw [this, decide_eq_false h0]
      simp
  rw [e2] at H4
  exact H4
theorem codec_writer_word {h b o wd : Nat} {s : List Nat × Bool} {fp : List Nat} {t : TypeId} {cs : List Value} {n : Int} {k : Value → World → Prop} (H : WrS h w s fp) (B : Blk w b t cs) (hb : b ∉ fp) (hn : cs[o]? = some (.int .u32 n)) (h0 : 0 ≤ n) (h1 : n < 4294967296) (hw : 1 ≤ wd) (hw8 : wd ≤ 8)
    (hsz : s.1.length ≤ 1000000) (hk : ∀ w' fp', Ex fp w w' → WrS h w' (wstp s wd n) fp' → (∀ x ∈ fp', x ∈ fp ∨ w.heap.size ≤ x) → k (.tuple #[]) w') : wCall P n_codec_writer_word [ptr h, .int .i64 (wd : Nat), .pointer (some ⟨b, o, none⟩)] w k := by
  refine call_codec_writer_word _ _ _ ?_
  unfold F_codec_writer_word
  have hbd := H.bd
  rw [nil_ptr, ld_one o_T_uint32 ((B.cell o).trans hn), conv_i i_T_uint32 i_T_uint64, IntWalk.u64_in _ (by omega)]
  refine alloc_i z_T_uint64 (vs := [.int .u64 0]) rfl fun w1 g1 hg1 hE1 B1 => ?_
  refine st_one o_T_uint64 rfl B1 (by simp) fun w2 hE2 B2 => ?_
  have B2 : Blk w2 g1 T_uint64 [.int .u64 n] := B2
  have E2 : Ex [] w w2 := hE1.new hE2 (by omega)
  have H2 := H.ex E2 (by simp)
  refine codec_writer_wide H2 B2 (fun hm => by have := hbd _ hm; omega) rfl (by omega) (by omega) hw hw8 hsz fun w4 fp' hE4 H4 hfp' => ?_
  have l2 := E2.le
  exact hk w4 fp' (E2.nil.trans hE4) H4 fun x hx => (hfp' x hx).imp_right (by omega)
end
/-- The writer as a form. -/
def wform (h : Nat) : Form (.iface T_pcodec_writer (ptr h)) where
  σ := List Nat × Bool
  S := WrS h
  stp := wstp
  val := wval
  more := fun _ => false
  sz := fun s => s.1.length
  sz_stp := fun s wd n => by
    unfold wstp
    simp only [List.length_append]
    split <;> simp [low_length]
  ex := fun H hx hT => H.ex hx hT
  bd := fun H => H.bd
  ask := fun m hm w K hk => by
    simp only [List.mem_cons, List.not_mem_nil, or_false] at hm
    rcases hm with rfl | rfl | rfl
    · rw [nil_meth (ahead_writer_wide _)]; exact hk
    · rw [nil_meth (ahead_writer_int _)]; exact hk
    · rw [nil_meth (ahead_writer_word _)]; exact hk
  wide := fun H B hb hn h0 h1 hw hw8 hsz hk => by
    rw [inv_eq (meth_writer_wide _)]
    refine codec_writer_wide H B hb hn h0 h1 hw hw8 hsz fun w' fp' hE H' hfp => hk w' fp' (hE.mono (by simp +contextual)) H' hfp ?_
    show Blk w' _ _ (List.set _ _ (.int .u64 _))
    rw [wval, set_same hn]
    exact B.ex hE hb
  int := fun H B hb hn h0 h1 hw hw8 hsz hk => by
    rw [inv_eq (meth_writer_int _)]
    refine codec_writer_int H B hb hn h1 hw (by omega) hsz fun w' fp' hE H' hfp => hk w' fp' (hE.mono (by simp +contextual)) H' hfp ?_
    show Blk w' _ _ (List.set _ _ (.int .i64 _))
    rw [wval, set_same hn]
    exact B.ex hE hb
  word := fun H B hb hn h0 h1 hw hw8 hsz hk => by
    rw [inv_eq (meth_writer_word _)]
    refine codec_writer_word H B hb hn h0 h1 hw (by omega) hsz fun w' fp' hE H' hfp => hk w' fp' (hE.mono (by simp +contextual)) H' hfp ?_
    show Blk w' _ _ (List.set _ _ (.int .u32 _))
    rw [wval, set_same hn]
    exact B.ex hE hb
  moreC := fun H hk => by
    rw [inv_eq (meth_writer_more _)]
    refine call_codec_writer_more _ ?_
    unfold F_codec_writer_more
    exact hk _ (Ex.refl _ _)
/-- The reader as a form. -/
def rform (h : Nat) (body : List Nat) : Form (.iface T_pcodec_reader (ptr h)) where
  σ := Nat × Bool
  S := RdS h body
  stp := rstp body
  val := rval body
  more := fun s => !s.2 && decide (s.1 < body.length)
  sz := fun s => s.1
  sz_stp := fun s wd n => rfl
  ex := fun H hx hT => H.ex hx hT
  bd := fun H => H.bd
  ask := fun m hm w K hk => by
    simp only [List.mem_cons, List.not_mem_nil, or_false] at hm
    rcases hm with rfl | rfl | rfl
    · rw [nil_meth (ahead_reader_wide _)]; exact hk
    · rw [nil_meth (ahead_reader_int _)]; exact hk
    · rw [nil_meth (ahead_reader_word _)]; exact hk
  wide := fun H B hb hn h0 h1 hw hw8 hsz hk => by
    rw [inv_eq (meth_reader_wide _)]
    exact codec_reader_wide H B hb hn hw hw8 hsz fun w' hE H' B' => hk w' _ hE H' (fun x hx => .inl hx) B'
  int := fun H B hb hn h0 h1 hw hw8 hsz hk => by
    rw [inv_eq (meth_reader_int _)]
    exact codec_reader_int H B hb hn hw hw8 hsz fun w' hE H' B' => hk w' _ hE H' (fun x hx => .inl hx) B'
  word := fun H B hb hn h0 h1 hw hw8 hsz hk => by
    rw [inv_eq (meth_reader_word _)]
    exact codec_reader_word H B hb hn hw hw8 hsz fun w' hE H' B' => hk w' _ hE H' (fun x hx => .inl hx) B'
  moreC := fun H hk => by
    rw [inv_eq (meth_reader_more _)]
    exact codec_reader_more H hk
end Go.Dn
