import Derived.Test.YtflnhihdbhjlnaaCpass
/-! Passes over lists of records; what may be. -/
set_option maxRecDepth 10000
set_option linter.unusedVariables false
set_option linter.unusedSimpArgs false
namespace Go.Dn
open Go
def zs (ks : List IntKind) : List Int := ks.map fun _ => 0
theorem zs_length (ks : List IntKind) : (zs ks).length = ks.length := by simp [zs]
structure ElT (TL TE : TypeId) (ks : List IntKind) : Prop where
  u : P.underlying TL = some (.slice TE)
  s : slT P TL = some ks.length
  o : oneT P TL = true
  g : aggT P TE ks.length = true
  z : zeroT P TE = some (.agg ⟨rc ks (zs ks)⟩)
  sz : ∀ w, (sizeOf TE).run P w = .ok ks.length w
  pos : 0 < ks.length
  le : ks.length ≤ 1000
  inz : inR ks (zs ks)
  app : ∀ {w : World} {K : Value → World → Prop} {base : Nat} {v x : Value} {xs ys : List Value} {n m : Nat}, Own w base TE ks.length v xs → SlG w ks.length x ys → xs.length = n * ks.length → ys.length = m * ks.length → (∀ u ∈ ys, isC u = true) → n + m ≤ 10000000 → base ≤ w.heap.size →
    (∀ v' w', Own w' base TE ks.length v' (xs ++ ys) → Ex v.ownBlock.toList w w' → (v'.ownBlock = v.ownBlock ∨ v'.ownBlock = some w.heap.size) → K v' w') → wBuiltin P .append #[TL, TL] [v, x] w K
def kUse : List IntKind := [.i64, .i64, .u32]
def kSlot : List IntKind := [.i64, .u32, .i64, .i64]
def kRecord : List IntKind := [.u32, .u32, .i64, .i64]
def kEntry : List IntKind := [.i64, .u32, .u32, .i64]
theorem el_Use : ElT T_Lcodec_Use T_codec_Use kUse :=
  ⟨u_T_Lcodec_Use, s_T_Lcodec_Use, o_T_Lcodec_Use, g_T_codec_Use, z_T_codec_Use, fun w => sizeOf_agg g_T_codec_Use w, by decide, by decide, by simp [inR, inR1, kUse, zs], fun ho hy hn hm hc hb hba hk => app_T_Lcodec_Use ho hy hn hm hc (by omega) hba hk⟩
theorem el_Slot : ElT T_Lcodec_Slot T_codec_Slot kSlot :=
  ⟨u_T_Lcodec_Slot, s_T_Lcodec_Slot, o_T_Lcodec_Slot, g_T_codec_Slot, z_T_codec_Slot, fun w => sizeOf_agg g_T_codec_Slot w, by decide, by decide, by simp [inR, inR1, kSlot, zs], fun ho hy hn hm hc hb hba hk => app_T_Lcodec_Slot ho hy hn hm hc (by omega) hba hk⟩
theorem el_Record : ElT T_Lcodec_Record T_codec_Record kRecord :=
  ⟨u_T_Lcodec_Record, s_T_Lcodec_Record, o_T_Lcodec_Record, g_T_codec_Record, z_T_codec_Record, fun w => sizeOf_agg g_T_codec_Record w, by decide, by decide, by simp [inR, inR1, kRecord, zs], fun ho hy hn hm hc hb hba hk => app_T_Lcodec_Record ho hy hn hm hc (by omega) hba hk⟩
theorem el_Entry : ElT T_Lcodec_Entry T_codec_Entry kEntry :=
  ⟨u_T_Lcodec_Entry, s_T_Lcodec_Entry, o_T_Lcodec_Entry, g_T_codec_Entry, z_T_codec_Entry, fun w => sizeOf_agg g_T_codec_Entry w, by decide, by decide, by simp [inR, inR1, kEntry, zs], fun ho hy hn hm hc hb hba hk => app_T_Lcodec_Entry ho hy hn hm hc (by omega) hba hk⟩
/-- A slice whose block is one of cells. -/
def SlB (w : World) (t : TypeId) (size : Nat) (v : Value) (xs : List Value) : Prop :=
  (v = .slice none 0 0 ∧ xs = []) ∨ ∃ b A C n c, v = .slice (some ⟨b, List.length A, none⟩) n c ∧ Blk w b t (A ++ xs ++ C) ∧ xs.length = n * size ∧ n ≤ c
theorem SlB.slg {w : World} {t : TypeId} {size : Nat} {v : Value} {xs : List Value} (h : SlB w t size v xs) : SlG w size v xs := by
  rcases h with ⟨rfl, rfl⟩ | ⟨b, A, C, n, c, rfl, hB, hl, hc⟩
  · exact SlG.nil w size
  · refine SlG.of_cs (fun i x hx => ?_) hl hc
    rw [hB.cell, List.append_assoc, List.getElem?_append_right (by omega), show A.length + i - A.length = i by omega, List.getElem?_append_left (List.getElem?_eq_some_iff.1 hx).1]
    exact hx
theorem SlB.ex {S : List Nat} {w w' : World} {t : TypeId} {size : Nat} {v : Value} {xs : List Value} (h : SlB w t size v xs) (hx : Ex S w w') (hs : ∀ g, v.ownBlock = some g → g ∉ S) : SlB w' t size v xs := by
  rcases h with h | ⟨b, A, C, n, c, rfl, hB, hl, hc⟩
  · exact .inl h
  · exact .inr ⟨b, A, C, n, c, rfl, hB.ex hx (hs b rfl), hl, hc⟩
theorem SlB.ex0 {w w' : World} {t : TypeId} {size : Nat} {v : Value} {xs : List Value} (h : SlB w t size v xs) (hx : Ex [] w w') : SlB w' t size v xs := h.ex hx (by simp)
theorem SlB.bd {w : World} {t : TypeId} {size : Nat} {v : Value} {xs : List Value} (h : SlB w t size v xs) : ∀ g, v.ownBlock = some g → g < w.heap.size := by
  rcases h with ⟨rfl, rfl⟩ | ⟨b, A, C, n, c, rfl, hB, hl, hc⟩
  · intro g hg; simp [Value.ownBlock] at hg
  · intro g hg
    simp [Value.ownBlock] at hg
    subst hg
    exact hB.lt
theorem Own.slb {w : World} {base size : Nat} {e : TypeId} {v : Value} {xs : List Value} (h : Own w base e size v xs) : SlB w e size v xs := by
  obtain ⟨n, hl, h⟩ := h
  rcases h with ⟨rfl, rfl⟩ | ⟨g, cap, cur, rfl, hb, hh, hnc, h2, h3, htk⟩
  · exact .inl ⟨rfl, List.eq_nil_of_length_eq_zero (by simpa using hl)⟩
  · refine .inr ⟨g, [], cur.toList.drop (n * size), n, cap, rfl, ?_, hl, hnc⟩
    have : [] ++ xs ++ cur.toList.drop (n * size) = cur.toList := by rw [← htk, List.nil_append, List.take_append_drop]
    rw [this]
    exact hh
def G_list (TL TE : TypeId) (a0 a1 a2 : Value) (w : World) (k : Value → World → Prop) : Prop :=
  wJ0 (fun k1 =>
    wNil P a1 w fun t9 w =>
    wLoad P TL t9 w fun t10 w =>
    wLen P .len #[TL] [t10] w fun t11 w =>
    wL1 (.int .i64 0) w (fun _ v12 w k2 =>
      wBin P .lss T_int v12 t11 w fun t13 w =>
      wIf t13 (
        wNil P a1 w fun t18 w =>
        wLoad P TL t18 w fun t19 w =>
        wIndexA P TL t19 v12 w fun t21 w =>
        wCallV P a2 [a0, t21] w fun _ w =>
        wBin P .add T_int v12 (.int .i64 1) w fun t23 w =>
        k2 t23 w) (
        k1 w))) fun _ w =>
  wL0 w (fun _ w k1 =>
    wInvoke P a0 "drumlin/codec.more" [] w fun t25 w =>
    wIf t25 (
      wAlloc P TE w fun t7 w =>
      wCallV P a2 [a0, t7] w fun _ w =>
      wDraw w fun w =>
      wNil P a1 w fun t31 w =>
      wLoad P TL t31 w fun t32 w =>
      wLoad P TE t7 w fun t33 w =>
      wBuildS P TL 1 [(0, t33)] w fun t34 w =>
      wKeep P [(TL, t31, t32)] w ∧ wBuiltin P .append #[TL, TL] [t32, t34] w fun t35 w =>
      wNil P a1 w fun t36 w =>
      wStore P TL t36 t35 w fun w =>
      k1 w) (
      k (.tuple #[]) w))
def ListC (n : FuncId) (TL TE : TypeId) : Prop := ∀ {a0 a1 a2 : Value} {w : World} {k : Value → World → Prop}, G_list TL TE a0 a1 a2 w k → wCall P n [a0, a1, a2] w k
theorem lc_Use : ListC n_codec_list_codec_Use T_Lcodec_Use T_codec_Use := fun h => call_codec_list_codec_Use _ _ _ h
theorem lc_Slot : ListC n_codec_list_codec_Slot T_Lcodec_Slot T_codec_Slot := fun h => call_codec_list_codec_Slot _ _ _ h
theorem lc_Record : ListC n_codec_list_codec_Record T_Lcodec_Record T_codec_Record := fun h => call_codec_list_codec_Record _ _ _ h
theorem lc_Entry : ListC n_codec_list_codec_Entry T_Lcodec_Entry T_codec_Entry := fun h => call_codec_list_codec_Entry _ _ _ h
section
variable {w : World}
theorem takeR {rs : List (List Int)} {i : Nat} (h : i < rs.length) : rs.take (i + 1) = rs.take i ++ [rs[i]] := List.take_succ_eq_append_getElem h
theorem runRS_w_len {ks : List IntKind} {ws : List Nat} (hw : ws.length = ks.length) : ∀ (l : List (List Int)) (s : List Nat × Bool), lenR ks l → (runRS wstp ws s l).1.length = s.1.length + l.length * ws.sum := by
  intro l
  induction l with
  | nil => intro s _; simp [runRS]
  | cons r l ih =>
    intro s hl
    show (runRS wstp ws (runS wstp s ws r) l).1.length = _
    rw [ih _ fun x hx => hl x (List.mem_cons_of_mem _ hx), runS_w_len ws r s (by rw [hw, hl r (List.mem_cons_self ..)]), List.length_cons, Nat.add_mul, Nat.one_mul]
    omega
theorem runRS_r_at {ks : List IntKind} {ws : List Nat} {body : List Nat} {s : Nat × Bool} (hw : ws.length = ks.length) (i : Nat) : (runRS (rstp body) ws s (List.replicate i (zs ks))).1 = s.1 + i * ws.sum := by
  induction i with
  | zero => simp [runRS]
  | succ i ih => rw [List.replicate_succ', runRS_snoc, (runS_r body ws _ _ (by rw [hw, zs_length])).1, ih, Nat.succ_mul]; omega
theorem lenR_runRV {ks : List IntKind} {ws : List Nat} {body : List Nat} (hw : ws.length = ks.length) : ∀ (rs : List (List Int)) (s : Nat × Bool), lenR ks rs → lenR ks (runRV (rstp body) (rval body) ws s rs) := by
  intro rs
  induction rs with
  | nil => intro s _ r hr; simp [runRV] at hr
  | cons a rs ih =>
    intro s hl r hr
    simp only [runRV, List.mem_cons] at hr
    rcases hr with rfl | hr
    · rw [runV_length _ _ _ _ _ (by rw [hw, hl a (List.mem_cons_self ..)]), hl a (List.mem_cons_self ..)]
    · exact ih _ (fun x hx => hl x (List.mem_cons_of_mem _ hx)) r hr
theorem wmoreC {h : Nat} {s : List Nat × Bool} {fp : List Nat} {K : Value → World → Prop} (H : WrS h w s fp) (hk : ∀ w', Ex [] w w' → K (.bool false) w') : wInvoke P (.iface T_pcodec_writer (ptr h)) "drumlin/codec.more" [] w K := (wform h).moreC H hk
def rmore (body : List Nat) (s : Nat × Bool) : Bool := !s.2 && decide (s.1 < body.length)
theorem rmoreC {h : Nat} {body : List Nat} {s : Nat × Bool} {fp : List Nat} {K : Value → World → Prop} (H : RdS h body w s fp) (hk : ∀ w', Ex [] w w' → K (.bool (rmore body s)) w') : wInvoke P (.iface T_pcodec_reader (ptr h)) "drumlin/codec.more" [] w K := (rform h body).moreC H hk
/-- A list is written. -/
theorem list_wr {n np : FuncId} {TL TE lt : TypeId} {ks : List IntKind} {ws : List Nat} {h lb lo : Nat} {s : List Nat × Bool} {fp : List Nat} {lcs : List Value} {v : Value} {rs : List (List Int)} {k : Value → World → Prop} (E : ElT TL TE ks) (hL : ListC n TL TE) (hP : PassC np ks ws)
    (H : WrS h w s fp) (B : Blk w lb lt lcs) (hlo : lcs[lo]? = some v) (hlb : lb ∉ fp) (S : SlB w TE ks.length v (rcs ks rs)) (hv : ∀ g, v.ownBlock = some g → g ∉ fp) (hlen : lenR ks rs) (hw : ws.length = ks.length) (hin : ∀ r ∈ rs, inR ks r) (hn : rs.length ≤ 1000) (hsz : s.1.length + rs.length * ws.sum ≤ 900000)
    (hk : ∀ w' fp', Ex fp w w' → WrS h w' (runRS wstp ws s rs) fp' → (∀ x ∈ fp', x ∈ fp ∨ w.heap.size ≤ x) → k (.tuple #[]) w') : wCall P n [.iface T_pcodec_writer (ptr h), .pointer (some ⟨lb, lo, none⟩), .func (.func np) #[] #[]] w k := by
  refine hL ?_
  unfold G_list
  refine j0_of (fun w' => ∃ fp', Ex fp w w' ∧ WrS h w' (runRS wstp ws s rs) fp' ∧ (∀ x ∈ fp', x ∈ fp ∨ w.heap.size ≤ x)) (fun k1 hk1 => ?_) ?_
  · rw [nil_ptr, ld_one E.o ((B.cell lo).trans hlo), S.slg.len_i E.u E.pos (rcs_length hlen)]
    refine loop_up rs.length (fun i x w' => x = .int .i64 (i : Int) ∧ ∃ fp', Ex fp w w' ∧ WrS h w' (runRS wstp ws s (rs.take i)) fp' ∧ (∀ x ∈ fp', x ∈ fp ∨ w.heap.size ≤ x)) ⟨rfl, fp, Ex.refl _ _, H, fun x hx => .inl hx⟩ ?_
    rintro i J x w1 k2 hi ⟨rfl, fp1, hE1, H1, hfp1⟩ hk2
    rw [bin_lss]
    refine wIf_d (fun hlt => ?_) (fun hge => ?_)
    · have hlt : i < rs.length := by omega
      have B1 := B.ex hE1 hlb
      have S1 := S.ex hE1 hv
      rw [nil_ptr, ld_one E.o ((B1.cell lo).trans hlo)]
      rcases S1 with ⟨_, h2⟩ | ⟨b, A, C, m, c, rfl, hB, hl, hc⟩
      · have := rcs_length hlen
        rw [h2] at this
        have := Nat.mul_pos (show 0 < rs.length by omega) E.pos
        simp at *
        omega
      · have hm : m = rs.length := Nat.eq_of_mul_eq_mul_right E.pos (hl.symm.trans (rcs_length hlen))
        subst hm
        rw [indexS_i E.s (by omega) (by omega), callv_0, Int.toNat_natCast]
        have htl : lenR ks (rs.take i) := fun r hr => hlen r (List.mem_of_mem_take hr)
        have ha : A.length + i * ks.length = (A ++ rcs ks (rs.take i)).length := by
          rw [List.length_append, rcs_length htl, List.length_take, Nat.min_eq_left (by omega)]
        have hcs : A ++ rcs ks rs ++ C = (A ++ rcs ks (rs.take i)) ++ rc ks rs[i] ++ (rcs ks (rs.drop (i + 1)) ++ C) := by
          conv => lhs; rw [← List.take_append_drop i rs, List.drop_eq_getElem_cons hlt, rcs_append, rcs_cons]
          simp
        rw [ha]
        rw [hcs] at hB
        have hbfp : b ∉ fp1 := fun hm => by
          rcases hfp1 b hm with h | h
          · exact hv b rfl h
          · have := S.bd b rfl; omega
        have hst : (runRS wstp ws s (rs.take i)).1.length = s.1.length + i * ws.sum := by
          rw [runRS_w_len hw _ s htl, List.length_take, Nat.min_eq_left (by omega)]
        have hmul : i * ws.sum ≤ rs.length * ws.sum := Nat.mul_le_mul_right _ (by omega)
        refine hP (wform h) H1 hB hbfp (hlen _ (List.getElem_mem hlt)) (hin _ (List.getElem_mem hlt)) (show (runRS wstp ws s (rs.take i)).1.length ≤ 900000 by omega) fun w2 fp2 hE2 H2 hfp2 hB2 => ?_
        have hB2 : Blk w2 b TE ((A ++ rcs ks (rs.take i)) ++ rc ks (runV wstp wval (runRS wstp ws s (rs.take i)) ws rs[i]) ++ (rcs ks (rs.drop (i + 1)) ++ C)) := hB2
        rw [runV_w ws _ _ (by rw [hw, hlen _ (List.getElem_mem hlt)])] at hB2
        have E2 : Ex fp1 w1 w2 := hE2.back hB hB2
        have l1 := hE1.le
        rw [bin_add (by omega)]
        refine hk2 _ _ (by omega) ⟨by simp, fp2, hE1.step E2 fun x hx => (hfp1 x hx), ?_, fun x hx => ?_⟩
        · rw [takeR hlt, runRS_snoc]; exact H2
        · rcases hfp2 x hx with h | h
          · exact hfp1 x h
          · exact .inr (by omega)
    · obtain rfl : i = rs.length := by omega
      rw [List.take_length] at H1
      exact hk1 w1 ⟨fp1, hE1, H1, hfp1⟩
  · rintro J w1 ⟨fp1, hE1, H1, hfp1⟩
    refine loop_m0 (n := 0) (fun n w' => Ex fp w w' ∧ WrS h w' (runRS wstp ws s rs) fp1) ⟨hE1, H1⟩ ?_
    rintro n J w2 k1 ⟨hE2, H2⟩ _
    refine wmoreC H2 fun w3 hE3 => ?_
    rw [wIf_f]
    exact hk w3 fp1 (hE2.trans hE3.nil) (H2.ex hE3 (by simp)) hfp1
/-- A list is read. -/
theorem list_rd {n np : FuncId} {TL TE lt : TypeId} {ks : List IntKind} {ws : List Nat} {h lb lo N : Nat} {body : List Nat} {s : Nat × Bool} {fp : List Nat} {lcs : List Value} {k : Value → World → Prop} (E : ElT TL TE ks) (hL : ListC n TL TE) (hP : PassC np ks ws)
    (H : RdS h body w s fp) (B : Blk w lb lt lcs) (hlo : lcs[lo]? = some (.slice none 0 0)) (hlb : lb ∉ fp) (hw : ws.length = ks.length) (hN : N ≤ 1000) (hsz : s.1 + N * ws.sum ≤ 900000)
    (hm : ∀ i, i < N → rmore body (runRS (rstp body) ws s (List.replicate i (zs ks))) = true) (hn : rmore body (runRS (rstp body) ws s (List.replicate N (zs ks))) = false)
    (hk : ∀ w' v' fp', Ex (lb :: fp) w w' → RdS h body w' (runRS (rstp body) ws s (List.replicate N (zs ks))) fp' → (∀ x ∈ fp', x ∈ fp ∨ w.heap.size ≤ x) → (∀ g, v'.ownBlock = some g → g ∉ fp') → Own w' w.heap.size TE ks.length v' (rcs ks (runRV (rstp body) (rval body) ws s (List.replicate N (zs ks)))) → Blk w' lb lt (lcs.set lo v') → k (.tuple #[]) w') :
    wCall P n [.iface T_pcodec_reader (ptr h), .pointer (some ⟨lb, lo, none⟩), .func (.func np) #[] #[]] w k := by
  refine hL ?_
  unfold G_list
  have hlol := (List.getElem?_eq_some_iff.1 hlo).1
  refine j0_of (fun w' => w = w') (fun k1 hk1 => ?_) ?_
  · rw [nil_ptr, ld_one E.o ((B.cell lo).trans hlo), len_s E.u]
    refine loop_up 0 (fun i x w' => x = .int .i64 0 ∧ w = w') ⟨rfl, rfl⟩ ?_
    rintro i J x w1 k2 hi ⟨rfl, rfl⟩ hk2
    rw [bin_lss, wIf_df (by omega)]
    exact hk1 w rfl
  rintro J w1 rfl
  have hblt := B.lt
  refine loop_m0 (n := N) (fun m w' => ∃ i v fp1, m = N - i ∧ i ≤ N ∧ Ex (lb :: fp) w w' ∧ RdS h body w' (runRS (rstp body) ws s (List.replicate i (zs ks))) fp1 ∧ (∀ x ∈ fp1, x ∈ fp ∨ w.heap.size ≤ x) ∧ (∀ g, v.ownBlock = some g → g ∉ fp1) ∧ Own w' w.heap.size TE ks.length v (rcs ks (runRV (rstp body) (rval body) ws s (List.replicate i (zs ks)))) ∧ Blk w' lb lt (lcs.set lo v))
    ⟨0, .slice none 0 0, fp, rfl, Nat.zero_le _, Ex.refl _ _, H, fun x hx => .inl hx, by simp [Value.ownBlock], Own.nil _ _ _ _, by rw [set_same hlo]; exact B⟩ ?_
  rintro m J w1 k1 ⟨i, v, fp1, rfl, hi, hE1, H1, hfp1, hv1, hO1, B1⟩ hk1
  have l1 := hE1.le
  have hcell : ∀ v, (lcs.set lo v)[lo]? = some v := fun v => by simp [hlol]
  refine rmoreC H1 fun w2 hE2 => ?_
  have l2 := hE2.le
  rcases Nat.lt_or_ge i N with hlt | hge
  · rw [hm i hlt, wIf_t]
    have hb1 : lb ∉ fp1 := fun hmm => (hfp1 lb hmm).elim hlb fun h => by omega
    refine alloc_i E.z (vs := rc ks (zs ks)) rfl fun w3 g3 hg3 hE3 B3 => ?_
    have l3 := hE3.le
    rw [callv_0]
    have H3 := (H1.ex hE2 (by simp)).ex hE3 (by simp)
    have hbd1 := H3.bd
    have hg3fp : g3 ∉ fp1 := fun hmm => by have := (H1.ex hE2 (by simp)).bd g3 hmm; omega
    have hst := runRS_r_at (body := body) (s := s) (ks := ks) hw i
    have hmul : i * ws.sum ≤ N * ws.sum := Nat.mul_le_mul_right _ (by omega)
    refine hP (rform h body) (A := []) (C := []) H3 (by simpa using B3) hg3fp (zs_length ks) E.inz (show (runRS (rstp body) ws s (List.replicate i (zs ks))).1 ≤ 900000 by omega) fun w4 fp4 hE4 H4 hfp4 B4 => ?_
    have l4 := hE4.le
    simp only [List.nil_append, List.append_nil] at B4
    have B4 : Blk w4 g3 TE (rc ks (runV (rstp body) (rval body) (runRS (rstp body) ws s (List.replicate i (zs ks))) ws (zs ks))) := B4
    have hsnoc : runRS (rstp body) ws s (List.replicate (i + 1) (zs ks)) = runS (rstp body) (runRS (rstp body) ws s (List.replicate i (zs ks))) ws (zs ks) := by rw [List.replicate_succ', runRS_snoc]
    have hvsnoc : runRV (rstp body) (rval body) ws s (List.replicate (i + 1) (zs ks)) = runRV (rstp body) (rval body) ws s (List.replicate i (zs ks)) ++ [runV (rstp body) (rval body) (runRS (rstp body) ws s (List.replicate i (zs ks))) ws (zs ks)] := by rw [List.replicate_succ', runRV_snoc]
    generalize hvals : runV (rstp body) (rval body) (runRS (rstp body) ws s (List.replicate i (zs ks))) ws (zs ks) = vals at B4 hvsnoc
    have hvl : vals.length = ks.length := by rw [← hvals, runV_length _ _ _ _ _ (by rw [hw, zs_length]), zs_length]
    have hobd : ∀ g, v.ownBlock = some g → w.heap.size ≤ g ∧ g < w1.heap.size := fun g hg => ⟨(hO1.blk hg).1, (hO1.blk hg).2.1⟩
    have hO4 : Own w4 w.heap.size TE ks.length v (rcs ks (runRV (rstp body) (rval body) ws s (List.replicate i (zs ks)))) :=
      ((hO1.ex0 hE2).ex0 hE3).ex hE4 fun g hg hmm => by
        have := hobd g hg
        rcases List.mem_cons.1 hmm with rfl | hmm
        · omega
        · exact hv1 g hg hmm
    have Bl4 : Blk w4 lb lt (lcs.set lo v) := ((B1.ex hE2 (by simp)).ex hE3 (by simp)).ex hE4 (by simp; exact ⟨by omega, hb1⟩)
    refine draw_i fun w5 hE5 _ => ?_
    have l5 := hE5.le
    have B5 := B4.ex hE5 (by simp)
    have Bl5 := Bl4.ex hE5 (by simp)
    rw [nil_ptr, ld_one E.o ((Bl5.cell lo).trans (hcell v)), ld_agg E.g B5.all (rc_length hvl)]
    have hgl : (rc ks vals).length = ks.length := rc_length hvl
    refine buildS_1 (x := .agg ⟨rc ks vals⟩) (xs := rc ks vals) (size := ks.length) E.u E.sz E.z (by have := E.le; omega) rfl hgl (show (rc ks (zs ks)).length = _ from rc_length (zs_length ks)) fun w6 g6 hg6 hE6 B6 => ?_
    have l6 := hE6.le
    have Bl6 := Bl5.ex hE6 (by simp)
    refine ⟨keep_cons (loadAt_one E.o ((Bl6.cell lo).trans (hcell v))) keep_nil, ?_⟩
    have hrl : (rcs ks (runRV (rstp body) (rval body) ws s (List.replicate i (zs ks)))).length = i * ks.length := by
      rw [rcs_length (lenR_runRV hw _ s fun r hr => by rw [List.mem_replicate] at hr; rw [hr.2, zs_length]), runRV_length, List.length_replicate]
    refine E.app (n := i) (m := 1) ((hO4.ex0 hE5).ex0 hE6) (SlG.of_cs B6.all (by rw [hgl]; omega) (Nat.le_refl _)) hrl (by rw [hgl]; omega) (rc_isC _ _) (by omega) (by omega) fun v' w7 hO7 hE7 hv7 => ?_
    have l7 := hE7.le
    have hne : ∀ x ∈ v.ownBlock.toList, w.heap.size ≤ x ∧ x < w1.heap.size := fun x hx => by
      cases hvo : v.ownBlock with
      | none => rw [hvo] at hx; simp at hx
      | some g => rw [hvo] at hx; simp at hx; subst hx; exact hobd _ hvo
    have Bl7 := Bl6.ex hE7 fun hmm => by have := hne _ hmm; omega
    rw [nil_ptr]
    have hcv : isC v' = true := by
      obtain ⟨m', hl', hv'⟩ := hO7
      rcases hv' with ⟨rfl, _⟩ | ⟨g, cap, cur, rfl, _⟩ <;> rfl
    refine st_one E.o hcv Bl7 (by simpa using hlol) fun w8 hE8 B8 => ?_
    rw [List.set_set] at B8
    have hfp47 : ∀ x ∈ fp4, x < w4.heap.size := fun x hx => H4.bd x hx
    have hv4 : ∀ g, v.ownBlock = some g → g ∉ fp4 := fun g hg hmm => by
      rcases hfp4 g hmm with h | h
      · exact hv1 g hg h
      · have := hobd g hg; omega
    have H7 : RdS h body w7 _ fp4 := ((H4.ex hE5 (by simp)).ex hE6 (by simp)).ex hE7 fun x hx hmm => by
      cases hvo : v.ownBlock with
      | none => rw [hvo] at hx; simp at hx
      | some g => rw [hvo] at hx; simp at hx; subst hx; exact hv4 _ hvo hmm
    have hlb4 : lb ∉ fp4 := fun hmm => by
      rcases hfp4 lb hmm with h | h
      · exact hb1 h
      · omega
    have hown7 : ∀ g, v'.ownBlock = some g → w.heap.size ≤ g ∧ g ∉ fp4 := fun g hg => by
      rcases hv7 with h | h
      · exact ⟨(hO7.blk hg).1, hv4 g (by rw [← h]; exact hg)⟩
      · rw [h] at hg; injection hg with hg
        exact ⟨by omega, fun hmm => by have := hfp47 g hmm; omega⟩
    refine hk1 (N - (i + 1)) w8 (by omega) ⟨i + 1, v', fp4, rfl, by omega, ?_, ?_, ?_, fun g hg => (hown7 g hg).2, ?_, B8⟩
    · refine ((((((hE1.trans hE2.nil).trans hE3.nil).step hE4 ?_).trans hE5.nil).trans hE6.nil).step hE7 fun x hx => .inr (hne x hx).1).step hE8 (by simp)
      intro x hx
      rcases List.mem_cons.1 hx with rfl | hx
      · exact .inr (by omega)
      · rcases hfp1 x hx with h | h
        · exact .inl (by simp [h])
        · exact .inr h
    · rw [hsnoc]
      exact H7.ex hE8 (by simpa using hlb4)
    · intro x hx
      rcases hfp4 x hx with h | h
      · exact hfp1 x h
      · exact .inr (by omega)
    · rw [hvsnoc, rcs_append, rcs_one]
      exact hO7.ex hE8 fun g hg hmm => by have := (hown7 g hg).1; simp at hmm; omega
  · obtain rfl : i = N := by omega
    rw [hn, wIf_f]
    exact hk w2 v fp1 (hE1.trans hE2.nil) (H1.ex hE2 (by simp)) hfp1 hv1 (hO1.ex0 hE2) (B1.ex hE2 (by simp))
end
end Go.Dn
