import Derived.Test.YtflnhihdbhjlnaaCread
/-! Records are read; what may be; the inode's pass. -/
set_option maxRecDepth 10000
set_option linter.unusedVariables false
set_option linter.unusedSimpArgs false
namespace Go.Dn
open Go
section
variable {w : World}
theorem st_all {k : World → Prop} {g : Nat} {u t : TypeId} {n : Nat} {cs vs : List Value} (hT : aggT P t n = true) (hl : vs.length = n) (hc : ∀ v ∈ vs, isC v = true) (B : Blk w g u cs) (hn : cs.length = n) (hk : ∀ w', Ex [g] w w' → Blk w' g u vs → k w') : wStore P t (ptr g) (.agg ⟨vs⟩) w k := by
  refine st_agg hT hl hc B (by omega) fun w' hE B' => hk w' hE ?_
  rw [splice_front hl (by omega), List.drop_of_length_le (by omega), List.append_nil] at B'
  exact B'
/-- A record is read. -/
theorem read_rec {TX : TypeId} {n np : FuncId} {ks : List IntKind} {ws : List Nat} {kind : Nat} {a3 : Value} {s : List Nat} {m : List Int → Bool} {k : Value → World → Prop} (hW : ∀ {a0 a1 a2 a3 : Value} {w : World} {k : Value → World → Prop}, G_readS TX a0 a1 a2 a3 w k → wCall P n [a0, a1, a2, a3] w k)
    (hT : aggT P TX ks.length = true) (hz : zeroT P TX = some (.agg ⟨rc ks (zs ks)⟩)) (hinz : inR ks (zs ks)) (hP : PassC np ks ws) (hw : ws.length = ks.length) (hws : 0 < ws.sum ∧ ws.sum ≤ 120) (hs : s.length = 128) (hb : ∀ b ∈ s, b < 256) (hkd : kind < 256)
    (hmay : ∀ (r : List Int) (w1 : World) (k1 : Value → World → Prop), r.length = ks.length → (∀ w', Ex [] w1 w' → k1 (.bool (m r)) w') → wCallV P a3 [.agg ⟨rc ks r⟩] w1 k1)
    (hbad : readR kind ws m s = none → ∀ w', Ex [] w w' → k (.tuple #[.agg ⟨rc ks (zs ks)⟩, .int .i64 21]) w')
    (hk : ∀ r, readR kind ws m s = some r → ∀ w', Ex [] w w' → k (.tuple #[.agg ⟨rc ks r⟩, .int .i64 0]) w') : wCall P n [.int .u8 (kind : Int), sv s, .func (.func np) #[] #[], a3] w k := by
  refine hW ?_
  unfold G_readS
  have hzl : (rc ks (zs ks)).length = ks.length := rc_length (zs_length ks)
  refine box_i (sv_cells s) fun w1 g1 hg1 hE1 B1 => ?_
  refine alloc_i hz (vs := rc ks (zs ks)) rfl fun w2 g2 hg2 hE2 B2 => ?_
  refine alloc_i hz (vs := rc ks (zs ks)) rfl fun w3 g3 hg3 hE3 B3 => ?_
  refine alloc_i hz (vs := rc ks (zs ks)) rfl fun w4 g4 hg4 hE4 B4 => ?_
  have l1 := hE1.le
  have l2 := hE2.le
  have l3 := hE3.le
  have l4 := hE4.le
  have lt1 := B1.lt
  have lt2 := B2.lt
  have lt3 := B3.lt
  have B24 := (B2.ex hE3 (by simp)).ex hE4 (by simp)
  have B34 := B3.ex hE4 (by simp)
  rw [ld_sector g_T_api_Sector hs (((B1.ex hE2 (by simp)).ex hE3 (by simp)).ex hE4 (by simp))]
  have E4 : Ex [] w w4 := ((hE1.trans hE2).trans hE3).trans hE4
  have out : ∀ w5 g r e, Ex [] w w5 → Blk w5 g2 TX (rc ks (zs ks)) → Blk w5 g TX (rc ks r) → r.length = ks.length → (∀ w', Ex [] w w' → k (.tuple #[.agg ⟨rc ks r⟩, .int .i64 e]) w') →
      (wLoad P TX (ptr g) w5 fun t29 w => wStore P TX (ptr g2) t29 w fun w => wRes P TX (ptr g2) w fun r8 => k (.tuple #[r8, (.int .i64 e)]) w) := by
    intro w5 g r e hE5 B5 Bg hr hk'
    rw [ld_aggT hT (rc_length hr) _ _ _ Bg]
    refine st_all hT (rc_length hr) (rc_isC _ _) B5 hzl fun w6 hE6 B6 => ?_
    refine res_agg hT B6.all (rc_length hr) ?_
    exact hk' w6 (hE5.new hE6 (by omega))
  refine seal_Open hs hb (fun hno w5 hE5 => ?_) (fun kd body hop bv w5 hE5 hO5 => ?_)
  · rw [ext_0, ext_1, ext_2, bin_neq]
    refine or_i (r := true) (fun h => absurd h (by simp)) ?_
    rw [Bool.or_true, wIf_t]
    exact out w5 g4 _ _ (E4.trans hE5) (B24.ex hE5 (by simp)) (B4.ex hE5 (by simp)) (zs_length ks) (hbad (by simp [readR, hno]))
  · have l5 := hE5.le
    have E5 : Ex [] w w5 := E4.trans hE5
    have hbl := sealOp_len hop
    have hbt := sealOp_lt hb hop
    have B25 := B24.ex hE5 (by simp)
    have B35 := B34.ex hE5 (by simp)
    have B45 := B4.ex hE5 (by simp)
    rw [ext_0, ext_1, ext_2, bin_neq]
    refine or_i (r := decide (((kd : Nat) : Int) ≠ (kind : Int))) (fun _ k' hk' => by rw [bin_neq]; exact hk') ?_
    rw [show decide ((0 : Int) ≠ 0) = false from by decide, Bool.false_or]
    refine wIf_d (fun hne => ?_) (fun heq => ?_)
    · have hne : kd ≠ kind := by omega
      exact out w5 g4 _ _ E5 B25 B45 (zs_length ks) (hbad (by simp [readR, hop, hne]))
    · have hkk : kd = kind := by omega
      subst hkk
      refine rd_new (hO5.base (Nat.zero_le _)) hbt.2 hbl fun w6 h hh hE6 H6 => ?_
      have l6 := hE6.le
      rw [iface_i u_preader, callv_0]
      have hfp : ∀ x ∈ h :: bv.ownBlock.toList, w4.heap.size ≤ x := by
        intro x hx
        rcases List.mem_cons.1 hx with rfl | hx
        · omega
        · exact (hO5.newb x hx).1
      refine hP (rform h body) (A := []) (C := []) H6 (by simpa using B35.ex hE6 (by simp)) (fun hmm => by have := hfp _ hmm; omega) (zs_length ks) hinz (show (0 : Nat) ≤ 900000 by omega) fun w7 fp7 hE7 H7 hfp7 B7 => ?_
      have l7 := hE7.le
      have lt4 := B4.lt
      have off : ∀ x, x < w4.heap.size → x ≠ g3 → x ∉ (g3 :: h :: bv.ownBlock.toList) := by
        intro x hx hne hmm
        rcases List.mem_cons.1 hmm with hmm | hmm
        · exact hne hmm
        · have := hfp x hmm; omega
      have E7 : Ex [] w w7 := (E5.trans hE6).step hE7 fun x hx => by
        rcases List.mem_cons.1 hx with rfl | hx
        · exact .inr (by omega)
        · have := hfp x hx; exact .inr (by omega)
      have hE7' : ∀ x, x < w4.heap.size → x ≠ g3 → ∀ {u cs}, Blk w6 x u cs → Blk w7 x u cs := fun x hx hne u cs B => B.ex hE7 (off x hx hne)
      have B27 := hE7' g2 (by omega) (by omega) (B25.ex hE6 (by simp))
      have B47 := hE7' g4 (by omega) (by omega) (B45.ex hE6 (by simp))
      have B7 : Blk w7 g3 TX (rc ks (runV (rstp body) (rval body) (0, false) ws (zs ks))) := by simp only [List.nil_append, List.append_nil] at B7; exact B7
      obtain ⟨bv', hBr, hSr, _, _, hner, _⟩ := H7
      have hlen : ∀ (K : Value → World → Prop), wLen P .len #[T_Luint8] [bv] w7 K = K (.int .i64 (body.length : Int)) w7 := by
        intro K
        obtain ⟨A, c, e⟩ := hO5.slice (by omega) (n := body.length) (by rw [bvs_length]; omega)
        rw [e, len_s u_T_Luint8]
      have hwz : ws.length = (zs ks).length := by rw [hw, zs_length]
      have hst := runS_r body ws (zs ks) (0, false) hwz
      simp only [Nat.zero_add] at hst
      have hBr : Blk w7 h T_codec_reader [bv', .int .i64 ((runS (rstp body) (0, false) ws (zs ks)).1 : Int), .bool (runS (rstp body) (0, false) ws (zs ks)).2] := hBr
      rw [hst.1] at hBr
      simp only [nil_ptr, fA_T_codec_reader_1, fA_T_codec_reader_2, Nat.zero_add]
      rw [ld_one o_T_bool (hBr.cell 2)]
      have hwne : ws ≠ [] := fun h => by rw [h] at hws; simp at hws
      have hbd : (runS (rstp body) (0, false) ws (zs ks)).2 = decide (body.length < ws.sum) := by
        rw [Bool.eq_iff_iff, hst.2, decide_eq_true_eq]
        simp [hwne]
      rw [hbd]
      refine or_i (r := decide ((ws.sum : Int) ≠ (body.length : Int))) (fun _ k' hk' => ?_) ?_
      · rw [ld_one o_T_int (hBr.cell 1), hlen, bin_neq]
        exact hk'
      have hcond : (decide (body.length < ws.sum) || decide ((ws.sum : Int) ≠ (body.length : Int))) = decide (body.length ≠ ws.sum) := by
        rw [Bool.eq_iff_iff]; simp; omega
      rw [hcond]
      by_cases heq : body.length = ws.sum
      · rw [decide_eq_false (by simpa using heq)]
        have hrv : runV (rstp body) (rval body) (0, false) ws (zs ks) = decF ws body := by
          have := runV_r body ws (zs ks) (0, false) hwz (by simp only; omega)
          simpa using this
        rw [hrv] at B7
        have hdl : (decF ws body).length = ks.length := by rw [decF_length, hw]
        refine or_w (r := !(m (decF ws body))) (fun _ k' hk' => ?_) fun w8 hE8 => ?_
        · rw [ld_aggT hT (rc_length hdl) _ _ _ B7]
          refine hmay _ w7 _ hdl fun w8 hE8 => ?_
          rw [un_not]
          exact hk' w8 hE8
        rw [Bool.false_or]
        refine wIf_i _ (fun hc => ?_) (fun hc => ?_)
        · have hc : m (decF ws body) = false := by simpa using hc
          exact out w8 g4 _ _ (E7.trans hE8) (B27.ex hE8 (by simp)) (B47.ex hE8 (by simp)) (zs_length ks) (hbad (by simp [readR, hop, hc]))
        · have hc : m (decF ws body) = true := by simpa using hc
          exact out w8 g3 _ _ (E7.trans hE8) (B27.ex hE8 (by simp)) (B7.ex hE8 (by simp)) hdl (hk _ (by simp [readR, hop, hc, heq]))
      · rw [decide_eq_true (by simpa using heq)]
        refine or_i (r := true) (fun h => by cases h) ?_
        rw [Bool.or_true, wIf_t]
        exact out w7 g4 _ _ E7 B27 B47 (zs_length ks) (hbad (by simp [readR, hop, heq]))
theorem codec_among {n a b : Int} {k : Value → World → Prop} (hk : k (.bool (decide (a ≤ n) && decide (n ≤ b))) w) : wCall P n_codec_among [.int .i64 n, .int .i64 a, .int .i64 b] w k := by
  refine call_codec_among _ _ _ ?_
  unfold F_codec_among
  simp only [bin_geq, bin_leq, and_p]
  exact hk
theorem rc_get {ks : List IntKind} {r : List Int} {j : Nat} (hr : r.length = ks.length) (hk : ks[j]? = some .i64) : (rc ks r)[j]? = some (.int .i64 (r.getD j 0)) := by
  have h1 := (List.getElem?_eq_some_iff.1 hk).1
  have h2 := (List.getElem?_eq_some_iff.1 hk).2
  unfold rc
  rw [List.getElem?_eq_getElem (by simp; omega), List.getElem_zipWith, h2, List.getD_eq_getElem?_getD, List.getElem?_eq_getElem (by omega)]
  rfl
/-- May a record be? Its j-th number is among two. -/
def mayB (j : Nat) (a b : Int) (r : List Int) : Bool := decide (a ≤ r.getD j 0) && decide (r.getD j 0 ≤ b)
theorem may_field {TX : TypeId} {ks : List IntKind} {j i : Nat} {a b : Int} {r : List Int} {k : Value → World → Prop} (hr : r.length = ks.length) (hkj : ks[j]? = some .i64) (hf : fldT P TX i = some j) (hk : ∀ w', Ex [] w w' → k (.bool (mayB j a b r)) w') :
    wBox P TX (.agg ⟨rc ks r⟩) w fun t1 w => wFieldA P TX t1 i w fun t3 w => wLoad P T_int t3 w fun t4 w => wCall P n_codec_among [t4, .int .i64 a, .int .i64 b] w fun t5 w => k t5 w := by
  refine box_i (vs := rc ks r) rfl fun w1 g1 hg1 hE1 B1 => ?_
  rw [fieldA_i hf, Nat.zero_add, ld_one o_T_int ((B1.cell j).trans (rc_get hr hkj))]
  exact codec_among (hk w1 hE1)
def G_each (TL TE TF : TypeId) (a0 a1 a2 : Value) (w : World) (k : Value → World → Prop) : Prop :=
  wJ0 (fun k1 =>
    wLen P .len #[TL] [a0] w fun t8 w =>
    wL1 (.int .i64 0) w (fun _ v9 w k2 =>
      wBin P .lss T_int v9 t8 w fun t10 w =>
      wIf t10 (
        wIndexA P TL a0 v9 w fun t11 w =>
        wLoad P TE t11 w fun t12 w =>
        wAlloc P TE w fun t6 w =>
        wStore P TE t6 t12 w fun w =>
        wLoad P TF a1 w fun t13 w =>
        wLoad P TE t6 w fun t14 w =>
        wCallV P t13 [t14] w fun t15 w =>
        wUn P .not t15 w fun t16 w =>
        wIf t16 (
          k (.bool false) w) (
          wBin P .add T_int v9 (.int .i64 1) w fun t17 w =>
          k2 t17 w)) (
        k1 w))) fun _ w =>
  wLen P .len #[TL] [a0] w fun t19 w =>
  wLoad P T_int a2 w fun t20 w =>
  wBin P .leq T_int t19 t20 w fun t21 w =>
  k t21 w
theorem rcs_elem {ks : List IntKind} {rs : List (List Int)} (hlen : lenR ks rs) {i : Nat} (h : i < rs.length) : ((rcs ks rs).drop (i * ks.length)).take ks.length = rc ks rs[i] := by
  have htl : lenR ks (rs.take i) := fun r hr => hlen r (List.mem_of_mem_take hr)
  have e : rcs ks rs = rcs ks (rs.take i) ++ (rc ks rs[i] ++ rcs ks (rs.drop (i + 1))) := by
    conv => lhs; rw [← List.take_append_drop i rs, List.drop_eq_getElem_cons h, rcs_append, rcs_cons]
  rw [e, List.drop_left' (by rw [rcs_length htl, List.length_take, Nat.min_eq_left (by omega)]), List.take_left' (rc_length (hlen _ (List.getElem_mem h)))]
theorem each_i {TL TE TF : TypeId} {ks : List IntKind} {v fv : Value} {g2 g3 : Nat} {most : Int} {rs : List (List Int)} {p : List Int → Bool} {k : Value → World → Prop} (E : ElT TL TE ks) (hoF : oneT P TF = true) (S : SlG w ks.length v (rcs ks rs)) (hlen : lenR ks rs) (hn : rs.length ≤ 1000000)
    (B3 : Blk w g3 TF [fv]) (B2 : Blk w g2 T_int [.int .i64 most]) (hp : ∀ r ∈ rs, ∀ (w1 : World) (k1 : Value → World → Prop), (∀ w', Ex [] w1 w' → k1 (.bool (p r)) w') → wCallV P fv [.agg ⟨rc ks r⟩] w1 k1)
    (hk : ∀ w', Ex [] w w' → k (.bool (rs.all p && decide ((rs.length : Int) ≤ most))) w') : G_each TL TE TF v (ptr g3) (ptr g2) w k := by
  unfold G_each
  refine j0_of (fun w' => Ex [] w w' ∧ rs.all p = true) (fun k1 hk1 => ?_) ?_
  · rw [S.len_i E.u E.pos (rcs_length hlen)]
    refine loop_up rs.length (fun i x w' => x = .int .i64 (i : Int) ∧ Ex [] w w' ∧ (rs.take i).all p = true) ⟨rfl, Ex.refl _ _, by simp⟩ ?_
    rintro i J x w1 k2 hi ⟨rfl, hE1, hall⟩ hk2
    rw [bin_lss]
    refine wIf_d (fun hlt => ?_) (fun hge => ?_)
    · have hlt : i < rs.length := by omega
      have hrl := hlen _ (List.getElem_mem hlt)
      refine (S.ex0 hE1).ix E.s E.pos (rcs_length hlen) (by omega) (by omega) fun b o hcs => ?_
      rw [Int.toNat_natCast, rcs_elem hlen hlt] at hcs
      rw [ld_agg E.g hcs (rc_length hrl)]
      refine alloc_i E.z (vs := rc ks (zs ks)) rfl fun w2 g6 hg6 hE2 B6 => ?_
      refine st_all E.g (rc_length hrl) (rc_isC _ _) B6 (rc_length (zs_length ks)) fun w3 hE3 B63 => ?_
      have l1 := hE1.le
      have E3 : Ex [] w1 w3 := hE2.new hE3 (by omega)
      rw [ld_one hoF (((B3.ex hE1 (by simp)).ex E3 (by simp)).cell 0), ld_aggT E.g (rc_length hrl) _ _ _ B63]
      refine hp _ (List.getElem_mem hlt) w3 _ fun w4 hE4 => ?_
      rw [un_not]
      have E4 := (hE1.trans E3).trans hE4
      refine wIf_i _ (fun hc => ?_) (fun hc => ?_)
      · have hc : p rs[i] = false := by simpa using hc
        have := hk w4 E4
        have hf : rs.all p = false := by
          rw [List.all_eq_false]
          exact ⟨rs[i], List.getElem_mem hlt, by simp [hc]⟩
        rw [hf, Bool.false_and] at this
        exact this
      · have hc : p rs[i] = true := by simpa using hc
        rw [bin_add (by omega)]
        refine hk2 _ _ (by omega) ⟨by simp, E4, ?_⟩
        rw [takeR hlt, List.all_append, hall]
        simp [hc]
    · obtain rfl : i = rs.length := by omega
      rw [List.take_length] at hall
      exact hk1 w1 ⟨hE1, hall⟩
  · rintro J w1 ⟨hE1, hall⟩
    rw [(S.ex0 hE1).len_i E.u E.pos (rcs_length hlen), ld_one o_T_int ((B2.ex hE1 (by simp)).cell 0), bin_leq]
    have := hk w1 hE1
    rw [hall, Bool.true_and] at this
    exact this
def LInode1 : List (IntKind × Nat × Nat) := [(.u32, 2, 0), (.u32, 4, 1), (.i64, 1, 2), (.i64, 4, 3), (.u32, 4, 4)]
def LInode2 : List (IntKind × Nat × Nat) := [(.i64, 4, 6), (.i64, 4, 7)]
theorem ok_LInode1 : fldOk T_codec_Inode 0 LInode1 := by unfold LInode1 fldOk; repeat' first | exact trivial | (refine ⟨by kernel_rfl, by (unfold widOk; decide), ?_⟩; unfold fldOk)
theorem ok_LInode2 : fldOk T_codec_Inode 13 LInode2 := by unfold LInode2 fldOk; repeat' first | exact trivial | (refine ⟨by kernel_rfl, by (unfold widOk; decide), ?_⟩; unfold fldOk)
def kInode : List IntKind := [.u32, .u32, .i64, .i64, .u32, .i64, .i64, .i64, .i64, .i64, .i64, .i64, .i64, .i64, .i64]
def wInode : List Nat := [2, 4, 1, 4, 4, 4, 4, 4, 4, 4, 4, 4, 4, 4, 4]
end
end Go.Dn
