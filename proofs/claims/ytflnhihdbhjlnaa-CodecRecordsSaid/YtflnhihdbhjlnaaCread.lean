import Derived.Test.YtflnhihdbhjlnaaCwrite
/-! Records and lists of records are read. -/
set_option maxRecDepth 10000
set_option linter.unusedVariables false
set_option linter.unusedSimpArgs false
namespace Go.Dn
open Go
def G_readS (TX : TypeId) (a0 a1 a2 a3 : Value) (w : World) (k : Value → World → Prop) : Prop :=
  wBox P T_api_Sector a1 w fun t5 w =>
  wAlloc P TX w fun t8 w =>
  wAlloc P TX w fun t10 w =>
  wAlloc P TX w fun t11 w =>
  wLoad P T_api_Sector t5 w fun t17 w =>
  wCall P n_seal_Open [t17] w fun t18 w =>
  wExtract P t18 0 w fun t19 w =>
  wExtract P t18 1 w fun t20 w =>
  wExtract P t18 2 w fun t21 w =>
  wBin P .neq T_api_Errno t21 (.int .i64 0) w fun t23 w =>
  wGrp t23 false (fun k27 =>
    wBin P .neq T_uint8 t19 a0 w fun t27 w =>
    k27 t27 w) w fun _ t27 w =>
  wPick t23 (.bool true) t27 w fun t28 w =>
  wIf t28 (
    wLoad P TX t11 w fun t29 w =>
    wStore P TX t8 t29 w fun w =>
    wRes P TX t8 w fun r8 =>
    k (.tuple #[r8, (.int .i64 21)]) w) (
    wBuild P T_codec_reader [(0, t20)] w fun t31 w =>
    wBox P T_codec_reader t31 w fun t32 w =>
    wIface P T_pcodec_reader t32 w fun t35 w =>
    wCallV P a2 [t35, t10] w fun _ w =>
    wNil P t32 w fun t38 w =>
    wFieldA P T_codec_reader t38 2 w fun t39 w =>
    wLoad P T_bool t39 w fun t40 w =>
    wGrp t40 false (fun k48 =>
      wNil P t32 w fun t43 w =>
      wFieldA P T_codec_reader t43 1 w fun t44 w =>
      wLoad P T_int t44 w fun t45 w =>
      wLen P .len #[T_Luint8] [t20] w fun t47 w =>
      wBin P .neq T_int t45 t47 w fun t48 w =>
      k48 t48 w) w fun _ t48 w =>
    wPick t40 (.bool true) t48 w fun t49 w =>
    wGrp t49 false (fun k54 =>
      wLoad P TX t10 w fun t52 w =>
      wCallV P a3 [t52] w fun t53 w =>
      wUn P .not t53 w fun t54 w =>
      k54 t54 w) w fun _ t54 w =>
    wPick t49 (.bool true) t54 w fun t55 w =>
    wIf t55 (
      wLoad P TX t11 w fun t56 w =>
      wStore P TX t8 t56 w fun w =>
      wRes P TX t8 w fun r8 =>
      k (.tuple #[r8, (.int .i64 21)]) w) (
      wLoad P TX t10 w fun t57 w =>
      wStore P TX t8 t57 w fun w =>
      wRes P TX t8 w fun r8 =>
      k (.tuple #[r8, (.int .i64 0)]) w))
def G_readL (TX : TypeId) (a0 a1 a2 a3 : Value) (w : World) (k : Value → World → Prop) : Prop :=
  wBox P T_api_Sector a1 w fun t5 w =>
  wAlloc P TX w fun t10 w =>
  wLoad P T_api_Sector t5 w fun t17 w =>
  wCall P n_seal_Open [t17] w fun t18 w =>
  wExtract P t18 0 w fun t19 w =>
  wExtract P t18 1 w fun t20 w =>
  wExtract P t18 2 w fun t21 w =>
  wBin P .neq T_api_Errno t21 (.int .i64 0) w fun t23 w =>
  wGrp t23 false (fun k27 =>
    wBin P .neq T_uint8 t19 a0 w fun t27 w =>
    k27 t27 w) w fun _ t27 w =>
  wPick t23 (.bool true) t27 w fun t28 w =>
  wIf t28 (
    k (.tuple #[(.slice none 0 0), (.int .i64 21)]) w) (
    wBuild P T_codec_reader [(0, t20)] w fun t31 w =>
    wBox P T_codec_reader t31 w fun t32 w =>
    wIface P T_pcodec_reader t32 w fun t35 w =>
    wCallV P a2 [t35, t10] w fun _ w =>
    wNil P t32 w fun t38 w =>
    wFieldA P T_codec_reader t38 2 w fun t39 w =>
    wLoad P T_bool t39 w fun t40 w =>
    wGrp t40 false (fun k48 =>
      wNil P t32 w fun t43 w =>
      wFieldA P T_codec_reader t43 1 w fun t44 w =>
      wLoad P T_int t44 w fun t45 w =>
      wLen P .len #[T_Luint8] [t20] w fun t47 w =>
      wBin P .neq T_int t45 t47 w fun t48 w =>
      k48 t48 w) w fun _ t48 w =>
    wPick t40 (.bool true) t48 w fun t49 w =>
    wGrp t49 false (fun k54 =>
      wLoad P TX t10 w fun t52 w =>
      wCallV P a3 [t52] w fun t53 w =>
      wUn P .not t53 w fun t54 w =>
      k54 t54 w) w fun _ t54 w =>
    wPick t49 (.bool true) t54 w fun t55 w =>
    wIf t55 (
      k (.tuple #[(.slice none 0 0), (.int .i64 21)]) w) (
      wLoad P TX t10 w fun t57 w =>
      k (.tuple #[t57, (.int .i64 0)]) w))
theorem sealOp_len {s : List Nat} {kind : Nat} {body : List Nat} (h : sealOp s = some (kind, body)) : body.length ≤ 120 := (sealOp_some h).2.1
theorem sealOp_lt {s : List Nat} (hb : ∀ b ∈ s, b < 256) {kind : Nat} {body : List Nat} (h : sealOp s = some (kind, body)) : kind < 256 ∧ ∀ b ∈ body, b < 256 := by
  unfold sealOp at h
  split at h
  · cases h
  · split at h
    · injection h with h
      injection h with h1 h2
      subst h1; subst h2
      exact ⟨getD_lt hb 2, bodyS_lt hb⟩
    · cases h
/-- How many records a form that reads goes through. -/
theorem rd_count {ks : List IntKind} {ws : List Nat} (body : List Nat) (hw : ws.length = ks.length) (hpos : 0 < ws.sum) (hl : body.length ≤ 120) :
    ∃ N, N ≤ 121 ∧ (∀ i, i < N → rmore body (runRS (rstp body) ws (0, false) (List.replicate i (zs ks))) = true) ∧ rmore body (runRS (rstp body) ws (0, false) (List.replicate N (zs ks))) = false ∧
      ((recsOf ws body = none ∧ (runRS (rstp body) ws (0, false) (List.replicate N (zs ks))).2 = true) ∨
       (∃ rs, recsOf ws body = some rs ∧ runRS (rstp body) ws (0, false) (List.replicate N (zs ks)) = (body.length, false) ∧ runRV (rstp body) (rval body) ws (0, false) (List.replicate N (zs ks)) = rs)) := by
  have hne : ws ≠ [] := fun h => by rw [h] at hpos; simp at hpos
  have st : ∀ i, i * ws.sum ≤ body.length → runRS (rstp body) ws (0, false) (List.replicate i (zs ks)) = (i * ws.sum, false) ∧ runRV (rstp body) (rval body) ws (0, false) (List.replicate i (zs ks)) = decR ws body i := by
    intro i
    induction i with
    | zero => intro _; exact ⟨by simp [runRS], rfl⟩
    | succ i ih =>
      intro h
      rw [Nat.succ_mul] at h
      obtain ⟨h1, h2⟩ := ih (by omega)
      have hr := runS_r body ws (zs ks) (i * ws.sum, false) (by rw [hw, zs_length])
      refine ⟨?_, ?_⟩
      · rw [List.replicate_succ', runRS_snoc, h1]
        refine Prod.ext ?_ ?_
        · rw [hr.1, Nat.succ_mul]
        · cases hb : (runS (rstp body) (i * ws.sum, false) ws (zs ks)).2 with
          | false => rfl
          | true =>
            rcases hr.2.1 hb with h' | ⟨_, h'⟩
            · cases h'
            · exfalso; simp only at h'; omega
      · rw [List.replicate_succ', runRV_snoc, h1, h2, decR_snoc, runV_r body ws (zs ks) (i * ws.sum, false) (by rw [hw, zs_length]) (by simp only; omega)]
  have hdm := Nat.div_add_mod body.length ws.sum
  have hmod := Nat.mod_lt body.length hpos
  have hq : body.length / ws.sum ≤ body.length := Nat.div_le_self _ _
  have hmul : body.length / ws.sum * ws.sum = ws.sum * (body.length / ws.sum) := Nat.mul_comm _ _
  have more : ∀ i, i * ws.sum < body.length → rmore body (runRS (rstp body) ws (0, false) (List.replicate i (zs ks))) = true := by
    intro i hi
    rw [(st i (by omega)).1]
    simp [rmore, hi]
  by_cases h0 : body.length % ws.sum = 0
  · refine ⟨body.length / ws.sum, by omega, fun i hi => more i ?_, ?_, .inr ⟨decR ws body (body.length / ws.sum), ?_, ?_, ?_⟩⟩
    · have := Nat.mul_le_mul_right ws.sum (show i + 1 ≤ body.length / ws.sum by omega)
      rw [Nat.succ_mul] at this
      omega
    · rw [(st _ (by omega)).1]
      simp [rmore]; omega
    · unfold recsOf; rw [if_pos h0]
    · rw [(st _ (by omega)).1]
      congr 1
      omega
    · exact (st _ (by omega)).2
  · have hs := st (body.length / ws.sum) (by omega)
    have hr := runS_r body ws (zs ks) (body.length / ws.sum * ws.sum, false) (by rw [hw, zs_length])
    have hbad : (runRS (rstp body) ws (0, false) (List.replicate (body.length / ws.sum + 1) (zs ks))).2 = true := by
      rw [List.replicate_succ', runRS_snoc, hs.1]
      exact hr.2.2 (.inr ⟨hne, by simp only; omega⟩)
    refine ⟨body.length / ws.sum + 1, by omega, fun i hi => more i ?_, ?_, .inl ⟨by unfold recsOf; rw [if_neg h0], hbad⟩⟩
    · have := Nat.mul_le_mul_right ws.sum (show i ≤ body.length / ws.sum by omega)
      omega
    · unfold rmore
      rw [hbad]; rfl
section
variable {w : World}
theorem rd_new {bv : Value} {body : List Nat} {K : Value → World → Prop} (hO : Own w 0 T_uint8 1 bv (bvs body)) (hb : ∀ b ∈ body, b < 256) (hl : body.length ≤ 120)
    (hk : ∀ w' h, w.heap.size ≤ h → Ex [] w w' → RdS h body w' (0, false) (h :: bv.ownBlock.toList) → K (ptr h) w') :
    wBuild P T_codec_reader [(0, bv)] w fun t31 w => wBox P T_codec_reader t31 w K := by
  have hbc : bv.cells = ⟨[bv]⟩ := by
    obtain ⟨n, hl, h⟩ := hO
    rcases h with ⟨rfl, _⟩ | ⟨g, cap, cur, rfl, _⟩ <;> rfl
  rw [bl_T_codec_reader (cs := [bv, .int .i64 0, .bool false]) (by rw [fill_cons (off := 0) (size := 1) rfl hbc rfl (by simp)]; exact fill_nil)]
  refine box_i (vs := [bv, .int .i64 0, .bool false]) rfl fun w1 g1 hg1 hE1 B1 => ?_
  refine hk w1 g1 (by omega) hE1 ⟨bv, B1, (hO.ex0 hE1).slg, hb, by omega, fun g hg => ?_, rfl⟩
  have := (hO.blk hg).2.1
  have := B1.lt
  have := hE1.le
  exact ⟨by omega, by omega⟩
/-- A list of records is read. -/
theorem read_list {TL TE : TypeId} {n nl np nP : FuncId} {ks : List IntKind} {ws : List Nat} {kind : Nat} {a3 : Value} {s : List Nat} {m : List (List Int) → Bool} {k : Value → World → Prop} (hW : ∀ {a0 a1 a2 a3 : Value} {w : World} {k : Value → World → Prop}, G_readL TL a0 a1 a2 a3 w k → wCall P n [a0, a1, a2, a3] w k)
    (E : ElT TL TE ks) (hzL : zeroT P TL = some (.slice none 0 0)) (hL : ListC nl TL TE) (hP : PassC np ks ws) (hpL : ∀ {a0 a1 : Value} {w : World} {k : Value → World → Prop}, (wCall P nl [a0, a1, (.func (.func np) #[] #[])] w fun _ w => k (.tuple #[]) w) → wCall P nP [a0, a1] w k)
    (hw : ws.length = ks.length) (hws : 0 < ws.sum ∧ ws.sum ≤ 1000) (hs : s.length = 128) (hb : ∀ b ∈ s, b < 256) (hkd : kind < 256)
    (hmay : ∀ (w1 : World) (rs : List (List Int)) (v : Value) (base : Nat) (k1 : Value → World → Prop), Own w1 base TE ks.length v (rcs ks rs) → lenR ks rs → rs.length ≤ 1000 → (∀ w', Ex [] w1 w' → k1 (.bool (m rs)) w') → wCallV P a3 [v] w1 k1)
    (hbad : readL kind ws m s = none → ∀ w', Ex [] w w' → k (.tuple #[.slice none 0 0, .int .i64 21]) w')
    (hk : ∀ rs, readL kind ws m s = some rs → lenR ks rs → ∀ v w', Ex [] w w' → Own w' w.heap.size TE ks.length v (rcs ks rs) → k (.tuple #[v, .int .i64 0]) w') : wCall P n [.int .u8 (kind : Int), sv s, .func (.func nP) #[] #[], a3] w k := by
  refine hW ?_
  unfold G_readL
  refine box_i (sv_cells s) fun w1 g1 hg1 hE1 B1 => ?_
  refine alloc_i hzL (vs := [.slice none 0 0]) rfl fun w2 g2 hg2 hE2 B2 => ?_
  have l1 := hE1.le
  have l2 := hE2.le
  rw [ld_sector g_T_api_Sector hs (B1.ex hE2 (by simp))]
  refine seal_Open hs hb (fun hno w3 hE3 => ?_) (fun kd body hop bv w3 hE3 hO3 => ?_)
  · rw [ext_0, ext_1, ext_2, bin_neq]
    refine or_i (r := true) (fun h => absurd h (by simp)) ?_
    rw [Bool.or_true, wIf_t]
    exact hbad (by unfold readL; rw [hno]) w3 ((hE1.trans hE2).trans hE3)
  · have l3 := hE3.le
    have E3 : Ex [] w w3 := (hE1.trans hE2).trans hE3
    have hbl := sealOp_len hop
    have hbt := sealOp_lt hb hop
    rw [ext_0, ext_1, ext_2, bin_neq]
    refine or_i (r := decide (((kd : Nat) : Int) ≠ (kind : Int))) (fun _ k' hk' => by rw [bin_neq]; exact hk') ?_
    rw [show decide ((0 : Int) ≠ 0) = false from by decide, Bool.false_or]
    refine wIf_d (fun hne => ?_) (fun heq => ?_)
    · refine hbad ?_ w3 E3
      unfold readL
      rw [hop]
      simp only
      rw [if_neg (by omega)]
    · have hkk : kd = kind := by omega
      subst hkk
      refine rd_new (hO3.base (Nat.zero_le _)) hbt.2 hbl fun w4 h hh hE4 H4 => ?_
      have l4 := hE4.le
      rw [iface_i u_preader, callv_0]
      refine hpL ?_
      obtain ⟨N, hN, hm, hmN, hcase⟩ := rd_count (ks := ks) body hw hws.1 hbl
      have B24 := (B2.ex hE3 (by simp)).ex hE4 (by simp)
      have lt2 := B2.lt
      have hfp : ∀ x ∈ h :: bv.ownBlock.toList, w2.heap.size ≤ x := by
        intro x hx
        rcases List.mem_cons.1 hx with rfl | hx
        · omega
        · exact (hO3.newb x hx).1
      have hmul : N * ws.sum ≤ 121 * 1000 := Nat.mul_le_mul hN hws.2
      refine list_rd E hL hP H4 B24 (lo := 0) rfl (fun hmm => by have := hfp _ hmm; omega) hw (by omega) (by simp only; omega) hm hmN fun w5 v5 fp5 hE5 H5 hfp5 hv5 hO5 B5 => ?_
      have E5 : Ex [] w w5 := (E3.trans hE4).step hE5 fun x hx => by
        rcases List.mem_cons.1 hx with rfl | hx
        · exact .inr (by omega)
        · have := hfp x hx; exact .inr (by omega)
      have B5 : Blk w5 g2 TL [v5] := B5
      obtain ⟨bv', hBr, hSr, _, _, hner, _⟩ := H5
      have hlen : ∀ (K : Value → World → Prop), wLen P .len #[T_Luint8] [bv] w5 K = K (.int .i64 (body.length : Int)) w5 := by
        intro K
        obtain ⟨A, c, e⟩ := hO3.slice (by omega) (n := body.length) (by rw [bvs_length]; omega)
        rw [e, len_s u_T_Luint8]
      simp only [nil_ptr, fA_T_codec_reader_1, fA_T_codec_reader_2, Nat.zero_add]
      rw [ld_one o_T_bool (hBr.cell 2)]
      rcases hcase with ⟨hrec, hbd⟩ | ⟨rs, hrec, hst, hrv⟩
      · rw [hbd]
        refine or_i (r := true) (fun h => by cases h) ?_
        refine or_i (r := true) (fun h => by cases h) ?_
        rw [Bool.or_true, wIf_t]
        exact hbad (by simp [readL, hop, hrec]) w5 E5
      · rw [hst] at hBr ⊢
        rw [hrv] at hO5
        have hlr : lenR ks rs := by rw [← hrv]; exact lenR_runRV hw _ _ fun r hr => by rw [List.mem_replicate] at hr; rw [hr.2, zs_length]
        have hrn : rs.length ≤ 1000 := by rw [← hrv, runRV_length, List.length_replicate]; omega
        refine or_i (r := false) (fun _ k' hk' => ?_) ?_
        · rw [ld_one o_T_int (hBr.cell 1), hlen, bin_neq]
          simpa using hk'
        refine or_w (r := !(m rs)) (fun _ k' hk' => ?_) fun w6 hE6 => ?_
        · rw [ld_one E.o (B5.cell 0)]
          refine hmay w5 rs v5 _ _ hO5 hlr hrn fun w6 hE6 => ?_
          rw [un_not]
          exact hk' w6 hE6
        rw [Bool.false_or]
        refine wIf_i _ (fun hc => ?_) (fun hc => ?_)
        · have hc : m rs = false := by simpa using hc
          exact hbad (by simp [readL, hop, hrec, hc]) w6 (E5.trans hE6)
        · rw [ld_one E.o ((B5.ex hE6 (by simp)).cell 0)]
          have hc : m rs = true := by simpa using hc
          exact hk rs (by simp [readL, hop, hrec, hc]) hlr v5 w6 (E5.trans hE6) ((hO5.ex0 hE6).base (by omega))
end
end Go.Dn
