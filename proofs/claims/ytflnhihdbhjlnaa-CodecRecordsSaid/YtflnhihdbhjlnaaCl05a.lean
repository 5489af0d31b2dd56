import Derived.Test.YtflnhihdbhjlnaaGlaw05
import Derived.Test.YtflnhihdbhjlnaaCref05c
import Derived.Test.YtflnhihdbhjlnaaCeq
/-! Law 05: turn, awake, Inode. -/
set_option maxRecDepth 10000
set_option linter.unusedVariables false
set_option linter.unusedSimpArgs false
namespace Go.Dn
open Go
theorem bin_rem {P : Program} {t : TypeId} {w : World} {K : Value → World → Prop} {k : IntKind} {a b : Int} (h0 : 0 ≤ a) (hb : 0 < b) : wBin P .rem t (.int k a) (.int k b) w K = K (.int k (a % b)) w := by
  refine bin_int ?_
  simp only [binOp, ne_eq, not_true_eq_false, if_false, Op.intDiv]
  rw [if_neg (by omega), Int.tmod_eq_emod_of_nonneg h0]
theorem bin_quo {P : Program} {t : TypeId} {w : World} {K : Value → World → Prop} {k : IntKind} {a b : Int} (h0 : 0 ≤ a) (hb : 0 < b) (hw : k.wrap (a / b) = a / b) : wBin P .quo t (.int k a) (.int k b) w K = K (.int k (a / b)) w := by
  refine bin_int ?_
  simp only [binOp, ne_eq, not_true_eq_false, if_false, Op.intDiv]
  rw [if_neg (by omega), Int.tdiv_eq_ediv_of_nonneg h0, hw]
theorem bvs_set (s : List Nat) (i b : Nat) : (bvs s).set i (.int .u8 (b : Int)) = bvs (s.set i b) := by
  unfold bvs; rw [List.map_set]
theorem set_lt {s : List Nat} (h : ∀ b ∈ s, b < 256) (i : Nat) {b : Nat} (hb : b < 256) : ∀ x ∈ s.set i b, x < 256 := by
  intro x hx
  rcases List.mem_or_eq_of_mem_set hx with h' | rfl
  · exact h x h'
  · exact hb
theorem readR_writeR {kind : Nat} {ws : List Nat} {m : List Int → Bool} {r : List Int} {s : List Nat} (hl : ws.length = r.length) (h : writeR kind ws m r = some s) : readR kind ws m s = some r := by
  unfold writeR at h
  split at h
  · rename_i hm
    unfold sealMk at h
    split at h
    · cases h
    · rename_i hc
      injection h with h
      subst h
      have hop := sealOp_mk (kind := kind) (body := encF ws r) (by omega) (by omega)
      have hd := decF_encF ws r [] hl hm.2
      rw [List.append_nil] at hd
      unfold readR
      rw [hop]
      simp [hd, encF_length ws r hl, hm.1]
  · cases h
theorem writeR_lt {kind : Nat} {ws : List Nat} {m : List Int → Bool} {r : List Int} {s : List Nat} (hk : kind < 256) (h : writeR kind ws m r = some s) : ∀ b ∈ s, b < 256 := by
  unfold writeR at h
  split at h
  · unfold sealMk at h
    split at h
    · cases h
    · rename_i hc
      injection h with h
      subst h
      exact sealS_lt hk (by omega) (encF_lt ws r)
  · cases h
theorem writeL_lt {kind : Nat} {ws : List Nat} {m : List (List Int) → Bool} {rs : List (List Int)} {s : List Nat} (hk : kind < 256) (h : writeL kind ws m rs = some s) : ∀ b ∈ s, b < 256 := by
  unfold writeL at h
  split at h
  · unfold sealMk at h
    split at h
    · cases h
    · rename_i hc
      injection h with h
      subst h
      exact sealS_lt hk (by omega) (encR_lt ws rs)
  · cases h
theorem zeroS_lt : ∀ b ∈ zeroS, b < 256 := by
  intro b hb
  unfold zeroS at hb
  rw [List.mem_replicate] at hb
  omega
theorem getD_s {o : Option (List Nat)} (h : ∀ s, o = some s → ∀ b ∈ s, b < 256) : ∀ b ∈ o.getD zeroS, b < 256 := by
  cases o with
  | none => exact zeroS_lt
  | some s => exact h s rfl
def lfs (ks : List IntKind) : List Lf := ks.map Lf.i
theorem wf_rc : ∀ (ks : List IntKind) (r : List Int), r.length = ks.length → wfV (lfs ks) (rc ks r)
  | [], [], _ => trivial
  | k :: ks, n :: r, h => ⟨rfl, wf_rc ks r (by simpa using h)⟩
  | [], _ :: _, h => by simp at h
  | _ :: _, [], h => by simp at h
theorem eqV_rc : ∀ (ks : List IntKind) (r q : List Int), r.length = ks.length → q.length = ks.length → eqV (rc ks r) (rc ks q) = decide (r = q)
  | [], [], [], _, _ => rfl
  | k :: ks, n :: r, m :: q, h1, h2 => by
    have := eqV_rc ks r q (by simpa using h1) (by simpa using h2)
    show ((n == m) && eqV (rc ks r) (rc ks q)) = _
    rw [this, Bool.eq_iff_iff]
    simp
  | [], _ :: _, _, h, _ => by simp at h
  | [], [], _ :: _, _, h => by simp at h
  | _ :: _, [], _, h, _ => by simp at h
  | _ :: _, _ :: _, [], _, h => by simp at h
theorem E_Inode : EqT P 3 T_codec_Inode true (lfs kInode) := by
  have h1 := eqT_int (P := P) (t := T_uint32) o_T_uint32 i_T_uint32
  have h2 := eqT_int (P := P) (t := T_int) o_T_int i_T_int
  have h3 : EqT P 2 T_A8int true (List.replicate 8 [Lf.i .i64]).flatten := eqT_array v_T_A8int (by kernel_rfl) h2
  exact eqT_struct (L := [(0, T_uint32, false, [.i .u32]), (1, T_uint32, false, [.i .u32]), (2, T_int, false, [.i .i64]), (3, T_int, false, [.i .i64]), (4, T_uint32, false, [.i .u32]), (5, T_A8int, true, (List.replicate 8 [Lf.i .i64]).flatten), (13, T_int, false, [.i .i64]), (14, T_int, false, [.i .i64])])
    (by kernel_rfl) (by kernel_rfl) (by kernel_rfl) (by kernel_rfl)
    ⟨rfl, h1.le (by omega), rfl, h1.le (by omega), rfl, h2.le (by omega), rfl, h2.le (by omega), rfl, h1.le (by omega), rfl, h3, rfl, h2.le (by omega), rfl, h2.le (by omega), trivial⟩
section
variable {w : World} {K : Value → World → Prop}
theorem eq_Inode {r q : List Int} (h1 : r.length = 15) (h2 : q.length = 15) : wBin P .eql T_codec_Inode (.agg ⟨rc kInode r⟩) (.agg ⟨rc kInode q⟩) w K = K (.bool (decide (r = q))) w := by
  rw [eq_T E_Inode (by omega) e_T_codec_Inode (wf_rc kInode r h1) (wf_rc kInode q h2), eqV_rc kInode r q h1 h2]
theorem ne_Inode {r q : List Int} (h1 : r.length = 15) (h2 : q.length = 15) : wBin P .neq T_codec_Inode (.agg ⟨rc kInode r⟩) (.agg ⟨rc kInode q⟩) w K = K (.bool (!decide (r = q))) w := by
  rw [ne_T E_Inode (by omega) e_T_codec_Inode (wf_rc kInode r h1) (wf_rc kInode q h2), eqV_rc kInode r q h1 h2]
theorem ix_s {g i : Nat} {x : Int} {ik : IntKind} (hx : x = (i : Int)) (hi : i < 128) : wIndexA P T_api_Sector (.pointer (some ⟨g, 0, none⟩)) (.int ik x) w K = K (.pointer (some ⟨g, i, none⟩)) w := ix_sec a_T_api_Sector hx hi
theorem law05_turn {s bs : List Nat} {v : Value} {k : Value → World → Prop} (hs : s.length = 128) (hb : ∀ b ∈ s, b < 256) (S : SlG w 1 v (bvs bs)) (hbs : ∀ b ∈ bs, b < 256)
    (hk : ∀ s' w', s'.length = 128 → (∀ b ∈ s', b < 256) → Ex [] w w' → k (sv s') w') : wCall P n_law05_turn [sv s, v] w k := by
  refine call_law05_turn _ _ ?_
  unfold F_law05_turn
  refine box_i (sv_cells s) fun w1 g1 hg1 hE1 B1 => ?_
  refine alloc_i z_T_api_Sector (vs := List.replicate 128 (.int .u8 0)) rfl fun w2 g2 hg2 hE2 B2 => ?_
  have l1 := hE1.le
  have l2 := hE2.le
  have lt1 := B1.lt
  refine j0_of (fun w' => Ex [g1] w2 w' ∧ ∃ s1, s1.length = 128 ∧ (∀ b ∈ s1, b < 256) ∧ Blk w' g1 T_api_Sector (bvs s1)) (fun k1 hk1 => ?_) ?_
  · refine loop_up 4 (fun i x w' => x = .int .i64 ((2 * i : Nat) : Int) ∧ Ex [g1] w2 w' ∧ ∃ s1, s1.length = 128 ∧ (∀ b ∈ s1, b < 256) ∧ Blk w' g1 T_api_Sector (bvs s1)) ⟨rfl, Ex.refl _ _, s, hs, hb, B1.ex hE2 (by simp)⟩ ?_
    rintro i J x w3 k2 hi ⟨rfl, hE3, s1, hs1, hb1, B3⟩ hk2
    have l3 := hE3.le
    have hvb : bs ≠ [] → ∀ g, v.ownBlock = some g → g ∉ [g1] := by
      intro hne g hg
      obtain ⟨A, n, c, rfl, hl', _, hr⟩ := S
      have hn : n ≠ 0 := by
        intro h0; subst h0
        apply hne
        have : (bvs bs).length = 0 := by simpa using hl'
        rw [bvs_length] at this
        exact List.eq_nil_of_length_eq_zero this
      obtain ⟨b, o, rfl, hcs⟩ := hr hn
      have hlt := hcs.lt (by intro h'; apply hne; have := congrArg List.length h'; rw [bvs_length] at this; exact List.eq_nil_of_length_eq_zero (by simpa using this))
      simp [Value.ownBlock] at hg
      subst hg
      simp
      omega
    have hlen : ∀ (wa : World) (K : Value → World → Prop), wLen P .len #[T_Luint8] [v] wa K = K (.int .i64 (bs.length : Int)) wa := by
      intro wa K
      obtain ⟨A, n, c, rfl, hl', _, _⟩ := S
      have : n = bs.length := by rw [bvs_length] at hl'; omega
      rw [len_s u_T_Luint8, this]
    rw [bin_add (by omega), hlen, bin_lss]
    refine and_i (r := decide (((2 * i : Nat) : Int) < 8)) (fun _ k' hk' => by rw [bin_lss]; exact hk') ?_
    refine wIf_i _ (fun hc => ?_) (fun hc => ?_)
    · simp only [Bool.and_eq_true, decide_eq_true_eq] at hc
      have hne : bs ≠ [] := by intro h; rw [h] at hc; simp at hc; omega
      refine draw_i fun w4 hE4 _ => ?_
      have l4 := hE4.le
      have S4 := (((S.ex0 hE1).ex0 hE2).ex hE3 (hvb hne)).ex0 hE4
      have B4 := B3.ex hE4 (by simp)
      have h1 : 2 * i < bs.length := by omega
      have h2 : 2 * i + 1 < bs.length := by omega
      have hg1' : (bvs bs)[((2 * i : Nat) : Int).toNat]? = some (.int .u8 (bs[2 * i] : Nat)) := by rw [Int.toNat_natCast]; exact bvs_get (List.getElem?_eq_getElem h1)
      refine S4.ix1 s_T_Luint8 (by omega) hg1' fun a ha => ?_
      have hb4 := hbs _ (List.getElem_mem h1)
      have hb5 := hbs _ (List.getElem_mem h2)
      rw [ld_one o_T_uint8 ha, conv_8_i hb4, bin_rem (by omega) (by omega), bin_add (by omega), bin_add (by omega)]
      have hg2' : (bvs bs)[(((2 * i : Nat) : Int) + 1).toNat]? = some (.int .u8 (bs[2 * i + 1] : Nat)) := by
        rw [show (((2 * i : Nat) : Int) + 1).toNat = 2 * i + 1 by omega]; exact bvs_get (List.getElem?_eq_getElem h2)
      refine S4.ix1 s_T_Luint8 (by omega) hg2' fun a ha => ?_
      rw [ld_one o_T_uint8 ha, ix_s (i := 2 + bs[2 * i] % 122) (by omega) (by omega)]
      refine st_one o_T_uint8 rfl B4 (by rw [bvs_length]; omega) fun w5 hE5 B5 => ?_
      rw [bvs_set] at B5
      rw [bin_add (by omega)]
      exact hk2 _ _ (by omega) ⟨by first | rfl | (congr 1; omega), (hE3.trans hE4.nil).trans hE5, _, by rw [List.length_set]; exact hs1, set_lt hb1 _ hb5, B5⟩
    · exact hk1 w3 ⟨hE3, s1, hs1, hb1, B3⟩
  rintro J w3 ⟨hE3, s1, hs1, hb1, B3⟩
  have l3 := hE3.le
  rw [sliceA_hi a_T_api_Sector (by omega) (by omega)]
  have hS3 : SlG w3 1 (.slice (some ⟨g1, 0, none⟩) (124 : Int).toNat 128) (bvs (s1.take 124)) := by
    refine SlG.of_cs (fun i x hx => ?_) (by rw [bvs_length, List.length_take, hs1]; rfl) (by omega)
    rw [Nat.zero_add, B3.cell]
    unfold bvs at hx ⊢
    rw [List.map_take, List.getElem?_take] at hx
    split at hx
    · exact hx
    · cases hx
  refine ref02_Crc hS3 (fun b hb' => hb1 b (List.mem_of_mem_take hb')) (by rw [List.length_take]; omega) ?_
  have hcl := crc_lt (s1.take 124)
  generalize crc (s1.take 124) = c at *
  refine j0_of (fun w' => Ex [g1] w2 w' ∧ ∃ s1, s1.length = 128 ∧ (∀ b ∈ s1, b < 256) ∧ Blk w' g1 T_api_Sector (bvs s1)) (fun k1 hk1 => ?_) ?_
  · refine loop_up 4 (fun i x w' => x = .int .i64 (i : Int) ∧ Ex [g1] w2 w' ∧ ∃ s1, s1.length = 128 ∧ (∀ b ∈ s1, b < 256) ∧ Blk w' g1 T_api_Sector (bvs s1)) ⟨rfl, hE3, s1, hs1, hb1, B3⟩ ?_
    rintro i J x w4 k2 hi ⟨rfl, hE4, s2, hs2, hb2, B4⟩ hk2
    rw [bin_lss]
    refine wIf_d (fun hlt => ?_) (fun hge => ?_)
    · rw [bin_add (by omega), bin_mul (by omega), bin_shr (by omega), conv_i i_T_uint32 i_T_uint8]
      obtain ⟨b, hb256, he⟩ : ∃ b : Nat, b < 256 ∧ IntKind.wrap .u8 ((c : Int).fdiv (2 ^ min (8 * (i : Int)).toNat IntKind.u32.bits)) = (b : Int) := by
        rw [IntKind.wrap_u8]
        exact ⟨(((c : Int).fdiv (2 ^ min (8 * (i : Int)).toNat IntKind.u32.bits)) % 256).toNat, by omega, by omega⟩
      rw [he, ix_s (i := 124 + i) (by omega) (by omega)]
      refine st_one o_T_uint8 rfl B4 (by rw [bvs_length]; omega) fun w5 hE5 B5 => ?_
      rw [bvs_set] at B5
      rw [bin_add (by omega)]
      exact hk2 _ _ (by omega) ⟨by simp, hE4.trans hE5, _, by rw [List.length_set]; exact hs2, set_lt hb2 _ hb256, B5⟩
    · exact hk1 w4 ⟨hE4, s2, hs2, hb2, B4⟩
  rintro J w4 ⟨hE4, s2, hs2, hb2, B4⟩
  rw [ld_sector g_T_api_Sector hs2 B4]
  refine st_sector g_T_api_Sector hs2 (B2.ex hE4 (by simp; omega)) List.length_replicate fun w5 hE5 B5 => ?_
  refine res_sector g_T_api_Sector hs2 B5 ?_
  exact hk s2 w5 hs2 hb2 (((hE1.trans hE2).step hE4 (by simp; omega)).new hE5 (by omega))
theorem law05_awake {k : Value → World → Prop} (hk : ∀ w', Ex [] w w' → k (.bool true) w') : wCall P n_law05_awake [] w k := by
  refine call_law05_awake ?_
  unfold F_law05_awake
  obtain ⟨r, hr⟩ : ∃ r : List Int, r = [3, 9, 1, 300, 0, 0, 0, 0, 0, 0, 0, 0, 0, 77, 0] := ⟨_, rfl⟩
  have hl : r.length = 15 := by rw [hr]; rfl
  have hin : inR kInode r := by rw [hr]; simp [inR, inR1, kInode]
  rw [bl_T_codec_Inode (cs := rc kInode r) (by
    rw [fill_cons (off := 0) (size := 1) rfl rfl rfl (by simp), fill_cons (off := 1) (size := 1) rfl rfl rfl (by simp [splice]), fill_cons (off := 2) (size := 1) rfl rfl rfl (by simp [splice]), fill_cons (off := 3) (size := 1) rfl rfl rfl (by simp [splice]), fill_cons (off := 13) (size := 1) rfl rfl rfl (by simp [splice])]
    rw [hr]; rfl)]
  refine alloc_i z_Inode (vs := rc kInode (zs kInode)) rfl fun w1 g1 hg1 hE1 B1 => ?_
  refine st_all g_T_codec_Inode (rc_length hl) (rc_isC _ _) B1 (rc_length (zs_length _)) fun w2 hE2 B2 => ?_
  have E2 : Ex [] w w2 := hE1.new hE2 (by omega)
  rw [ld_aggT g_T_codec_Inode (rc_length hl) _ _ _ B2]
  obtain ⟨s, hs⟩ : ∃ s, writeR 2 wInode (mayB 2 1 2) r = some s := by
    unfold writeR sealMk
    rw [if_pos (by rw [hr]; decide), if_neg (by rw [encF_length _ _ (by rw [hl]; rfl)]; decide)]
    exact ⟨_, rfl⟩
  have hsl := writeR_len _ hs
  have hsb := writeR_lt (by omega) hs
  refine codec_WriteInode hl hin fun w3 hE3 => ?_
  rw [hs]
  show wExtract P (.tuple #[sv s, .int .i64 0]) 0 w3 _
  rw [ext_0]
  show wExtract P (.tuple #[sv s, .int .i64 0]) 1 w3 _
  rw [ext_1]
  refine alloc_i z_T_api_Sector (vs := List.replicate 128 (.int .u8 0)) rfl fun w4 g4 hg4 hE4 B4 => ?_
  refine st_sector g_T_api_Sector hsl B4 List.length_replicate fun w5 hE5 B5 => ?_
  have E5 : Ex [] w w5 := (E2.trans hE3).trans (hE4.new hE5 (by omega))
  rw [ld_sector g_T_api_Sector hsl B5]
  have hrd := readR_writeR (by rw [hl]; rfl) hs
  refine codec_ReadInode hsl hsb (fun h => by rw [hrd] at h; cases h) fun q hq w6 hE6 => ?_
  rw [hrd] at hq
  injection hq with hq
  subst hq
  rw [ext_0, ext_1]
  refine alloc_i z_Inode (vs := rc kInode (zs kInode)) rfl fun w7 g7 hg7 hE7 B7 => ?_
  refine st_all g_T_codec_Inode (rc_length hl) (rc_isC _ _) B7 (rc_length (zs_length _)) fun w8 hE8 B8 => ?_
  have E8 : Ex [] w5 w8 := hE6.trans (hE7.new hE8 (by omega))
  rw [bl_T_codec_Inode (cs := rc kInode (zs kInode)) rfl]
  have hz : writeR 2 wInode (mayB 2 1 2) (zs kInode) = none := by unfold writeR; rw [if_neg (by decide)]
  refine codec_WriteInode (zs_length _) (by simp [inR, inR1, kInode, zs]) fun w9 hE9 => ?_
  rw [hz]
  show wExtract P (.tuple #[sv zeroS, .int .i64 1]) 0 w9 _
  rw [ext_0]
  show wExtract P (.tuple #[sv zeroS, .int .i64 1]) 1 w9 _
  rw [ext_1]
  refine alloc_i z_T_api_Sector (vs := List.replicate 128 (.int .u8 0)) rfl fun w10 g10 hg10 hE10 B10 => ?_
  refine st_sector g_T_api_Sector zeroS_length B10 List.length_replicate fun w11 hE11 B11 => ?_
  have E11 : Ex [] w8 w11 := hE9.trans (hE10.new hE11 (by omega))
  rw [bin_eql]
  refine and_i (r := true) (fun _ k' hk' => by rw [bin_eql]; exact hk') ?_
  refine and_i (r := true) (fun _ k' hk' => ?_) ?_
  · have E25 : Ex [] w2 w5 := hE3.trans (hE4.new hE5 (by omega))
    rw [ld_aggT g_T_codec_Inode (rc_length hl) _ _ _ (((B2.ex E25 (by simp)).ex E8 (by simp)).ex E11 (by simp)), ld_aggT g_T_codec_Inode (rc_length hl) _ _ _ (B8.ex E11 (by simp)), eq_Inode hl hl, decide_eq_true rfl]
    exact hk'
  refine and_i (r := true) (fun _ k' hk' => by rw [bin_eql]; exact hk') ?_
  exact hk w11 ((E5.trans E8).trans E11)
end
end Go.Dn
