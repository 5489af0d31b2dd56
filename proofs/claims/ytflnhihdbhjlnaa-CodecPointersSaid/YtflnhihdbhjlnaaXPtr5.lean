import Derived.Test.YtflnhihdbhjlnaaXPtr4
import Derived.Test.YtflnhihdbhjlnaaXPtr2
import Derived.Deep.Slices
import Derived.Deep.Fields
import Derived.ChangeSame
import Derived.ChangeArms
import Derived.OpenShut
section
/-! Pointers: codec and the reference of layer 5. -/
set_option maxRecDepth 10000
set_option linter.unusedVariables false
set_option linter.unusedSimpArgs false
namespace Go.Dn
open Go
attribute [local semireducible] wIndex
def okI (n : Int) : Bool := decide (0 ≤ n) && decide (n ≤ 65535)
def encI (l : List Int) : List Nat := l.flatMap fun n => low n.toNat 4
def ptrW (l : List Int) : Option (List Nat) := if l.all okI = true then some (encI l) else none
def rdI (s : List Nat) (i : Nat) : Nat := numOf ((s.drop (4 * i)).take 4)
def rdsI (s : List Nat) (n : Nat) : List Int := (List.range n).map fun i => ((rdI s i : Nat) : Int)
def ptrR (s : List Nat) : Option (List Int) := if (List.range 32).all (fun i => decide (rdI s i ≤ 65535)) = true then some (rdsI s 32) else none
theorem encI_length (l : List Int) : (encI l).length = 4 * l.length := by
  induction l with
  | nil => rfl
  | cons n l ih => show (low n.toNat 4 ++ encI l).length = _; rw [List.length_append, low_length, ih, List.length_cons]; omega
theorem encI_append (a b : List Int) : encI (a ++ b) = encI a ++ encI b := by simp [encI]
theorem encI_lt (l : List Int) : ∀ b ∈ encI l, b < 256 := by
  intro b hb
  obtain ⟨n, _, h⟩ := List.mem_flatMap.1 hb
  exact low_lt _ _ b h
theorem rdsI_length (s : List Nat) (n : Nat) : (rdsI s n).length = n := by simp [rdsI]
theorem rdI_enc {l : List Int} {i : Nat} (hi : i < l.length) (h : okI l[i] = true) : ((rdI (encI l) i : Nat) : Int) = l[i] := by
  unfold okI at h
  simp only [Bool.and_eq_true, decide_eq_true_eq] at h
  have e : encI l = encI (l.take i) ++ (low l[i].toNat 4 ++ encI (l.drop (i + 1))) := by
    conv => lhs; rw [← List.take_append_drop i l, List.drop_eq_getElem_cons hi, encI_append]
    rfl
  unfold rdI
  rw [e, List.drop_left' (by rw [encI_length, List.length_take, Nat.min_eq_left (by omega)]), List.take_left' (by rw [low_length]), numOf_low, Nat.mod_eq_of_lt (by omega)]
  omega
theorem ptrR_ptrW {l : List Int} {s : List Nat} (hl : l.length = 32) (h : ptrW l = some s) : ptrR s = some l := by
  unfold ptrW at h
  split at h
  · rename_i hok
    injection h with h
    subst h
    rw [List.all_eq_true] at hok
    have hr : rdsI (encI l) 32 = l := by
      apply List.ext_getElem (by rw [rdsI_length, hl])
      intro i h1 h2
      simp only [rdsI, List.getElem_map, List.getElem_range]
      exact rdI_enc h2 (hok _ (List.getElem_mem h2))
    unfold ptrR
    rw [if_pos, hr]
    rw [List.all_eq_true]
    intro i hi
    rw [List.mem_range] at hi
    have h2 : i < l.length := by omega
    have := rdI_enc h2 (hok _ (List.getElem_mem h2))
    have h3 := hok _ (List.getElem_mem h2)
    unfold okI at h3
    simp only [Bool.and_eq_true, decide_eq_true_eq] at h3
    rw [decide_eq_true_eq]
    omega
  · cases h
theorem ptrW_len {l : List Int} (hl : l.length = 32) : ∀ s, ptrW l = some s → s.length = 128 := by
  intro s h
  unfold ptrW at h
  split at h
  · injection h with h; rw [← h, encI_length, hl]
  · cases h
theorem ptrW_lt {l : List Int} : ∀ s, ptrW l = some s → ∀ b ∈ s, b < 256 := by
  intro s h
  unfold ptrW at h
  split at h
  · injection h with h; rw [← h]; exact encI_lt l
  · cases h
theorem ptrR_len {s : List Nat} {r : List Int} (h : ptrR s = some r) : r.length = 32 := by
  unfold ptrR at h
  split at h
  · injection h with h; rw [← h, rdsI_length]
  · cases h
theorem rdI_lt {s : List Nat} (hb : ∀ b ∈ s, b < 256) (i : Nat) : rdI s i < 4294967296 :=
  numOf_lt2 (fun b hb' => hb b (List.mem_of_mem_drop (List.mem_of_mem_take hb'))) 4 (by simp; omega)
theorem rdsI_succ (s : List Nat) (n : Nat) : rdsI s (n + 1) = rdsI s n ++ [((rdI s n : Nat) : Int)] := by simp [rdsI, List.range_succ]
section
variable {w : World} {K : Value → World → Prop}
theorem index_1 {P : Program} {t e : TypeId} {n i : Nat} {x : Int} {ik : IntKind} {xs : List Value} {v : Value} (hu : P.underlying t = some (.array n e)) (ho : oneT P e = true) (hx : x = (i : Int)) (hi : i < n) (hv : xs[i]? = some v) :
    wIndex P t (.agg ⟨xs⟩) (.int ik x) w K = K v w := by
  subst hx
  refine pureW_eq (fun w' => ?_) w K
  unfold Instr.index
  simp only [Sem.run_bind, asIntOf, Sem.run_pure, Result.andThen_ok, und_run hu]
  rw [if_pos ⟨by omega, by omega⟩]
  simp only [Sem.run_bind, sizeOf_one ho, Result.andThen_ok, part, isAgg_one ho, Bool.false_eq_true, if_false, Int.toNat_natCast, Nat.mul_one]
  have : (⟨xs⟩ : Array Value)[i]? = some v := by simpa using hv
  rw [this]
  rfl
theorem im_set {l : List Int} {i n : Nat} {x : Int} (hl : l.length = i) (hi : i < n) : (im (l ++ List.replicate (n - i) 0)).set i (.int .i64 x) = im ((l ++ [x]) ++ List.replicate (n - (i + 1)) 0) := by
  rw [show n - i = (n - (i + 1)) + 1 by omega, List.replicate_succ, im_append]
  show (im l ++ .int .i64 0 :: im (List.replicate (n - (i + 1)) 0)).set i _ = _
  rw [set_mid (by rw [im_length, hl]), im_append, im_append]
  simp [im]
theorem codec_WritePointers {l : List Int} {k : Value → World → Prop} (hl : l.length = 32) (hk : ∀ w', Ex [] w w' → k (wrV (ptrW l)) w') : wCall P n_codec_WritePointers [.agg ⟨im l⟩] w k := by
  refine call_codec_WritePointers _ ?_
  unfold F_codec_WritePointers
  refine box_i (vs := im l) rfl fun w1 g1 hg1 hE1 B1 => ?_
  refine alloc_i z_T_api_Sector (vs := List.replicate 128 (.int .u8 0)) rfl fun w2 g2 hg2 hE2 B2 => ?_
  refine alloc_i z_T_num_Writer (vs := wcells zeroS 0 0) (by rw [wcells_zero]; rfl) fun w3 g3 hg3 hE3 B3 => ?_
  have l1 := hE1.le
  have l2 := hE2.le
  have E3 := (hE1.trans hE2).trans hE3
  have lt2 := B2.lt
  refine j0_of (fun w' => Ex [g3] w3 w' ∧ l.all okI = true ∧ Blk w' g3 T_num_Writer (wcells (encI l) 128 0)) (fun k1 hk1 => ?_) ?_
  rw [ld_aggT g_T_A32int (by rw [im_length, hl]) _ _ _ ((B1.ex hE2 (by simp)).ex hE3 (by simp))]
  · refine loop_up 32 (fun i x w' => x = .int .i64 (i : Int) ∧ Ex [g3] w3 w' ∧ (l.take i).all okI = true ∧ Blk w' g3 T_num_Writer (wcells (encI (l.take i) ++ List.replicate (128 - 4 * i) 0) (4 * i) 0)) ⟨rfl, Ex.refl _ _, rfl, B3⟩ ?_
    rintro i J x w4 k2 hi ⟨rfl, hE4, hok, B4⟩ hk2
    rw [bin_lss]
    refine wIf_d (fun hlt => ?_) (fun hge => ?_)
    · have hlt : i < l.length := by omega
      rw [index_1 v_T_A32int o_T_int rfl (by omega) (im_get (List.getElem?_eq_getElem hlt))]
      refine codec_among ?_
      rw [un_not]
      refine wIf_i _ (fun hc => ?_) (fun hc => ?_)
      · rw [bl_zero_sector]
        have B24 := (B2.ex hE3 (by simp)).ex hE4 (by simp; omega)
        refine st_sector g_T_api_Sector zeroS_length B24 List.length_replicate fun w5 hE5 B5 => ?_
        refine res_sector g_T_api_Sector zeroS_length B5 ?_
        have := hk w5 ((E3.new hE4 (by omega)).new hE5 (by omega))
        have hfl : l.all okI = false := by
          rw [List.all_eq_false]
          refine ⟨l[i], List.getElem_mem hlt, ?_⟩
          unfold okI
          rw [Bool.not_eq_true'] at hc
          rw [hc]
          exact Bool.false_ne_true
        unfold ptrW at this
        rw [if_neg (by simp [hfl])] at this
        exact this
      · have hoki : okI l[i] = true := by unfold okI; simpa using hc
        have hoki' := hoki
        unfold okI at hoki'
        simp only [Bool.and_eq_true, decide_eq_true_eq] at hoki'
        rw [conv_i_u64 hoki'.1 (by omega)]
        have hel : (encI (l.take i)).length = 4 * i := by rw [encI_length, List.length_take, Nat.min_eq_left (by omega)]
        refine num_Writer_Num (wd := 4) B4 (by rw [List.length_append, hel, List.length_replicate]; omega) (by omega) (by omega) (by omega) (by omega) fun w5 hE5 B5 => ?_
        rw [bin_add (by omega)]
        rw [splN_app hel.symm (by rw [low_length]; omega), low_length] at B5
        refine hk2 _ _ (by omega) ⟨by simp, hE4.trans hE5, ?_, ?_⟩
        · rw [List.take_succ_eq_append_getElem hlt, List.all_append, hok]
          simp [hoki]
        · rw [List.take_succ_eq_append_getElem hlt, encI_append]
          have e : encI [l[i]] = low l[i].toNat 4 := by simp [encI]
          rw [e, show 128 - 4 * (i + 1) = 128 - 4 * i - 4 by omega, show 4 * (i + 1) = 4 * i + 4 by omega]
          exact B5
    · obtain rfl : i = 32 := by omega
      rw [List.take_of_length_le (by omega)] at hok B4
      refine hk1 _ ⟨hE4, hok, ?_⟩
      simpa using B4
  · rintro J w4 ⟨hE4, hok, B4⟩
    have hel : (encI l).length = 128 := by rw [encI_length, hl]
    refine num_Writer_Sector B4 hel fun w5 hE5 => ?_
    have B25 := ((B2.ex hE3 (by simp)).ex hE4 (by simp; omega)).ex hE5 (by simp)
    have e : ptrW l = some (encI l) := by unfold ptrW; rw [if_pos hok]
    have := wr_end (o := ptrW l) (k := k) (ptrW_len hl) B25 fun w6 hE6 => hk w6 (((E3.new hE4 (by omega)).trans hE5).new hE6 (by omega))
    rw [e] at this
    exact this
theorem codec_ReadPointers {s : List Nat} {k : Value → World → Prop} (hs : s.length = 128) (hb : ∀ b ∈ s, b < 256)
    (hk : ∀ w', Ex [] w w' → k (.tuple #[.agg ⟨im ((ptrR s).getD (List.replicate 32 0))⟩, .int .i64 (if (ptrR s).isSome = true then 0 else 21)]) w') : wCall P n_codec_ReadPointers [sv s] w k := by
  refine call_codec_ReadPointers _ ?_
  unfold F_codec_ReadPointers
  refine box_i (sv_cells s) fun w1 g1 hg1 hE1 B1 => ?_
  refine alloc_i z_T_A32int (vs := im (List.replicate 32 0)) rfl fun w2 g2 hg2 hE2 B2 => ?_
  refine alloc_i z_T_A32int (vs := im (List.replicate 32 0)) rfl fun w3 g3 hg3 hE3 B3 => ?_
  have l1 := hE1.le
  have l2 := hE2.le
  have l3 := hE3.le
  have E3 := (hE1.trans hE2).trans hE3
  have lt2 := B2.lt
  have lt3 := B3.lt
  rw [ld_sector g_T_api_Sector hs ((B1.ex hE2 (by simp)).ex hE3 (by simp))]
  refine num_Read hs fun w4 g4 hg4 hE4 B4 => ?_
  have lt4 := B4.lt
  have B34 := B3.ex hE4 (by simp)
  have B24 := (B2.ex hE3 (by simp)).ex hE4 (by simp)
  have E4 := E3.trans hE4
  refine j0_of (fun w' => Ex [g3, g4] w4 w' ∧ (List.range 32).all (fun i => decide (rdI s i ≤ 65535)) = true ∧ Blk w' g3 T_A32int (im (rdsI s 32))) (fun k1 hk1 => ?_) ?_
  · refine loop_up 32 (fun i x w' => x = .int .i64 (i : Int) ∧ Ex [g3, g4] w4 w' ∧ (List.range i).all (fun i => decide (rdI s i ≤ 65535)) = true ∧ Blk w' g3 T_A32int (im (rdsI s i ++ List.replicate (32 - i) 0)) ∧ Blk w' g4 T_num_Reader (wcells s (4 * i) 0)) ⟨rfl, Ex.refl _ _, rfl, B34, B4⟩ ?_
    rintro i J x w5 k2 hi ⟨rfl, hE5, hok, B5, R5⟩ hk2
    rw [bin_lss]
    refine wIf_d (fun hlt => ?_) (fun hge => ?_)
    · refine num_Reader_Num (wd := 4) R5 hs hb (by omega) (by omega) fun w6 hE6 R6 => ?_
      have hrd := rdI_lt hb i
      have e : numOf ((s.drop (4 * i)).take 4) = rdI s i := rfl
      rw [e, bin_geq]
      have E46 : Ex [g3, g4] w4 w6 := hE5.trans (hE6.mono (by simp))
      refine wIf_d (fun hbig => ?_) (fun hsm => ?_)
      · rw [bl_T_A32int (cs := im (List.replicate 32 0)) rfl]
        refine st_all g_T_A32int (by simp [im_length]) (im_isC _) (B24.ex E46 (by simp; omega)) (by simp [im_length]) fun w7 hE7 B7 => ?_
        refine res_agg g_T_A32int B7.all (by simp [im_length]) ?_
        have := hk w7 ((E4.step E46 (by simp; omega)).new hE7 (by omega))
        have hno : ptrR s = none := by
          unfold ptrR
          rw [if_neg]
          rw [List.all_eq_true]
          intro h
          have := h i (by simp; omega)
          simp only [decide_eq_true_eq] at this
          omega
        rw [hno] at this
        exact this
      · rw [conv_u64_i (by omega), indexA_i a_T_A32int (by omega) (by omega)]
        have B6 := B5.ex hE6 (by simp; omega)
        refine st_one o_T_int rfl B6 (by rw [im_length]; simp [rdsI_length]; omega) fun w7 hE7 B7 => ?_
        rw [show 0 + (i : Int).toNat * 1 = i by omega, im_set (rdsI_length s i) (by omega), ← rdsI_succ] at B7
        rw [bin_add (by omega)]
        refine hk2 _ _ (by omega) ⟨by simp, E46.trans (hE7.mono (by simp)), ?_, B7, ?_⟩
        · rw [List.range_succ, List.all_append, hok]
          simp only [List.all_cons, List.all_nil, Bool.and_true, Bool.true_and, decide_eq_true_eq]
          omega
        · exact (R6.ex hE7 (by simp; omega))
    · obtain rfl : i = 32 := by omega
      refine hk1 _ ⟨hE5, hok, ?_⟩
      simpa using B5
  · rintro J w5 ⟨hE5, hok, B5⟩
    have hl32 : (im (rdsI s 32)).length = 32 := by rw [im_length, rdsI_length]
    rw [ld_aggT g_T_A32int hl32 _ _ _ B5]
    refine st_all g_T_A32int hl32 (im_isC _) (B24.ex hE5 (by simp; omega)) (by simp [im_length]) fun w6 hE6 B6 => ?_
    refine res_agg g_T_A32int B6.all hl32 ?_
    have := hk w6 ((E4.step hE5 (by simp; omega)).new hE6 (by omega))
    have e : ptrR s = some (rdsI s 32) := by unfold ptrR; rw [if_pos hok]
    rw [e] at this
    exact this
theorem ref01_FullB {v : Value} {bs : List Nat} {k : Value → World → Prop} (S : SlG w 1 v (bvs bs))
    (hk : ∀ w', Ex [] w w' → k (sv (bs.take 128 ++ List.replicate (128 - bs.length) 0)) w') : wCall P n_ref01_Full [v] w k := by
  refine call_ref01_Full _ ?_
  unfold F_ref01_Full
  refine alloc_i z_T_A128uint8 (vs := List.replicate 128 (.int .u8 0)) rfl fun w1 g1 hg1 hE1 B1 => ?_
  refine alloc_i z_T_A128uint8 (vs := List.replicate 128 (.int .u8 0)) rfl fun w2 g2 hg2 hE2 B2 => ?_
  have hle1 := hE1.le
  have hle2 := hE2.le
  have hlt1 := B1.lt
  have B1' := B1.ex hE2 (by simp)
  have E2 := hE1.trans hE2
  have hz : ∀ n, bvs (List.replicate n 0) = List.replicate n (Value.int .u8 0) := by intro n; simp [bvs]
  unfold wJ0
  refine loop_up (min bs.length 128) (fun i u w' => u = .int .i64 (i : Int) ∧ Ex [g2] w2 w' ∧ Blk w' g2 T_A128uint8 (bvs (bs.take i ++ List.replicate (128 - i) 0))) ⟨rfl, Ex.refl _ _, by rw [List.take_zero, List.nil_append, Nat.sub_zero, hz]; exact B2⟩ ?_
  rintro i J u w' k' hi ⟨rfl, hE, hB⟩ hk'
  have S3 : SlG w' 1 v (bvs bs) := S.ex0 (E2.new hE (by omega))
  simp only [S3.len_i (P := P) u_T_Luint8 (by omega) (n := bs.length) (by rw [bvs_length]; omega), bin_lss, and_p]
  refine wIf_i _ (fun hb => ?_) (fun hb => ?_)
  · simp only [Bool.and_eq_true, decide_eq_true_eq] at hb
    have hlt : i < bs.length := by omega
    refine S3.ix1 (x := .int .u8 (bs[i] : Nat)) s_T_Luint8 (by omega) (bvs_get (List.getElem?_eq_getElem hlt)) fun ad had => ?_
    rw [ld_one o_T_uint8 had, indexA_i a_T_A128uint8 (by omega) (by omega)]
    refine st_one o_T_uint8 rfl hB (by simp [bvs_length]; omega) fun w3 hE3 B3 => ?_
    rw [bin_add (by omega)]
    refine hk' _ _ (by omega) ⟨rfl, hE.trans hE3, ?_⟩
    have e : (bvs (bs.take i ++ List.replicate (128 - i) 0)).set (0 + ((i : Nat) : Int).toNat * 1) (.int .u8 ((bs[i] : Nat) : Int)) = bvs (bs.take (i + 1) ++ List.replicate (128 - (i + 1)) 0) := by
      rw [show 0 + ((i : Nat) : Int).toNat * 1 = i by omega]
      have : bvs ((bs.take i ++ List.replicate (128 - i) 0).set i bs[i]) = (bvs (bs.take i ++ List.replicate (128 - i) 0)).set i (.int .u8 ((bs[i] : Nat) : Int)) := by simp [bvs, List.map_set]
      rw [← this]
      congr 1
      rw [List.set_append_right _ _ (by simp; omega), List.take_succ_eq_append_getElem hlt]
      have : 128 - i = (128 - (i + 1)) + 1 := by omega
      rw [this, List.replicate_succ]
      have h0 : i - (bs.take i).length = 0 := by simp; omega
      rw [h0, List.set_cons_zero, List.append_assoc, List.singleton_append]
    rw [e] at B3
    exact B3
  · have hi' : i = min bs.length 128 := by
      simp only [Bool.and_eq_false_iff, decide_eq_false_iff_not] at hb
      omega
    intro _
    have e : bs.take i ++ List.replicate (128 - i) 0 = bs.take 128 ++ List.replicate (128 - bs.length) 0 := by
      subst hi'
      rcases Nat.le_total bs.length 128 with h | h
      · rw [Nat.min_eq_left h, List.take_of_length_le (Nat.le_refl _), List.take_of_length_le h]
      · rw [Nat.min_eq_right h]; simp [show 128 - bs.length = 0 by omega]
    rw [e] at hB
    have hlen : (bvs (bs.take 128 ++ List.replicate (128 - bs.length) 0)).length = 128 := by rw [bvs_length]; simp; omega
    rw [ld_agg g_T_A128uint8 hB.all hlen]
    have hne : g1 ≠ g2 := by omega
    have B1'' := B1'.ex hE (by simp; exact hne)
    refine st_agg g_T_A128uint8 hlen (bvs_isC _) B1'' (by simp) fun w4 hE4 B4 => ?_
    have e2 : splice (List.replicate 128 (Value.int .u8 0)) 0 (bvs (bs.take 128 ++ List.replicate (128 - bs.length) 0)) = bvs (bs.take 128 ++ List.replicate (128 - bs.length) 0) := by
      rw [splice_front hlen (by rw [List.length_replicate]; exact Nat.le_refl _), List.drop_of_length_le (by rw [List.length_replicate]; exact Nat.le_refl _), List.append_nil]
    rw [e2] at B4
    refine res_agg g_T_A128uint8 B4.all hlen ?_
    exact hk w4 ((E2.new hE (by omega)).new hE4 (by omega))
theorem ref05_WritePointers {l : List Int} {k : Value → World → Prop} (hl : l.length = 32) (hk : ∀ w', Ex [] w w' → k (wrB (ptrW l)) w') : wCall P n_ref05_WritePointers [.agg ⟨im l⟩] w k := by
  refine call_ref05_WritePointers _ ?_
  unfold F_ref05_WritePointers
  refine box_i (vs := im l) rfl fun w1 g1 hg1 hE1 B1 => ?_
  refine alloc_i z_T_A128uint8 (vs := List.replicate 128 (.int .u8 0)) rfl fun w2 g2 hg2 hE2 B2 => ?_
  have l1 := hE1.le
  have l2 := hE2.le
  have E2 := hE1.trans hE2
  have B12 := B1.ex hE2 (by simp)
  refine j1_of (fun u w' => Ex [] w2 w' ∧ l.all okI = true ∧ Own w' w2.heap.size T_uint8 1 u (bvs (encI l))) (fun k1 hk1 => ?_) ?_
  · refine loop_up2 32 (fun i u x w' => x = .int .i64 (i : Int) ∧ Ex [] w2 w' ∧ (l.take i).all okI = true ∧ Own w' w2.heap.size T_uint8 1 u (bvs (encI (l.take i)))) ⟨rfl, Ex.refl _ _, rfl, Own.nil _ _ _ _⟩ ?_
    rintro i J u x w3 k2 hi ⟨rfl, hE3, hok, hO⟩ hk2
    have l3 := hE3.le
    rw [bin_lss]
    refine wIf_d (fun hlt => ?_) (fun hge => ?_)
    · have hlt : i < l.length := by omega
      have hc0 : w3.cell? ⟨g1, i, none⟩ = some (.int .i64 l[i]) := ((B12.ex hE3 (by simp)).cell i).trans (im_get (List.getElem?_eq_getElem hlt))
      have hix : ∀ (K : Value → World → Prop), K (.pointer (some ⟨g1, i, none⟩)) w3 → wIndexA P T_A32int (ptr g1) (.int .i64 (i : Int)) w3 K := by
        intro K hK
        rw [indexA_i a_T_A32int (by omega) (by omega), show 0 + (i : Int).toNat * 1 = i by omega]
        exact hK
      refine hix _ ?_
      rw [ld_one o_T_int hc0, bin_lss]
      refine or_i (r := decide (65535 < l[i])) (fun _ k' hk' => ?_) ?_
      · refine hix _ ?_
        rw [ld_one o_T_int hc0, bin_gtr]
        exact hk'
      refine wIf_i _ (fun hc => ?_) (fun hc => ?_)
      · refine wrB_none (B2.ex hE3 (by simp)) fun w4 hE4 => ?_
        have := hk w4 ((E2.trans hE3).new hE4 (by omega))
        have hfl : l.all okI = false := by
          rw [List.all_eq_false]
          refine ⟨l[i], List.getElem_mem hlt, ?_⟩
          simp only [Bool.or_eq_true, decide_eq_true_eq] at hc
          unfold okI
          simp only [Bool.and_eq_true, decide_eq_true_eq]
          omega
        unfold ptrW at this
        rw [if_neg (by simp [hfl])] at this
        exact this
      · simp only [Bool.or_eq_false_iff, decide_eq_false_iff_not] at hc
        have hoki : okI l[i] = true := by
          unfold okI
          simp only [Bool.and_eq_true, decide_eq_true_eq]
          omega
        refine hix _ ?_
        rw [ld_one o_T_int hc0, conv_i_u64 (by omega) (by omega)]
        have hel : (encI (l.take i)).length = 4 * i := by rw [encI_length, List.length_take, Nat.min_eq_left (by omega)]
        refine app_low (wd := 4) hO (by rw [hel]; omega) (by omega) (by omega) (by omega) fun v4 w4 hO4 hE4 => ?_
        rw [bin_add (by omega)]
        refine hk2 _ _ _ (by omega) ⟨by simp, hE3.step hE4 fun y hy => .inr (hO.newb y hy).1, ?_, ?_⟩
        · rw [List.take_succ_eq_append_getElem hlt, List.all_append, hok]
          simp [hoki]
        · rw [List.take_succ_eq_append_getElem hlt, encI_append]
          have e : encI [l[i]] = low l[i].toNat 4 := by simp [encI]
          rw [e]
          exact hO4
    · obtain rfl : i = 32 := by omega
      rw [List.take_of_length_le (by omega)] at hok hO
      exact hk1 _ _ ⟨hE3, hok, hO⟩
  · rintro J u w3 ⟨hE3, hok, hO⟩
    have hel : (encI l).length = 128 := by rw [encI_length, hl]
    refine ref01_Full hO.slg (by omega) fun w4 hE4 => ?_
    rw [hel, List.take_of_length_le (by omega), show List.replicate (128 - 128) 0 = ([] : List Nat) from rfl, List.append_nil]
    refine st_sector g_T_A128uint8 hel ((B2.ex hE3 (by simp)).ex hE4 (by simp)) List.length_replicate fun w5 hE5 B5 => ?_
    refine res_sector g_T_A128uint8 hel B5 ?_
    have := hk w5 (((E2.trans hE3).trans hE4).new hE5 (by omega))
    have e : ptrW l = some (encI l) := by unfold ptrW; rw [if_pos hok]
    rw [e] at this
    exact this
theorem SlA.subs {t : TypeId} {g n : Nat} {bs : List Nat} {u : TypeId} {i j : Nat} {x y : Int} {ik ik' : IntKind} (ht : arT P t = some (n, 1)) (B : Blk w g u (bvs bs)) (hl : bs.length = n) (hx : x = (i : Int)) (hy : y = (j : Int)) (hij : i ≤ j) (hj : j ≤ n)
    (hk : ∀ v', SlG w 1 v' (bvs ((bs.drop i).take (j - i))) → K v' w) : wSlice P t (ptr g) (some (.int ik x)) (some (.int ik' y)) none w K := by
  subst hx; subst hy
  rw [sliceA_lohi ht (by omega) (by omega) (by omega)]
  have S : SlG w 1 (.slice (some ⟨g, 0, none⟩) n n) (bvs bs) := SlG.of_cs B.all (by rw [bvs_length]; omega) (Nat.le_refl _)
  have := S.cut hij (show j ≤ n by omega)
  rw [Nat.mul_one, Nat.mul_one] at this
  simp only [Int.toNat_natCast, Nat.mul_one] at this ⊢
  have e : bvs ((bs.drop i).take (j - i)) = ((bvs bs).drop i).take (j - i) := by unfold bvs; rw [List.map_take, List.map_drop]
  refine hk _ ?_
  rw [e]
  by_cases hni : n = i
  · rw [if_pos hni] at this ⊢
    exact this
  · rw [if_neg hni] at this ⊢
    rw [Option.map_some, add_pl] at this
    exact this
theorem ref05_ReadPointers {s : List Nat} {k : Value → World → Prop} (hs : s.length = 128) (hb : ∀ b ∈ s, b < 256)
    (hk : ∀ w', Ex [] w w' → k (.tuple #[.agg ⟨im ((ptrR s).getD (List.replicate 32 0))⟩, .bool (ptrR s).isSome]) w') : wCall P n_ref05_ReadPointers [sv s] w k := by
  refine call_ref05_ReadPointers _ ?_
  unfold F_ref05_ReadPointers
  refine box_i (sv_cells s) fun w1 g1 hg1 hE1 B1 => ?_
  refine alloc_i z_T_A32int (vs := im (List.replicate 32 0)) rfl fun w2 g2 hg2 hE2 B2 => ?_
  refine alloc_i z_T_A32int (vs := im (List.replicate 32 0)) rfl fun w3 g3 hg3 hE3 B3 => ?_
  have l1 := hE1.le
  have l2 := hE2.le
  have l3 := hE3.le
  have E3 := (hE1.trans hE2).trans hE3
  have lt1 := B1.lt
  have lt2 := B2.lt
  have B13 := (B1.ex hE2 (by simp)).ex hE3 (by simp)
  have B23 := B2.ex hE3 (by simp)
  refine j0_of (fun w' => Ex [g3] w3 w' ∧ (List.range 32).all (fun i => decide (rdI s i ≤ 65535)) = true ∧ Blk w' g3 T_A32int (im (rdsI s 32))) (fun k1 hk1 => ?_) ?_
  · refine loop_up 32 (fun i x w' => x = .int .i64 (i : Int) ∧ Ex [g3] w3 w' ∧ (List.range i).all (fun i => decide (rdI s i ≤ 65535)) = true ∧ Blk w' g3 T_A32int (im (rdsI s i ++ List.replicate (32 - i) 0))) ⟨rfl, Ex.refl _ _, rfl, B3⟩ ?_
    rintro i J x w5 k2 hi ⟨rfl, hE5, hok, B5⟩ hk2
    rw [bin_lss]
    refine wIf_d (fun hlt => ?_) (fun hge => ?_)
    · rw [bin_mul (by omega), bin_mul (by omega), bin_add (by omega)]
      refine SlA.subs (i := 4 * i) (j := 4 * i + 4) a_T_A128uint8 (B13.ex hE5 (by simp; omega)) hs (by omega) (by omega) (by omega) (by omega) fun v S => ?_
      rw [show 4 * i + 4 - 4 * i = 4 by omega] at S
      refine ref01_Num S (fun x hx => hb x (List.mem_of_mem_drop (List.mem_of_mem_take hx))) (by simp; omega) ?_
      have hrd := rdI_lt hb i
      have e : numOf ((s.drop (4 * i)).take 4) = rdI s i := rfl
      rw [e, bin_gtr]
      refine wIf_d (fun hbig => ?_) (fun hsm => ?_)
      · rw [bl_T_A32int (cs := im (List.replicate 32 0)) rfl]
        refine st_all g_T_A32int (by simp [im_length]) (im_isC _) (B23.ex hE5 (by simp; omega)) (by simp [im_length]) fun w7 hE7 B7 => ?_
        refine res_agg g_T_A32int B7.all (by simp [im_length]) ?_
        have := hk w7 ((E3.new hE5 (by omega)).new hE7 (by omega))
        have hno : ptrR s = none := by
          unfold ptrR
          rw [if_neg]
          rw [List.all_eq_true]
          intro h
          have := h i (by simp; omega)
          simp only [decide_eq_true_eq] at this
          omega
        rw [hno] at this
        exact this
      · rw [conv_u64_i (by omega), indexA_i a_T_A32int (by omega) (by omega)]
        refine st_one o_T_int rfl B5 (by rw [im_length]; simp [rdsI_length]; omega) fun w7 hE7 B7 => ?_
        rw [show 0 + (i : Int).toNat * 1 = i by omega, im_set (rdsI_length s i) (by omega), ← rdsI_succ] at B7
        rw [bin_add (by omega)]
        refine hk2 _ _ (by omega) ⟨by simp, hE5.trans hE7, ?_, B7⟩
        rw [List.range_succ, List.all_append, hok]
        simp only [List.all_cons, List.all_nil, Bool.and_true, Bool.true_and, decide_eq_true_eq]
        omega
    · obtain rfl : i = 32 := by omega
      refine hk1 _ ⟨hE5, hok, ?_⟩
      simpa using B5
  · rintro J w5 ⟨hE5, hok, B5⟩
    have hl32 : (im (rdsI s 32)).length = 32 := by rw [im_length, rdsI_length]
    rw [ld_aggT g_T_A32int hl32 _ _ _ B5]
    refine st_all g_T_A32int hl32 (im_isC _) (B23.ex hE5 (by simp; omega)) (by simp [im_length]) fun w6 hE6 B6 => ?_
    refine res_agg g_T_A32int B6.all hl32 ?_
    have := hk w6 ((E3.new hE5 (by omega)).new hE6 (by omega))
    have e : ptrR s = some (rdsI s 32) := by unfold ptrR; rw [if_pos hok]
    rw [e] at this
    exact this
end
end Go.Dn
end
section
/-! Law 05: CodecPointers. -/
set_option maxRecDepth 10000
set_option linter.unusedVariables false
set_option linter.unusedSimpArgs false
namespace Go.Dn
open Go
theorem E_A32int : EqT P 2 T_A32int true (List.replicate 32 [Lf.i .i64]).flatten := eqT_array v_T_A32int (by kernel_rfl) (eqT_int (P := P) (t := T_int) o_T_int i_T_int)
theorem wf_im : ∀ (l : List Int) (n : Nat), l.length = n → wfV (List.replicate n [Lf.i .i64]).flatten (im l)
  | [], 0, _ => trivial
  | x :: l, n + 1, h => ⟨rfl, wf_im l n (by simpa using h)⟩
  | [], _ + 1, h => by simp at h
  | _ :: _, 0, h => by simp at h
theorem eqV_im : ∀ (r q : List Int), r.length = q.length → eqV (im r) (im q) = decide (r = q)
  | [], [], _ => rfl
  | n :: r, m :: q, h => by
    have := eqV_im r q (by simpa using h)
    show ((n == m) && eqV (im r) (im q)) = _
    rw [this, Bool.eq_iff_iff]
    simp
  | [], _ :: _, h => by simp at h
  | _ :: _, [], h => by simp at h
section
variable {w : World} {K : Value → World → Prop}
theorem eq_32 {r q : List Int} (h1 : r.length = 32) (h2 : q.length = 32) : wBin P .eql T_A32int (.agg ⟨im r⟩) (.agg ⟨im q⟩) w K = K (.bool (decide (r = q))) w := by
  rw [eq_T E_A32int (by omega) e_T_A32int (wf_im r 32 h1) (wf_im q 32 h2), eqV_im r q (by omega)]
theorem ne_32 {r q : List Int} (h1 : r.length = 32) (h2 : q.length = 32) : wBin P .neq T_A32int (.agg ⟨im r⟩) (.agg ⟨im q⟩) w K = K (.bool (!decide (r = q))) w := by
  rw [ne_T E_A32int (by omega) e_T_A32int (wf_im r 32 h1) (wf_im q 32 h2), eqV_im r q (by omega)]
theorem law05_CodecPointers {r : List Int} {a1 : Value} {bs : List Nat} {k : Value → World → Prop} (hr : r.length = 32) (Sb : SlG w 1 a1 (bvs bs)) (hbs : ∀ b ∈ bs, b < 256)
    (hk : ∀ w', Ex [] w w' → k (.bool true) w') : wCall P n_law05_CodecPointers [.agg ⟨im r⟩, a1] w k := by
  refine call_law05_CodecPointers _ _ ?_
  unfold F_law05_CodecPointers
  have hrl : (im r).length = 32 := by rw [im_length, hr]
  have hzl : (im (List.replicate 32 0)).length = 32 := by rw [im_length, List.length_replicate]
  refine box_i (vs := im r) rfl fun w1 g2 hg2 hE1 B2 => ?_
  refine law05_awake fun w2 hE2 => ?_
  rw [un_not, show (!true) = false from rfl, wIf_f]
  have E2 := hE1.trans hE2
  have B22 := B2.ex hE2 (by simp)
  rw [ld_aggT g_T_A32int hrl _ _ _ B22]
  refine codec_WritePointers hr fun w5 hE5 => ?_
  have hs128 : ((ptrW r).getD zeroS).length = 128 := wrV_len (ptrW_len hr)
  have hslt := getD_s (o := ptrW r) ptrW_lt
  have hrd : ∀ s, ptrW r = some s → ptrR s = some r := fun s h => ptrR_ptrW hr h
  generalize ho : ptrW r = o at *
  unfold wrV
  rw [ext_0, ext_1]
  refine alloc_i z_T_api_Sector (vs := List.replicate 128 (.int .u8 0)) rfl fun w6 g6 hg6 hE6 B6 => ?_
  refine st_sector g_T_api_Sector hs128 B6 List.length_replicate fun w7 hE7 B7 => ?_
  have E27 : Ex [] w2 w7 := hE5.trans (hE6.new hE7 (by omega))
  have B27 := B22.ex E27 (by simp)
  rw [ld_aggT g_T_A32int hrl _ _ _ B27]
  refine ref05_WritePointers hr fun w8 hE8 => ?_
  rw [ho]
  unfold wrB
  rw [ext_0, ext_1]
  refine alloc_i z_T_A128uint8 (vs := List.replicate 128 (.int .u8 0)) rfl fun w9 g9 hg9 hE9 B9 => ?_
  refine st_sector g_T_A128uint8 hs128 B9 List.length_replicate fun w10 hE10 B10 => ?_
  have E7_10 : Ex [] w7 w10 := hE8.trans (hE9.new hE10 (by omega))
  have B710 := B7.ex E7_10 (by simp)
  have B210 := B27.ex E7_10 (by simp)
  have E10 : Ex [] w w10 := (E2.trans E27).trans E7_10
  rw [ld_sector g_T_api_Sector hs128 B710, ld_sector g_T_A128uint8 hs128 B10, ne_sector hs128 hs128, decide_eq_true rfl, show (!true) = false from rfl]
  refine or_i (r := false) (fun _ k' hk' => ?_) ?_
  · have he : decide ((if o.isSome = true then (0 : Int) else 1) = 0) = o.isSome := by cases o <;> rfl
    rw [bin_eql, he, bin_bneq _ _ b_T_bool]
    simpa using hk'
  refine or_i (r := false) (fun _ k' hk' => ?_) ?_
  · rw [un_not]
    refine and_i (r := decide ((if o.isSome = true then (0 : Int) else 1) ≠ 1)) (fun _ k2 hk2 => by rw [bin_neq]; exact hk2) ?_
    have he : (!o.isSome && decide ((if o.isSome = true then (0 : Int) else 1) ≠ 1)) = false := by cases o <;> rfl
    rw [he]
    exact hk'
  rw [show ((false || false) || false) = false from rfl, wIf_f, ld_sector g_T_api_Sector hs128 B710]
  refine codec_ReadPointers hs128 hslt fun w11 hE11 => ?_
  generalize hq : ptrR (o.getD zeroS) = oq
  have hql : (oq.getD (List.replicate 32 0)).length = 32 := by
    cases oq with
    | none => rfl
    | some q => exact ptrR_len hq
  have hqi : (im (oq.getD (List.replicate 32 0))).length = 32 := by rw [im_length, hql]
  have hor : o.isSome = true → oq = some r := by
    intro h
    cases o with
    | none => cases h
    | some s =>
      have := hrd s rfl
      rw [← hq]
      exact this
  rw [ext_0, ext_1]
  refine alloc_i z_T_A32int (vs := im (List.replicate 32 0)) rfl fun w12 g12 hg12 hE12 B12 => ?_
  refine st_all g_T_A32int hqi (im_isC _) B12 hzl fun w13 hE13 B13 => ?_
  have E10_13 : Ex [] w10 w13 := hE11.trans (hE12.new hE13 (by omega))
  refine and_w (r := false) (fun hos k' hk' => ?_) fun w14 hE14 => ?_
  · have hor := hor hos
    subst hor
    rw [Option.isSome_some, if_pos rfl, bin_neq]
    refine or_w (r := false) (fun _ k2 hk2 => ?_) fun wi hEi => hk' wi hEi
    rw [ld_aggT g_T_A32int hqi _ _ _ B13, ld_aggT g_T_A32int hrl _ _ _ (B210.ex E10_13 (by simp)), ne_32 hql hr, Option.getD_some, decide_eq_true rfl]
    exact hk2 _ (Ex.refl _ _)
  · rw [Bool.and_false, wIf_f]
    have E10_14 := E10_13.trans hE14
    refine ref01_FullB (Sb.ex0 (E10.trans E10_14)) fun wb hEb => ?_
    generalize hs1e : bs.take 128 ++ List.replicate (128 - bs.length) 0 = s1
    have hs1 : s1.length = 128 := by rw [← hs1e]; simp; omega
    have hb1 : ∀ b ∈ s1, b < 256 := by
      intro b hb
      rw [← hs1e, List.mem_append] at hb
      rcases hb with hb | hb
      · exact hbs b (List.mem_of_mem_take hb)
      · rw [(List.mem_replicate.1 hb).2]; omega
    refine alloc_i z_T_A128uint8 (vs := List.replicate 128 (.int .u8 0)) rfl fun wc gc hgc hEc Bc => ?_
    refine st_sector g_T_A128uint8 hs1 Bc List.length_replicate fun wd hEd Bd => ?_
    have Ed : Ex [] w wd := (E10.trans E10_14).trans (hEb.trans (hEc.new hEd (by omega)))
    rw [ld_sector g_T_A128uint8 hs1 Bd]
    refine codec_ReadPointers hs1 hb1 fun we hEe => ?_
    generalize hp : ptrR s1 = op
    have hpl : (op.getD (List.replicate 32 0)).length = 32 := by
      cases op with
      | none => rfl
      | some q => exact ptrR_len hp
    have hpi : (im (op.getD (List.replicate 32 0))).length = 32 := by rw [im_length, hpl]
    rw [ext_0, ext_1]
    refine alloc_i z_T_A32int (vs := im (List.replicate 32 0)) rfl fun wf gf hgf hEf Bf => ?_
    refine st_all g_T_A32int hpi (im_isC _) Bf hzl fun wg hEg Bg => ?_
    have Edg : Ex [] wd wg := hEe.trans (hEf.new hEg (by omega))
    rw [ld_sector g_T_A128uint8 hs1 (Bd.ex Edg (by simp))]
    refine ref05_ReadPointers hs1 hb1 fun wh hEh => ?_
    rw [hp, ext_0, ext_1]
    refine alloc_i z_T_A32int (vs := im (List.replicate 32 0)) rfl fun wi gi hgi hEi Bi => ?_
    refine st_all g_T_A32int hpi (im_isC _) Bi hzl fun wj hEj Bj => ?_
    have Ehj : Ex [] wh wj := hEi.new hEj (by omega)
    rw [ld_aggT g_T_A32int hpi _ _ _ ((Bg.ex hEh (by simp)).ex Ehj (by simp)), ld_aggT g_T_A32int hpi _ _ _ Bj, eq_32 hpl hpl, decide_eq_true rfl]
    refine and_i (r := true) (fun _ k' hk' => ?_) ?_
    · have he : decide ((if op.isSome = true then (0 : Int) else 21) = 0) = op.isSome := by cases op <;> rfl
      rw [bin_eql, he, bin_beql _ _ b_T_bool]
      simpa using hk'
    refine and_i (r := true) (fun _ k' hk' => ?_) ?_
    · refine or_i (r := decide ((if op.isSome = true then (0 : Int) else 21) = 21)) (fun _ k2 hk2 => by rw [bin_eql]; exact hk2) ?_
      have : (op.isSome || decide ((if op.isSome = true then (0 : Int) else 21) = 21)) = true := by cases op <;> rfl
      rw [this]
      exact hk'
    exact hk wj (((Ed.trans Edg).trans hEh).trans Ehj)
end
end Go.Dn
end
section
/-! What an argument reads: structs, arrays and slices of whole numbers and truths, in one another. -/
set_option maxRecDepth 10000
set_option linter.unusedVariables false
set_option linter.unusedSimpArgs false
namespace Go.Dn
open Go Go.ChangeShapes Go.WideShapes Go.Deep
def ArgP {H : Type} (enc : TypeId × Value → H) (P : Program) (w : World) (base : Nat) (held : Bool) (t : TypeId) (n : Nat) (R : List Value → Prop) : Prop :=
  ∀ (fuel : Nat) (cs : List Value) (x : DataW H × List MemPlace), DataW.trod enc P w base (fun _ => true) held fuel t cs = some x → cs.length = n ∧ R cs
section
variable {H : Type} {enc : TypeId × Value → H} {P : Program} {w : World} {base : Nat} {held : Bool} {t : TypeId}
theorem argp_int {k : IntKind} (ht : P.underlying t = some (.int k)) : ArgP enc P w base held t 1 fun cs => ∃ n, cs = [.int k n] ∧ (Lit.int k n).wf = true := by
  intro fuel cs x h
  obtain ⟨n, rfl, _, hw⟩ := DataW.trod_int ht h
  exact ⟨rfl, n, rfl, hw⟩
theorem argp_bool (ht : P.underlying t = some .bool) : ArgP enc P w base held t 1 fun cs => ∃ b, cs = [.bool b] := by
  intro fuel cs x h
  obtain ⟨b, rfl, _⟩ := DataW.trod_bool ht h
  exact ⟨rfl, b, rfl⟩
theorem ArgP.imp {n : Nat} {R R' : List Value → Prop} (h : ArgP enc P w base held t n R) (hR : ∀ cs, cs.length = n → R cs → R' cs) : ArgP enc P w base held t n R' :=
  fun fuel cs x hx => let ⟨h1, h2⟩ := h fuel cs x hx; ⟨h1, hR cs h1 h2⟩
/-- A struct's cells, field by field. -/
def RL : List (TypeId × Nat × (List Value → Prop)) → List Value → Prop
  | [], cs => cs = []
  | (_, n, R) :: L, cs => ∃ a b, cs = a ++ b ∧ a.length = n ∧ R a ∧ RL L b
def AL {H : Type} (enc : TypeId × Value → H) (P : Program) (w : World) (base : Nat) (held : Bool) : List (TypeId × Nat × (List Value → Prop)) → Prop
  | [] => True
  | (ty, n, R) :: L => ArgP enc P w base held ty n R ∧ AL enc P w base held L
def offL : Nat → List (TypeId × Nat × (List Value → Prop)) → List (Nat × TypeId × Nat)
  | _, [] => []
  | o, (ty, n, _) :: L => (o, ty, n) :: offL (o + n) L
theorem rl_of {fuel : Nat} {cs : List Value} : ∀ (fs : List Field) (L : List (TypeId × Nat × (List Value → Prop))) (o : Nat), fs.map (fun f => (f.offset, f.type, P.cellsOf f.type)) = offL o L → AL enc P w base held L → cs.length = o + (L.map (·.2.1)).sum →
    (∀ (i : Nat) (f : Field), fs[i]? = some f → ∃ x, DataW.trod enc P w base (fun _ => true) held fuel f.type ((cs.drop f.offset).take (P.cellsOf f.type)) = some x) → RL L (cs.drop o)
  | [], [], o, _, _, hl, _ => by simp at hl; simp [RL, List.drop_of_length_le (show cs.length ≤ o by omega)]
  | f :: fs, (ty, n, R) :: L, o, hm, hA, hl, hf => by
    simp only [List.map_cons, offL, List.cons.injEq, Prod.mk.injEq] at hm
    obtain ⟨⟨h1, h2, h3⟩, hm⟩ := hm
    obtain ⟨x, hx⟩ := hf 0 f rfl
    rw [h1, h2] at hx
    rw [h2] at h3
    rw [h3] at hx
    obtain ⟨hln, hR⟩ := hA.1 _ _ _ hx
    refine ⟨(cs.drop o).take n, (cs.drop o).drop n, (List.take_append_drop n (cs.drop o)).symm, hln, hR, ?_⟩
    rw [List.drop_drop]
    exact rl_of fs L (o + n) hm hA.2 (by simp at hl ⊢; omega) fun i g hg => hf (i + 1) g (by simpa using hg)
  | [], _ :: _, _, h, _, _, _ => by simp [offL] at h
  | _ :: _, [], _, h, _, _, _ => by simp [offL] at h
theorem argp_struct {L : List (TypeId × Nat × (List Value → Prop))} (ht : P.underlying t = some (.struct (P.fieldsOf t))) (hm : (P.fieldsOf t).toList.map (fun f => (f.offset, f.type, P.cellsOf f.type)) = offL 0 L) (hC : P.cellsOf t = (L.map (·.2.1)).sum)
    (hA : AL enc P w base held L) : ArgP enc P w base held t (L.map (·.2.1)).sum (RL L) := by
  intro fuel cs x h
  obtain ⟨xs, n, _, _, hlen, hxl, hf⟩ := DataW.trod_struct ht h
  refine ⟨by rw [hlen, hC], ?_⟩
  have := rl_of (fuel := n) (cs := cs) _ L 0 hm hA (by rw [hlen, hC]; omega) fun i f hi => by
    have hi' : (P.fieldsOf t)[i]? = some f := by rw [← Array.getElem?_toList]; exact hi
    have hlt : i < (P.fieldsOf t).size := (Array.getElem?_eq_some_iff.1 hi').1
    exact ⟨xs[i], (hf i f hi').trans (List.getElem?_eq_getElem (by omega))⟩
  simpa using this
theorem argp_array {e : TypeId} {m n : Nat} {R : List Value → Prop} (ht : P.underlying t = some (.array m e)) (hC : P.cellsOf t = m * n) (hCe : P.cellsOf e = n) (hE : ArgP enc P w base held e n R) :
    ArgP enc P w base held t (m * n) fun cs => ∃ xss : List (List Value), cs = xss.flatten ∧ xss.length = m ∧ ∀ xs ∈ xss, xs.length = n ∧ R xs := by
  intro fuel cs x h
  obtain ⟨ys, k, _, _, hlen, hyl, hf⟩ := DataW.trod_array ht h
  rw [hC] at hlen
  rw [hCe] at hf
  refine ⟨hlen, (List.range m).map fun i => (cs.drop (i * n)).take n, ?_, by simp, ?_⟩
  · have key : ∀ j, j ≤ m → ((List.range j).map fun i => (cs.drop (i * n)).take n).flatten = cs.take (j * n) := by
      intro j
      induction j with
      | zero => intro _; simp
      | succ j ih =>
        intro hj
        rw [List.range_succ, List.map_append, List.flatten_append, ih (by omega), Nat.succ_mul, List.take_add]
        simp
    rw [key m (Nat.le_refl _), List.take_of_length_le (by omega)]
  · intro xs hx
    obtain ⟨i, hi, rfl⟩ := List.mem_map.1 hx
    rw [List.mem_range] at hi
    have := hf i hi
    rw [List.getElem?_eq_getElem (by omega)] at this
    exact hE _ _ _ this
theorem list_of' {α : Type} {Q : Nat → α → Prop} : ∀ n, (∀ i, i < n → ∃ u, Q i u) → ∃ l : List α, l.length = n ∧ ∀ i u, l[i]? = some u → Q i u
  | 0, _ => ⟨[], rfl, by simp⟩
  | n + 1, h => by
    obtain ⟨l, hl, hq⟩ := list_of' n fun i hi => h i (by omega)
    obtain ⟨u, hu⟩ := h n (by omega)
    refine ⟨l ++ [u], by simp [hl], fun i x hx => ?_⟩
    rw [List.getElem?_append] at hx
    split at hx
    · exact hq i x hx
    · rename_i hge
      have : i = l.length := by
        have := (List.getElem?_eq_some_iff.1 hx).1
        simp at this; omega
      subst this
      simp at hx
      subst hx
      rw [hl]; exact hu
theorem flatten_get {n : Nat} : ∀ (xss : List (List Value)) (i : Nat), (∀ xs ∈ xss, xs.length = n) → 0 < n → ∀ v, xss.flatten[i]? = some v → ∃ xs, xss[i / n]? = some xs ∧ xs[i % n]? = some v
  | [], i, _, _, v, h => by simp at h
  | x :: xss, i, hl, hn, v, h => by
    have hx := hl x (List.mem_cons_self ..)
    rw [List.flatten_cons, List.getElem?_append] at h
    split at h
    · rename_i hlt
      rw [hx] at hlt
      rw [Nat.div_eq_of_lt hlt, Nat.mod_eq_of_lt hlt]
      exact ⟨x, rfl, h⟩
    · rename_i hge
      rw [hx] at hge h
      obtain ⟨xs, h1, h2⟩ := flatten_get xss (i - n) (fun y hy => hl y (List.mem_cons_of_mem _ hy)) hn v h
      have e1 : i / n = (i - n) / n + 1 := by
        rw [Nat.div_eq_sub_div hn (by omega)]
      have e2 : i % n = (i - n) % n := by rw [Nat.mod_eq_sub_mod (by omega)]
      rw [e1, e2]
      exact ⟨xs, by simpa using h1, h2⟩
theorem flatten_len {n : Nat} : ∀ (xss : List (List Value)), (∀ xs ∈ xss, xs.length = n) → xss.flatten.length = xss.length * n
  | [], _ => by simp
  | x :: xss, h => by
    rw [List.flatten_cons, List.length_append, h x (List.mem_cons_self ..), flatten_len xss fun y hy => h y (List.mem_cons_of_mem _ hy), List.length_cons, Nat.succ_mul]
    omega
theorem argp_slice {e : TypeId} {n : Nat} {R : List Value → Prop} (ht : P.underlying t = some (.slice e)) (hn : 0 < n) (hCe : P.cellsOf e = n) (hE : ArgP enc P w base held e n R) :
    ArgP enc P w base held t 1 fun cs => ∃ v xss, cs = [v] ∧ SlG w n v (List.flatten xss) ∧ ∀ xs ∈ xss, xs.length = n ∧ R xs := by
  intro fuel cs x h
  rcases open_slice ht h with h0 | ⟨a, len, cap, m, k, D, Pl, hcs, hb, hl, hm, hmm, hx, hi⟩
  · exact ⟨by rw [h0.1]; rfl, .slice none 0 0, [], h0.1, SlG.nil w n, by simp⟩
  · refine ⟨by rw [hcs]; rfl, .slice (some a) len cap, ?_⟩
    simp only [if_true] at hmm
    subst hmm
    rw [hCe] at hi
    have key : ∀ i, i < len → ∃ cs' : List Value, (cs'.length = n ∧ R cs') ∧ ∀ j, j < n → w.cell? ((a.add (i * n)).add j) = cs'[j]? := by
      intro i hlt
      obtain ⟨cs', hc, htr⟩ := hi i (by omega)
      obtain ⟨_, hcl, hat⟩ := World.cells?_some hc
      exact ⟨cs', hE _ _ _ htr, hat⟩
    obtain ⟨xss, hxl, hxs⟩ := list_of' len key
    have hall : ∀ xs ∈ xss, xs.length = n ∧ R xs := fun xs hx => by
      obtain ⟨i, hi⟩ := List.mem_iff_getElem?.1 hx
      exact (hxs i xs hi).1
    have hfl := flatten_len xss fun xs hx => (hall xs hx).1
    refine ⟨xss, hcs, ⟨some a, len, m, rfl, by rw [hfl, hxl], hl, fun hne => ?_⟩, hall⟩
    obtain ⟨b, o, s⟩ := a
    have hs : s = none := by
      have h0 : 0 < xss.length := by omega
      obtain ⟨y, hy⟩ : ∃ y, w.cell? (((⟨b, o, s⟩ : Addr).add (0 * n)).add 0) = some y := by
        have hq := hxs 0 xss[0] (List.getElem?_eq_getElem h0)
        exact ⟨_, (hq.2 0 hn).trans (List.getElem?_eq_getElem (by rw [hq.1.1]; exact hn))⟩
      clear hi hxs key hall
      cases s with
      | none => rfl
      | some x =>
        exfalso
        rw [Nat.zero_mul] at hy
        unfold World.cell? Addr.add at hy
        repeat' split at hy
        all_goals simp_all
    subst hs
    refine ⟨b, o, rfl, fun i v hv => ?_⟩
    obtain ⟨xs, h1, h2⟩ := flatten_get xss i (fun xs hx => (hall xs hx).1) hn v hv
    have hq := hxs _ _ h1
    have hc := hq.2 (i % n) (Nat.mod_lt _ hn)
    rw [h2] at hc
    rw [← hc, add_pl, add_pl]
    congr 2
    have := Nat.div_add_mod i n
    rw [Nat.mul_comm] at this
    omega
end
end Go.Dn
end
section
/-! What arguments of the reference's types read. -/
set_option maxRecDepth 10000
set_option linter.unusedVariables false
set_option linter.unusedSimpArgs false
namespace Go.Dn
open Go Go.ChangeShapes Go.WideShapes Go.Deep
def ints (l : List (TypeId × IntKind)) : List (TypeId × Nat × (List Value → Prop)) := l.map fun x => (x.1, 1, fun cs => ∃ n, cs = [.int x.2 n] ∧ (Lit.int x.2 n).wf = true)
theorem wf_inR1 {k : IntKind} {n : Int} (hk : k = .u64 ∨ k = .i64 ∨ k = .u32) (h : (Lit.int k n).wf = true) : inR1 k n := by
  have h : (decide (k.min ≤ n) && decide (n ≤ k.max)) = true := h
  simp only [Bool.and_eq_true, decide_eq_true_eq] at h
  rcases hk with rfl | rfl | rfl
  · have h1 : (0 : Int) ≤ n := h.1
    have h2 : n ≤ 18446744073709551615 := h.2
    exact ⟨h1, by omega⟩
  · have h1 : (-9223372036854775808 : Int) ≤ n := h.1
    have h2 : n ≤ 9223372036854775807 := h.2
    exact ⟨h1, h2⟩
  · have h1 : (0 : Int) ≤ n := h.1
    have h2 : n ≤ 4294967295 := h.2
    exact ⟨h1, by omega⟩
theorem rl_ints : ∀ (l : List (TypeId × IntKind)) (cs : List Value), (∀ x ∈ l, x.2 = .u64 ∨ x.2 = .i64 ∨ x.2 = .u32) → RL (ints l) cs → ∃ r, cs = rc (l.map (·.2)) r ∧ r.length = l.length ∧ inR (l.map (·.2)) r
  | [], cs, _, h => ⟨[], h, rfl, trivial⟩
  | x :: l, cs, hk, h => by
    obtain ⟨a, b, rfl, _, ⟨n, rfl, hw⟩, hb⟩ := h
    obtain ⟨r, rfl, hl, hin⟩ := rl_ints l b (fun y hy => hk y (List.mem_cons_of_mem _ hy)) hb
    exact ⟨n :: r, rfl, by simp [hl], wf_inR1 (hk x (List.mem_cons_self ..)) hw, hin⟩
theorem rl_append : ∀ (L1 L2 : List (TypeId × Nat × (List Value → Prop))) (cs : List Value), RL (L1 ++ L2) cs → ∃ a b, cs = a ++ b ∧ RL L1 a ∧ RL L2 b
  | [], L2, cs, h => ⟨[], cs, rfl, rfl, h⟩
  | x :: L1, L2, cs, h => by
    obtain ⟨a, b, rfl, h1, h2, h3⟩ := h
    obtain ⟨c, d, rfl, h4, h5⟩ := rl_append L1 L2 b h3
    exact ⟨a ++ c, d, by simp, ⟨a, c, rfl, h1, h2, h4⟩, h5⟩
section
variable {H : Type} {enc : TypeId × Value → H} {w : World} {base : Nat} {held : Bool}
theorem al_ints : ∀ (l : List (TypeId × IntKind)), (∀ x ∈ l, P.underlying x.1 = some (.int x.2)) → AL enc P w base held (ints l)
  | [], _ => trivial
  | x :: l, h => ⟨argp_int (h x (List.mem_cons_self ..)), al_ints l fun y hy => h y (List.mem_cons_of_mem _ hy)⟩
theorem al_append : ∀ (L1 L2 : List (TypeId × Nat × (List Value → Prop))), AL enc P w base held L1 → AL enc P w base held L2 → AL enc P w base held (L1 ++ L2)
  | [], L2, _, h => h
  | x :: L1, L2, h, h' => ⟨h.1, al_append L1 L2 h.2 h'⟩
theorem ints_sum (l : List (TypeId × IntKind)) : ((ints l).map (·.2.1)).sum = l.length := by
  induction l with
  | nil => rfl
  | cons x l ih => simp only [ints, List.map_cons, List.sum_cons, List.length_cons] at ih ⊢; omega
/-- A record among the arguments. -/
theorem argp_rec {t : TypeId} (l : List (TypeId × IntKind)) (ht : P.underlying t = some (.struct (P.fieldsOf t))) (hm : (P.fieldsOf t).toList.map (fun f => (f.offset, f.type, P.cellsOf f.type)) = offL 0 (ints l)) (hC : P.cellsOf t = l.length) (hu : ∀ x ∈ l, P.underlying x.1 = some (.int x.2))
    (hk : ∀ x ∈ l, x.2 = .u64 ∨ x.2 = .i64 ∨ x.2 = .u32) : ArgP enc P w base held t l.length fun cs => ∃ r, cs = rc (l.map (·.2)) r ∧ r.length = l.length ∧ inR (l.map (·.2)) r := by
  have hs := ints_sum l
  have := argp_struct (enc := enc) (w := w) (base := base) (held := held) ht hm (by rw [hC, hs]) (al_ints l hu)
  rw [hs] at this
  exact this.imp fun cs _ h => rl_ints l cs hk h
theorem args_rcs {ks : List IntKind} {n : Nat} (hn : n = ks.length) : ∀ (xss : List (List Value)), (∀ xs ∈ xss, xs.length = n ∧ ∃ r, xs = rc ks r ∧ r.length = n ∧ inR ks r) → ∃ rs, xss.flatten = rcs ks rs ∧ lenR ks rs ∧ ∀ r ∈ rs, inR ks r
  | [], _ => ⟨[], rfl, by intro r hr; simp at hr, by simp⟩
  | x :: xss, h => by
    obtain ⟨_, r, rfl, hl, hin⟩ := h x (List.mem_cons_self ..)
    obtain ⟨rs, he, hlr, hir⟩ := args_rcs hn xss fun y hy => h y (List.mem_cons_of_mem _ hy)
    refine ⟨r :: rs, by rw [List.flatten_cons, he, rcs_cons], fun q hq => ?_, fun q hq => ?_⟩
    · rcases List.mem_cons.1 hq with rfl | hq
      · rw [hl, hn]
      · exact hlr q hq
    · rcases List.mem_cons.1 hq with rfl | hq
      · exact hin
      · exact hir q hq
theorem arg_list {t e : TypeId} {n : Nat} {ks : List IntKind} (hn : n = ks.length) (hn0 : 0 < n) (hu : P.underlying t = some (.slice e)) (hC : P.cellsOf e = n) (hE : ArgP enc P w base held e n fun cs => ∃ r, cs = rc ks r ∧ r.length = n ∧ inR ks r)
    {v : Value} {d : DataW H} {p : List MemPlace} (hc : v.cells = #[v]) (h : DataW.Trod enc P w base (fun _ => true) held t v d p) : ∃ rs, SlG w n v (rcs ks rs) ∧ lenR ks rs ∧ ∀ r ∈ rs, inR ks r := by
  obtain ⟨fuel, hf⟩ := h
  rw [hc] at hf
  obtain ⟨_, v', xss, he, hS, hall⟩ := argp_slice hu hn0 hC hE _ _ _ hf
  simp at he
  subst he
  obtain ⟨rs, hfl, h1, h2⟩ := args_rcs hn xss hall
  rw [hfl] at hS
  exact ⟨rs, hS, h1, h2⟩
theorem p_Use : ArgP enc P w base held T_ref05_Use 3 fun cs => ∃ r, cs = rc kUse r ∧ r.length = 3 ∧ inR kUse r :=
  argp_rec [(T_int, .i64), (T_int, .i64), (T_uint32, .u32)] (by kernel_rfl) (by kernel_rfl) (by kernel_rfl) (by simp only [List.mem_cons, List.not_mem_nil, or_false]; rintro x (rfl | rfl | rfl) <;> first | exact i_T_int | exact i_T_uint32) (by decide)
theorem p_Slot : ArgP enc P w base held T_ref05_Slot 4 fun cs => ∃ r, cs = rc kSlot r ∧ r.length = 4 ∧ inR kSlot r :=
  argp_rec [(T_int, .i64), (T_uint32, .u32), (T_int, .i64), (T_int, .i64)] (by kernel_rfl) (by kernel_rfl) (by kernel_rfl) (by simp only [List.mem_cons, List.not_mem_nil, or_false]; rintro x (rfl | rfl | rfl | rfl) <;> first | exact i_T_int | exact i_T_uint32) (by decide)
theorem p_Record : ArgP enc P w base held T_ref05_Record 4 fun cs => ∃ r, cs = rc kRecord r ∧ r.length = 4 ∧ inR kRecord r :=
  argp_rec [(T_uint32, .u32), (T_uint32, .u32), (T_int, .i64), (T_int, .i64)] (by kernel_rfl) (by kernel_rfl) (by kernel_rfl) (by simp only [List.mem_cons, List.not_mem_nil, or_false]; rintro x (rfl | rfl | rfl | rfl) <;> first | exact i_T_int | exact i_T_uint32) (by decide)
theorem arg_Uses {v : Value} {d : DataW H} {p : List MemPlace} (hc : v.cells = #[v]) (h : DataW.Trod enc P w base (fun _ => true) held T_Lref05_Use v d p) : ∃ rs, SlG w 3 v (rcs kUse rs) ∧ lenR kUse rs ∧ ∀ r ∈ rs, inR kUse r :=
  arg_list (n := 3) rfl (by omega) u_T_Lref05_Use (by kernel_rfl) p_Use hc h
theorem arg_Slots {v : Value} {d : DataW H} {p : List MemPlace} (hc : v.cells = #[v]) (h : DataW.Trod enc P w base (fun _ => true) held T_Lref05_Slot v d p) : ∃ rs, SlG w 4 v (rcs kSlot rs) ∧ lenR kSlot rs ∧ ∀ r ∈ rs, inR kSlot r :=
  arg_list (n := 4) rfl (by omega) u_T_Lref05_Slot (by kernel_rfl) p_Slot hc h
theorem arg_Records {v : Value} {d : DataW H} {p : List MemPlace} (hc : v.cells = #[v]) (h : DataW.Trod enc P w base (fun _ => true) held T_Lref05_Record v d p) : ∃ rs, SlG w 4 v (rcs kRecord rs) ∧ lenR kRecord rs ∧ ∀ r ∈ rs, inR kRecord r :=
  arg_list (n := 4) rfl (by omega) u_T_Lref05_Record (by kernel_rfl) p_Record hc h
theorem p_u8 : ArgP enc P w base held T_uint8 1 fun cs => ∃ b : Nat, cs = bvs [b] ∧ b < 256 :=
  (argp_int i_T_uint8).imp fun cs _ ⟨n, hn, hw⟩ => by
    have hw : (decide (IntKind.u8.min ≤ n) && decide (n ≤ IntKind.u8.max)) = true := hw
    simp only [Bool.and_eq_true, decide_eq_true_eq] at hw
    have h1 : (0 : Int) ≤ n := hw.1
    have h2 : n ≤ 255 := hw.2
    refine ⟨n.toNat, ?_, by omega⟩
    rw [hn]
    simp only [bvs, List.map_cons, List.map_nil]
    congr 2
    omega
theorem args_bvs : ∀ (xss : List (List Value)), (∀ xs ∈ xss, xs.length = 1 ∧ ∃ b : Nat, xs = bvs [b] ∧ b < 256) → ∃ bs, xss.flatten = bvs bs ∧ ∀ b ∈ bs, b < 256
  | [], _ => ⟨[], rfl, by simp⟩
  | x :: xss, h => by
    obtain ⟨_, b, rfl, hb⟩ := h x (List.mem_cons_self ..)
    obtain ⟨bs, he, hall⟩ := args_bvs xss fun y hy => h y (List.mem_cons_of_mem _ hy)
    refine ⟨b :: bs, by rw [List.flatten_cons, he]; rfl, fun q hq => ?_⟩
    rcases List.mem_cons.1 hq with rfl | hq
    · exact hb
    · exact hall q hq
theorem arg_bytes {v : Value} {d : DataW H} {p : List MemPlace} (hc : v.cells = #[v]) (h : DataW.Trod enc P w base (fun _ => true) held T_Luint8 v d p) : ∃ bs, SlG w 1 v (bvs bs) ∧ ∀ b ∈ bs, b < 256 := by
  obtain ⟨fuel, hf⟩ := h
  rw [hc] at hf
  obtain ⟨_, v', xss, he, hS, hall⟩ := argp_slice u_T_Luint8 (by omega) (by kernel_rfl) p_u8 _ _ _ hf
  simp at he
  subst he
  obtain ⟨bs, hfl, h1⟩ := args_bvs xss hall
  rw [hfl] at hS
  exact ⟨bs, hS, h1⟩
end
end Go.Dn
end
section
/-! Structs of the reference among the arguments. -/
set_option maxRecDepth 10000
set_option linter.unusedVariables false
set_option linter.unusedSimpArgs false
namespace Go.Dn
open Go Go.ChangeShapes Go.WideShapes Go.Deep
theorem okWide_arr {P : Program} {w : World} {r : Reach} {base : Nat} {t e : TypeId} {n : Nat} {v : Value} (ht : P.underlying t = some (.array n e)) (h : Value.okWide P w r base t v) : ∃ cs, v = .agg cs ∧ cs.size = P.cellsOf t := by
  simp only [Value.okWide, ht] at h
  obtain ⟨cs, h1, h2, _⟩ := h
  exact ⟨cs, h1, h2⟩
theorem args_ints {k : IntKind} (hk : k = .u64 ∨ k = .i64 ∨ k = .u32) : ∀ (xss : List (List Value)), (∀ xs ∈ xss, xs.length = 1 ∧ ∃ n, xs = [.int k n] ∧ (Lit.int k n).wf = true) → ∃ r : List Int, xss.flatten = rc (List.replicate xss.length k) r ∧ r.length = xss.length ∧ inR (List.replicate xss.length k) r
  | [], _ => ⟨[], rfl, rfl, trivial⟩
  | x :: xss, h => by
    obtain ⟨_, n, rfl, hw⟩ := h x (List.mem_cons_self ..)
    obtain ⟨r, he, hl, hin⟩ := args_ints hk xss fun y hy => h y (List.mem_cons_of_mem _ hy)
    exact ⟨n :: r, by rw [List.flatten_cons, he]; rfl, by simp [hl], wf_inR1 hk hw, hin⟩
theorem rc_app : ∀ (k1 k2 : List IntKind) (r1 r2 : List Int), r1.length = k1.length → rc k1 r1 ++ rc k2 r2 = rc (k1 ++ k2) (r1 ++ r2)
  | [], k2, [], r2, _ => rfl
  | _ :: k1, k2, n :: r1, r2, h => by
    have := rc_app k1 k2 r1 r2 (by simpa using h)
    show _ :: (rc k1 r1 ++ rc k2 r2) = _
    rw [this]; rfl
  | [], _, _ :: _, _, h => by simp at h
  | _ :: _, _, [], _, h => by simp at h
theorem inR_append : ∀ (k1 k2 : List IntKind) (r1 r2 : List Int), r1.length = k1.length → inR k1 r1 → inR k2 r2 → inR (k1 ++ k2) (r1 ++ r2)
  | [], k2, [], r2, _, _, h => h
  | _ :: k1, k2, n :: r1, r2, h, h1, h2 => ⟨h1.1, inR_append k1 k2 r1 r2 (by simpa using h) h1.2 h2⟩
  | [], _, _ :: _, _, h, _, _ => by simp at h
  | _ :: _, _, [], _, h, _, _ => by simp at h
section
variable {H : Type} {enc : TypeId × Value → H} {w : World} {base : Nat} {held : Bool}
theorem p_Header : ArgP enc P w base held T_ref05_Header 6 fun cs => ∃ r, cs = rc kHeader r ∧ r.length = 6 ∧ inR kHeader r :=
  argp_rec [(T_uint64, .u64), (T_uint64, .u64), (T_int, .i64), (T_int, .i64), (T_int, .i64), (T_uint32, .u32)] (by kernel_rfl) (by kernel_rfl) (by kernel_rfl) (by simp only [List.mem_cons, List.not_mem_nil, or_false]; rintro x (rfl | rfl | rfl | rfl | rfl | rfl) <;> first | exact i_T_int | exact i_T_uint32 | exact i_T_uint64) (by decide)
theorem p_A8int : ArgP enc P w base held T_A8int 8 fun cs => ∃ r, cs = rc (List.replicate 8 .i64) r ∧ r.length = 8 ∧ inR (List.replicate 8 .i64) r :=
  (argp_array (m := 8) (n := 1) (e := T_int) (by kernel_rfl) (by kernel_rfl) (by kernel_rfl) (argp_int i_T_int)).imp fun cs _ ⟨xss, hcs, hl, hall⟩ => by
    obtain ⟨r, he, hr, hin⟩ := args_ints (.inr (.inl rfl)) xss hall
    rw [hl] at he hr hin
    exact ⟨r, by rw [hcs, he], hr, hin⟩
theorem p_Inode : ArgP enc P w base held T_ref05_Inode 15 fun cs => ∃ r, cs = rc kInode r ∧ r.length = 15 ∧ inR kInode r := by
  have hA : AL enc P w base held (ints [(T_uint32, .u32), (T_uint32, .u32), (T_int, .i64), (T_int, .i64), (T_uint32, .u32)] ++ ((T_A8int, 8, fun cs => ∃ r, cs = rc (List.replicate 8 .i64) r ∧ r.length = 8 ∧ inR (List.replicate 8 .i64) r) :: ints [(T_int, .i64), (T_int, .i64)])) :=
    al_append _ _ (al_ints _ (by simp only [List.mem_cons, List.not_mem_nil, or_false]; rintro x (rfl | rfl | rfl | rfl | rfl) <;> first | exact i_T_int | exact i_T_uint32)) ⟨p_A8int, al_ints _ (by simp only [List.mem_cons, List.not_mem_nil, or_false]; rintro x (rfl | rfl) <;> exact i_T_int)⟩
  refine (argp_struct (t := T_ref05_Inode) (by kernel_rfl) (by kernel_rfl) (by kernel_rfl) hA).imp fun cs hl h => ?_
  obtain ⟨a, b, rfl, ha, c, d, rfl, hc, ⟨r2, rfl, hr2, hi2⟩, hd⟩ := rl_append _ _ _ h
  obtain ⟨r1, rfl, hr1, hi1⟩ := rl_ints _ _ (by decide) ha
  obtain ⟨r3, rfl, hr3, hi3⟩ := rl_ints _ _ (by decide) hd
  refine ⟨r1 ++ (r2 ++ r3), ?_, by simp [hr1, hr2, hr3], ?_⟩
  · exact (congrArg (rc _ r1 ++ ·) (rc_app (List.replicate 8 .i64) _ r2 r3 (by rw [hr2]; rfl))).trans (rc_app _ _ r1 _ (by rw [hr1]; rfl))
  · exact inR_append _ _ _ _ (by rw [hr1]; rfl) hi1 (inR_append (List.replicate 8 .i64) _ _ _ (by rw [hr2]; rfl) hi2 hi3)
theorem arg_of {t : TypeId} {n : Nat} {R : List Value → Prop} (hp : ArgP enc P w base held t n R) {cs : Array Value} {d : DataW H} {p : List MemPlace} (h : DataW.Trod enc P w base (fun _ => true) held t (.agg cs) d p) : ∃ vs, cs = ⟨vs⟩ ∧ R vs := by
  obtain ⟨fuel, hf⟩ := h
  exact ⟨cs.toList, rfl, (hp _ _ _ hf).2⟩
theorem arg_Inode {cs : Array Value} {d : DataW H} {p : List MemPlace} (h : DataW.Trod enc P w base (fun _ => true) held T_ref05_Inode (.agg cs) d p) : ∃ r, cs = ⟨rc kInode r⟩ ∧ r.length = 15 ∧ inR kInode r := by
  obtain ⟨vs, rfl, r, rfl, h1, h2⟩ := arg_of p_Inode h
  exact ⟨r, rfl, h1, h2⟩
theorem arg_Header {cs : Array Value} {d : DataW H} {p : List MemPlace} (h : DataW.Trod enc P w base (fun _ => true) held T_ref05_Header (.agg cs) d p) : ∃ r, cs = ⟨rc kHeader r⟩ ∧ r.length = 6 ∧ inR kHeader r := by
  obtain ⟨vs, rfl, r, rfl, h1, h2⟩ := arg_of p_Header h
  exact ⟨r, rfl, h1, h2⟩
theorem p_A32int : ArgP enc P w base held T_A32int 32 fun cs => ∃ l : List Int, cs = im l ∧ l.length = 32 ∧ inR (List.replicate 32 .i64) l :=
  (argp_array (m := 32) (n := 1) (e := T_int) (by kernel_rfl) (by kernel_rfl) (by kernel_rfl) (argp_int i_T_int)).imp fun cs _ ⟨xss, hcs, hl, hall⟩ => by
    obtain ⟨r, he, hr, hin⟩ := args_ints (.inr (.inl rfl)) xss hall
    rw [hl] at he hr hin
    refine ⟨r, ?_, hr, hin⟩
    rw [hcs, he]
    have key : ∀ (n : Nat) (q : List Int), q.length = n → rc (List.replicate n .i64) q = im q := by
      intro n
      induction n with
      | zero => intro q hq; cases q with | nil => rfl | cons _ _ => simp at hq
      | succ n ih =>
        intro q hq
        cases q with
        | nil => simp at hq
        | cons x q => show _ :: rc (List.replicate n .i64) q = _ :: im q; rw [ih q (by simpa using hq)]
    exact key 32 r hr
theorem arg_A32int {cs : Array Value} {d : DataW H} {p : List MemPlace} (h : DataW.Trod enc P w base (fun _ => true) held T_A32int (.agg cs) d p) : ∃ l : List Int, cs = ⟨im l⟩ ∧ l.length = 32 := by
  obtain ⟨vs, rfl, r, rfl, h1, _⟩ := arg_of p_A32int h
  exact ⟨r, rfl, h1⟩
end
end Go.Dn
end
section
/-! From a contract to 'Calls'. -/
set_option linter.unusedVariables false
set_option linter.unusedSimpArgs false
namespace Go.Dn
open Go
attribute [local semireducible] wCall wNext callW
theorem calls_of {P : Program} {f : FuncId} {fn : Func} {args : List Value} {w : World} {R : Value → World → Prop} (hf : P.funcs[f]? = some fn) (hname : (fn.name == "runtime.NumGoroutine") = false) (hb : fn.body.isNone = false) (h : wCall P f args w R) :
    Calls P f ⟨args⟩ w fun e w' => ∃ v, e = .returned v ∧ R v w' := by
  unfold wCall wNext callFunc at h
  simp only [program, Sem.run_bind, Sem.run, Result.andThen_ok, hf, hname, hb, Bool.false_eq_true, if_false] at h
  unfold callW at h
  refine Calls.mono h fun e w' he => ?_
  cases e <;> first | exact ⟨_, rfl, he⟩ | exact he.elim
end Go.Dn
end
