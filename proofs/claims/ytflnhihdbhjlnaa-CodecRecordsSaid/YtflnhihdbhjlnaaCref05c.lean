import Derived.Test.YtflnhihdbhjlnaaCref05b
/-! Contracts of the reference of layer 5: lists of slots, uses, records; printed by mkref05.py. -/
set_option maxRecDepth 10000
set_option linter.unusedVariables false
set_option linter.unusedSimpArgs false
namespace Go.Dn
open Go
theorem fill_recs {size : Nat} : ∀ (xs : List (List Value)) (cs : List Value) (i : Nat), (i + xs.length) * size = cs.length → (∀ x ∈ xs, x.length = size) →
    Instr.fill (fun i => some (i * size, size)) ⟨cs⟩ ((xs.zipIdx i).map fun p => (p.2, Value.agg ⟨p.1⟩)) = some ⟨cs.take (i * size) ++ xs.flatten⟩
  | [], cs, i, h, _ => by
    simp only [List.length_nil, Nat.add_zero] at h
    simp [List.take_of_length_le (show cs.length ≤ i * size by omega), Instr.fill]
  | x :: xs, cs, i, h, hx => by
    have hxl := hx x (List.mem_cons_self ..)
    simp only [List.zipIdx_cons, List.map_cons]
    simp only [List.length_cons] at h
    have hm : (i + (xs.length + 1)) * size = i * size + size + xs.length * size := by rw [Nat.add_mul, Nat.add_mul, Nat.one_mul]; omega
    have hsl : (splice cs (i * size) x).length = cs.length := splice_length (by omega)
    rw [fill_cons (vs := x) (off := i * size) (size := size) rfl rfl hxl (by omega), fill_recs xs _ (i + 1) (by rw [hsl, ← h]; congr 1; omega) fun y hy => hx y (List.mem_cons_of_mem _ hy)]
    congr 2
    unfold splice
    have e : (cs.take (i * size) ++ x).length = (i + 1) * size := by rw [List.length_append, List.length_take, hxl, Nat.succ_mul]; omega
    rw [List.take_append_of_le_length (by omega), List.take_of_length_le (by omega)]
    simp
section
variable {w : World} {K : Value → World → Prop}
/-- A slice literal of structs. -/
theorem buildS_recs {t e : TypeId} {z : Value} {n size : Nat} {xs : List (List Value)} {ps : List (Nat × Value)} (hps : ps = xs.zipIdx.map fun p => (p.2, Value.agg ⟨p.1⟩)) (hu : P.underlying t = some (.slice e)) (hsz : ∀ w, (sizeOf e).run P w = .ok size w) (hz : zeroT P e = some z)
    (hl : xs.length = n) (hn : n * size ≤ 16777216) (hx : ∀ x ∈ xs, x.length = size) (hk : ∀ w' g, g = w.heap.size → Ex [] w w' → Blk w' g e xs.flatten → K (.slice (some ⟨g, 0, none⟩) n n) w') : wBuildS P t n ps w K := by
  subst hps
  refine buildS_i hu hsz hz hn (cs := xs.flatten) ?_ hk
  generalize hc : (if n * size = 0 then #[] else (Array.range (n * size)).map (z.cells[· % z.cells.size]!)) = c
  have hcl : c.size = n * size := by
    rw [← hc]
    split
    · rename_i h; simp [h]
    · simp
  have := fill_recs (size := size) xs c.toList 0 (by simp [hl, hcl]) hx
  simpa using this
theorem bl_field {a b : Int} : wBuild P T_ref05_Field [(0, .int .i64 a), (1, .int .i64 b)] w K = K (.agg ⟨[.int .i64 a, .int .i64 b]⟩) w :=
  bl_T_ref05_Field (by rw [fill_cons (off := 0) (size := 1) rfl rfl rfl (by simp), fill_cons (off := 1) (size := 1) rfl rfl rfl (by simp [splice])]; rfl)
theorem conv_32_i64 {n : Int} (h : 0 ≤ n ∧ n < 4294967296) : wConv P T_uint32 T_int64 (.int .u32 n) w K = K (.int .i64 n) w := by
  rw [conv_i i_T_uint32 i_T_int64, IntWalk.i64_in _ (by omega)]
theorem conv_i64_32 {n : Int} (h : 0 ≤ n ∧ n < 4294967296) : wConv P T_int64 T_uint32 (.int .i64 n) w K = K (.int .u32 n) w := by
  rw [conv_i i_T_int64 i_T_uint32, IntWalk.u32_in _ (by omega)]
end
theorem flat_get {m : Nat} : ∀ (rs : List (List Int)) (j t : Nat) (r : List Int), (∀ r ∈ rs, r.length = m) → rs[j]? = some r → t < m → rs.flatten[j * m + t]? = r[t]?
  | [], j, t, r, _, h, _ => by simp at h
  | x :: rs, 0, t, r, hl, h, ht => by
    simp at h
    subst h
    have := hl x (List.mem_cons_self ..)
    rw [List.flatten_cons, Nat.zero_mul, Nat.zero_add, List.getElem?_append_left (by omega)]
  | x :: rs, j + 1, t, r, hl, h, ht => by
    have hx := hl x (List.mem_cons_self ..)
    rw [List.flatten_cons, List.getElem?_append_right (by rw [Nat.succ_mul]; omega), hx, show (j + 1) * m + t - m = j * m + t by rw [Nat.succ_mul]; omega]
    exact flat_get rs j t r (fun y hy => hl y (List.mem_cons_of_mem _ hy)) (by simpa using h) ht
theorem flat_length {m : Nat} : ∀ (rs : List (List Int)), (∀ r ∈ rs, r.length = m) → rs.flatten.length = rs.length * m
  | [], _ => by simp
  | x :: rs, h => by
    rw [List.flatten_cons, List.length_append, h x (List.mem_cons_self ..), flat_length rs fun y hy => h y (List.mem_cons_of_mem _ hy), List.length_cons, Nat.succ_mul]
    omega
theorem decR_ok (ws : List Nat) : ∀ (n : Nat) (b : List Nat), (∀ x ∈ b, x < 256) → n * ws.sum ≤ b.length → okR ws (decR ws b n) = true
  | 0, _, _, _ => rfl
  | n + 1, b, hb, hl => by
    rw [Nat.succ_mul] at hl
    show (okNs ws (decF ws b) && okR ws (decR ws (b.drop ws.sum) n)) = true
    rw [okFs_decF ws b hb (by omega), decR_ok ws n _ (fun x hx => hb x (List.mem_of_mem_drop hx)) (by rw [List.length_drop]; omega)]
    rfl
theorem recsOf_ok {ws body : List Nat} {rs : List (List Int)} (h : recsOf ws body = some rs) (hb : ∀ x ∈ body, x < 256) : wid ws rs ∧ okR ws rs = true := by
  unfold recsOf at h
  split at h
  · injection h with h
    subst h
    refine ⟨decR_wid ws _ _, decR_ok ws _ _ hb ?_⟩
    have := Nat.div_add_mod body.length ws.sum
    rw [Nat.mul_comm] at this
    omega
  · cases h
theorem openL_ok {kind : Nat} {ws s : List Nat} {rs : List (List Int)} (h : openL kind ws s = some rs) (hb : ∀ x ∈ s, x < 256) : wid ws rs ∧ okR ws rs = true := by
  unfold openL at h
  split at h
  · rename_i k body hop
    split at h
    · exact recsOf_ok h (sealOp_lt hb hop).2
    · cases h
  · cases h
theorem readL_open (kind : Nat) (ws : List Nat) (m : List (List Int) → Bool) (s : List Nat) : readL kind ws m s = match openL kind ws s with | some rs => if m rs = true then some rs else none | none => none := by
  unfold readL openL
  cases h : sealOp s with
  | none => rfl
  | some p =>
    obtain ⟨k, body⟩ := p
    simp only
    split <;> rfl
theorem inR_i64 : ∀ (ks : List IntKind) (r : List Int), (∀ k ∈ ks, k = .i64 ∨ k = .u32) → r.length = ks.length → inR ks r → ∀ n ∈ r, -9223372036854775808 ≤ n ∧ n ≤ 9223372036854775807
  | [], [], _, _, _ => by simp
  | k :: ks, n :: r, hk, hl, h => by
    intro x hx
    rcases List.mem_cons.1 hx with rfl | hx
    · rcases hk k (List.mem_cons_self ..) with rfl | rfl
      · exact h.1
      · have := h.1; unfold inR1 at this; omega
    · exact inR_i64 ks r (fun k hk' => hk k (List.mem_cons_of_mem _ hk')) (by simpa using hl) h.2 x hx
  | [], _ :: _, _, hl, _ => by simp at hl
  | _ :: _, [], _, hl, _ => by simp at hl
theorem zipR_ok {ks : List IntKind} {ws : List Nat} {rs : List (List Int)} (hk : ∀ k ∈ ks, k = .i64 ∨ k = .u32) (hw : ∀ wd ∈ ws, 1 ≤ wd ∧ wd ≤ 4) (hl : lenR ks rs) (hin : ∀ r ∈ rs, inR ks r) : ∀ f ∈ zipR ws rs, 1 ≤ f.1 ∧ f.1 ≤ 8 ∧ -9223372036854775808 ≤ f.2 ∧ f.2 ≤ 9223372036854775807 := by
  intro f hf
  obtain ⟨r, hr, h⟩ := List.mem_flatMap.1 hf
  have h1 := hw _ (List.of_mem_zip h).1
  have h2 := inR_i64 ks r hk (hl r hr) (hin r hr) _ (List.of_mem_zip h).2
  exact ⟨h1.1, by omega, h2.1, h2.2⟩
theorem zipR_length {ks : List IntKind} {ws : List Nat} (hw : ws.length = ks.length) : ∀ (rs : List (List Int)), lenR ks rs → (zipR ws rs).length = rs.length * ws.length
  | [], _ => by simp [zipR]
  | r :: rs, h => by
    show (ws.zip r ++ zipR ws rs).length = _
    rw [List.length_append, List.length_zip, h r (List.mem_cons_self ..), hw, zipR_length hw rs fun x hx => h x (List.mem_cons_of_mem _ hx), List.length_cons, Nat.succ_mul, hw]
    omega
theorem okN_rng {wd : Nat} {n : Int} (h : okN wd n = true) (hw : wd ≤ 4) : 0 ≤ n ∧ n < 4294967296 := by
  unfold okN at h
  simp only [Bool.and_eq_true, decide_eq_true_eq] at h
  have := pow256_4 hw
  omega
section
variable {w : World}

theorem el_rSlot : ElT T_Lref05_Slot T_ref05_Slot kSlot :=
  ⟨u_T_Lref05_Slot, s_T_Lref05_Slot, o_T_Lref05_Slot, g_T_ref05_Slot, z_T_ref05_Slot, fun w => sizeOf_agg g_T_ref05_Slot w, by decide, by decide, by simp [inR, inR1, kSlot, zs], fun ho hy hn hm hc hb hba hk => app_T_Lref05_Slot ho hy hn hm hc (by omega) hba hk⟩
theorem ref05_WriteSlots {v : Value} {rs : List (List Int)} {k : Value → World → Prop} (S : SlG w 4 v (rcs kSlot rs)) (hlen : lenR kSlot rs) (hin : ∀ r ∈ rs, inR kSlot r) (hn : rs.length ≤ 1000) (hk : ∀ w', Ex [] w w' → k (wrB (writeL 4 wSlot (mayL (mayB 3 0 2) 10) rs)) w') : wCall P n_ref05_WriteSlots [v] w k := by
  refine call_ref05_WriteSlots _ ?_
  unfold F_ref05_WriteSlots
  refine alloc_i z_T_A128uint8 (vs := List.replicate 128 (.int .u8 0)) rfl fun w1 g1 hg1 hE1 B1 => ?_
  have l1 := hE1.le
  have bad : ∀ wa, Ex [] w1 wa → ((mayL (mayB 3 0 2) 10) rs = false) → (wBuild P T_A128uint8 [] wa fun t35 w => wStore P T_A128uint8 (ptr g1) t35 w fun w => wRes P T_A128uint8 (ptr g1) w fun r4 => k (.tuple #[r4, (.bool false)]) w) := by
    intro wa hEa hno
    refine wrB_none (B1.ex hEa (by simp)) fun w' hE' => ?_
    have := hk w' ((hE1.trans hEa).new hE' (by omega))
    unfold writeL at this
    rw [if_neg (by simp [hno])] at this
    exact this
  refine j1_of (fun u w' => Ex [] w1 w' ∧ rs.all (mayB 3 0 2) = true ∧ Own w' w1.heap.size T_ref05_Field 2 u (fcs (zipR wSlot rs))) (fun k1 hk1 => ?_) ?_
  · refine loop_up2 rs.length (fun i u x w' => x = .int .i64 (i : Int) ∧ Ex [] w1 w' ∧ (rs.take i).all (mayB 3 0 2) = true ∧ Own w' w1.heap.size T_ref05_Field 2 u (fcs (zipR wSlot (rs.take i)))) ⟨rfl, Ex.refl _ _, rfl, Own.nil _ _ _ _⟩ ?_
    rintro i J u x w2 k2 hi ⟨rfl, hE2, hall, hO⟩ hk2
    have S2 := (S.ex0 hE1).ex0 hE2
    have l2 := hE2.le
    rw [S2.len_i u_T_Lref05_Slot (by omega) (rcs_length hlen), bin_lss]
    refine wIf_d (fun hlt => ?_) (fun hge => ?_)
    · have hlt : i < rs.length := by omega
      have hrl : rs[i].length = 4 := hlen _ (List.getElem_mem hlt)
      have hinr := hin _ (List.getElem_mem hlt)
      refine S2.ix s_T_Lref05_Slot (by omega) (rcs_length hlen) (by omega) (by omega) fun b o hcs => ?_
      rw [Int.toNat_natCast] at hcs
      have hcs := (rcs_elem (ks := kSlot) hlen hlt) ▸ hcs
      rw [ld_agg g_T_ref05_Slot hcs (rc_length hrl)]
      refine alloc_i z_T_ref05_Slot (vs := rc kSlot (zs kSlot)) rfl fun w3 g6 hg6 hE3 B6 => ?_
      refine st_all g_T_ref05_Slot (rc_length hrl) (rc_isC _ _) B6 (rc_length (zs_length kSlot)) fun w4 hE4 B6 => ?_
      have E4 : Ex [] w1 w4 := hE2.trans (hE3.new hE4 (by omega))
      have l4 := E4.le
      obtain ⟨a, b, c, d, hrr⟩ : ∃ a b c d, rs[i] = [a, b, c, d] := by
        match h : rs[i], hrl with
        | [a, b, c, d], _ => exact ⟨_, _, _, _, rfl⟩
      have hmr : mayB 3 0 2 rs[i] = (decide (0 ≤ d) && decide (d ≤ 2)) := by rw [hrr]; rfl
      rw [hrr] at B6 hinr
      have B6 : Blk w4 g6 T_ref05_Slot [.int .i64 a, .int .u32 b, .int .i64 c, .int .i64 d] := B6
      have hin1 : 0 ≤ b ∧ b < 4294967296 := hinr.2.1
      rw [fA_T_ref05_Slot_3, ld_one o_T_int (B6.cell 3 : _ = some (.int .i64 d)), bin_lss]
      refine or_i (r := decide ((2 : Int) < d)) (fun _ k' hk' => ?_) ?_
      · rw [fA_T_ref05_Slot_3, ld_one o_T_int (B6.cell 3 : _ = some (.int .i64 d)), bin_gtr]
        exact hk'
      refine wIf_i _ (fun hc => ?_) (fun hc => ?_)
      · refine bad w4 E4 ?_
        have hf : rs.all (mayB 3 0 2) = false := by
          rw [List.all_eq_false]
          refine ⟨rs[i], List.getElem_mem hlt, ?_⟩
          rw [hmr]
          simp only [Bool.or_eq_true, decide_eq_true_eq] at hc
          simp only [Bool.and_eq_true, decide_eq_true_eq]
          omega
        unfold mayL
        rw [hf, Bool.false_and]
      · have hmt : mayB 3 0 2 rs[i] = true := by
          rw [hmr]
          simp only [Bool.or_eq_false_iff, decide_eq_false_iff_not] at hc
          simp only [Bool.and_eq_true, decide_eq_true_eq]
          omega
        rw [fA_T_ref05_Slot_0, ld_one o_T_int (B6.cell 0 : _ = some (.int .i64 a)), bl_field, fA_T_ref05_Slot_1, ld_one o_T_uint32 (B6.cell 1 : _ = some (.int .u32 b)), conv_32_i64 hin1, bl_field, fA_T_ref05_Slot_2, ld_one o_T_int (B6.cell 2 : _ = some (.int .i64 c)), bl_field, fA_T_ref05_Slot_3, ld_one o_T_int (B6.cell 3 : _ = some (.int .i64 d)), bl_field]
        refine buildS_recs (size := 2) (n := 4) (xs := [[.int .i64 4, .int .i64 a], [.int .i64 4, .int .i64 b], [.int .i64 2, .int .i64 c], [.int .i64 1, .int .i64 d]]) rfl u_T_Lref05_Field (fun w => sizeOf_agg g_T_ref05_Field w) z_T_ref05_Field rfl (by omega) (by simp) fun w5 g7 hg7 hE5 B7 => ?_
        have l5 := hE5.le
        have htl : lenR kSlot (rs.take i) := fun r hr => hlen r (List.mem_of_mem_take hr)
        have hzl : (zipR wSlot (rs.take i)).length = i * 4 := by rw [zipR_length (ks := kSlot) rfl _ htl, List.length_take, Nat.min_eq_left (by omega)]; rfl
        have hO4 := (hO.ex0 (hE3.new hE4 (by omega))).ex0 hE5
        refine app_T_Lref05_Field (n := i * 4) (m := 4) hO4 (SlG.of_cs B7.all rfl (Nat.le_refl _)) (by rw [fcs_length, hzl]) rfl (fcs_isC [(4, a), (4, b), (2, c), (1, d)]) (by omega) (by omega) fun v6 w6 hO6 hE6 _ => ?_
        rw [bin_add (by omega)]
        refine hk2 _ _ _ (by omega) ⟨by simp, (E4.trans hE5).step hE6 fun y hy => .inr (hO.newb y hy).1, ?_, ?_⟩
        · rw [takeR hlt, List.all_append, hall]
          simp [hmt]
        · have : fcs (zipR wSlot (rs.take (i + 1))) = fcs (zipR wSlot (rs.take i)) ++ fcs [(4, a), (4, b), (2, c), (1, d)] := by
            rw [takeR hlt, hrr, ← fcs_append]
            congr 1
            simp [zipR, wSlot]
          rw [this]
          exact hO6
    · obtain rfl : i = rs.length := by omega
      rw [List.take_length] at hall hO
      exact hk1 _ _ ⟨hE2, hall, hO⟩
  · rintro J u w2 ⟨hE2, hall, hO⟩
    rw [((S.ex0 hE1).ex0 hE2).len_i u_T_Lref05_Slot (by omega) (rcs_length hlen), bin_gtr]
    refine wIf_d (fun hgt => ?_) (fun hle => ?_)
    · refine bad w2 hE2 ?_
      unfold mayL
      rw [decide_eq_false (by omega), Bool.and_false]
    · have hm : (mayL (mayB 3 0 2) 10) rs = true := by
        unfold mayL
        rw [hall, decide_eq_true (by omega)]
        rfl
      have hzl : (zipR wSlot rs).length = rs.length * 4 := zipR_length (ks := kSlot) rfl _ hlen
      refine ref05_Sealed (kind := 4) hO.slg (by omega) (zipR_ok (ks := kSlot) (by decide) (by decide) hlen hin) (by omega) fun w3 hE3 => ?_
      have hs128 : ∀ s, (if okP (zipR wSlot rs) = true then sealMk 4 (encP (zipR wSlot rs)) else none) = some s → s.length = 128 := by
        intro s h
        split at h
        · exact sealMk_len h
        · cases h
      refine wrB_end hs128 ((B1.ex hE2 (by simp)).ex hE3 (by simp)) fun w4 hE4 => ?_
      have := hk w4 (((hE1.trans hE2).trans hE3).new hE4 (by omega))
      unfold writeL at this
      rw [okP_zipR, encP_zipR]
      simpa [hm] using this

theorem ref05_ReadSlots {s : List Nat} {k : Value → World → Prop} (hs : s.length = 128) (hb : ∀ b ∈ s, b < 256) (hbad : readL 4 wSlot (mayL (mayB 3 0 2) 10) s = none → ∀ w', Ex [] w w' → k (.tuple #[.slice none 0 0, .bool false]) w')
    (hk : ∀ rs, readL 4 wSlot (mayL (mayB 3 0 2) 10) s = some rs → lenR kSlot rs → ∀ v w', Ex [] w w' → Own w' w.heap.size T_ref05_Slot 4 v (rcs kSlot rs) → k (.tuple #[v, .bool true]) w') : wCall P n_ref05_ReadSlots [sv s] w k := by
  refine call_ref05_ReadSlots _ ?_
  unfold F_ref05_ReadSlots
  refine box_i (sv_cells s) fun w1 g1 hg1 hE1 B1 => ?_
  have l1 := hE1.le
  rw [ld_sector g_T_A128uint8 hs B1]
  refine buildS_ones (xs := ivs wSlot) rfl u_T_Lint o_T_int z_T_int rfl rfl (by omega) (fun x hx => by obtain ⟨n, _, rfl⟩ := List.mem_map.1 hx; rfl) fun w2 g2 hg2 hE2 B2 => ?_
  have l2 := hE2.le
  have E2 := hE1.trans hE2
  refine ref05_Opened (kind := 4) (ws := wSlot) (SlG.of_cs B2.all rfl (Nat.le_refl _)) (by omega) hs hb (by decide) (by decide) (by decide) (fun hno w3 hE3 => ?_) (fun rs hop hrn v12 w3 hE3 hO3 => ?_)
  · rw [ext_0, ext_1]
    refine j2_of (fun a b w' => w3 = w' ∧ a = .bool false ∧ b = .slice none 0 0) (fun k1 hk1 => ?_) ?_
    · refine loop_up3 0 (fun i a b c w' => w3 = w' ∧ a = .bool false ∧ b = .slice none 0 0 ∧ c = .int .i64 0) ⟨rfl, rfl, rfl, rfl⟩ ?_
      rintro i J a b c w4 k2 hi ⟨rfl, rfl, rfl, rfl⟩ _
      rw [bin_add (by omega), len_s u_T_Lint64, bin_lss, wIf_df (by omega)]
      exact hk1 _ _ _ ⟨rfl, rfl, rfl⟩
    · rintro J a b w4 ⟨rfl, rfl, rfl⟩
      rw [un_not]
      refine or_i (r := true) (fun h => absurd h (by simp)) ?_
      rw [Bool.or_true, wIf_t]
      exact hbad (by rw [readL_open, hno]) w3 (E2.trans hE3)
  · rw [ext_0, ext_1]
    have l3 := hE3.le
    have E3 := E2.trans hE3
    obtain ⟨hwid, hokR⟩ := openL_ok hop hb
    have hlen : lenR kSlot rs := fun r hr => (hwid r hr).symm
    have hfl : rs.flatten.length = rs.length * 4 := flat_length rs fun r hr => (hwid r hr).symm
    refine j2_of (fun a b w' => Ex [] w3 w' ∧ a = .bool (rs.all (mayB 3 0 2)) ∧ Own w' w3.heap.size T_ref05_Slot 4 b (rcs kSlot rs)) (fun k1 hk1 => ?_) ?_
    · refine loop_up3 rs.length (fun i a b c w' => c = .int .i64 ((i * 4 : Nat) : Int) ∧ Ex [] w3 w' ∧ a = .bool ((rs.take i).all (mayB 3 0 2)) ∧ Own w' w3.heap.size T_ref05_Slot 4 b (rcs kSlot (rs.take i))) ⟨rfl, Ex.refl _ _, rfl, Own.nil _ _ _ _⟩ ?_
      rintro i J a b c w4 k2 hi ⟨rfl, hE4, rfl, hO4⟩ hk2
      have l4 := hE4.le
      rw [bin_add (by omega), (hO3.slg.ex0 hE4).len_i u_T_Lint64 (by omega) (n := rs.length * 4) (by rw [im_length, hfl, Nat.mul_one]), bin_lss]
      refine wIf_d (fun hlt => ?_) (fun hge => ?_)
      · have hlt : i < rs.length := by omega
        have hrl : rs[i].length = 4 := hlen _ (List.getElem_mem hlt)
        have hokr : okNs wSlot rs[i] = true := by
          unfold okR at hokR
          exact List.all_eq_true.1 hokR _ (List.getElem_mem hlt)
        obtain ⟨a, b, c, d, hrr⟩ : ∃ a b c d, rs[i] = [a, b, c, d] := by
          match h : rs[i], hrl with
          | [a, b, c, d], _ => exact ⟨_, _, _, _, rfl⟩
        rw [hrr] at hokr
        have hokr : okN 4 a = true ∧ okN 4 b = true ∧ okN 2 c = true ∧ okN 1 d = true := by simpa [okNs, wSlot, and_assoc] using hokr
        obtain ⟨hok0, hok1, hok2, hok3⟩ := hokr
        have hr0 : 0 ≤ a ∧ a < 4294967296 := okN_rng hok0 (by omega)
        have hr1 : 0 ≤ b ∧ b < 4294967296 := okN_rng hok1 (by omega)
        have hr2 : 0 ≤ c ∧ c < 4294967296 := okN_rng hok2 (by omega)
        have hr3 : 0 ≤ d ∧ d < 4294967296 := okN_rng hok3 (by omega)
        have hmr : mayB 3 0 2 rs[i] = decide (d ≤ 2) := by
          rw [hrr]
          show (decide (0 ≤ d) && decide (d ≤ 2)) = _
          rw [decide_eq_true (by omega), Bool.true_and]
        have hix : ∀ {wa : World} (t : Nat) (x : Int), t < 4 → [a, b, c, d][t]? = some x → ∀ (z : Int), z = ((i * 4 + t : Nat) : Int) → Ex [] w3 wa → ∀ (K : Value → World → Prop), (∀ a, wa.cell? a = some (.int .i64 x) → K (.pointer (some a)) wa) → wIndexA P T_Lint64 v12 (.int .i64 z) wa K := by
          intro wa t x ht hx z hz hEa K hK
          subst hz
          refine (hO3.slg.ex0 hEa).ix1 s_T_Lint64 (by omega) (x := .int .i64 x) ?_ hK
          rw [Int.toNat_natCast]
          refine im_get ?_
          rw [flat_get (m := 4) rs i t rs[i] (fun r hr => (hwid r hr).symm) (List.getElem?_eq_getElem hlt) ht, hrr]
          exact hx
        refine draw_i fun w5 hE5 _ => ?_
        have E5 := hE4.trans hE5
        have l5 := E5.le
        refine hix 0 a (by omega) rfl _ (by omega) E5 _ fun a0 ha0 => ?_
        rw [ld_one o_T_int64 ha0]
        rw [bin_add (by omega)]
        refine hix 1 b (by omega) rfl _ (by omega) E5 _ fun a1 ha1 => ?_
        rw [ld_one o_T_int64 ha1, conv_i64_32 hr1]
        rw [bin_add (by omega)]
        refine hix 2 c (by omega) rfl _ (by omega) E5 _ fun a2 ha2 => ?_
        rw [ld_one o_T_int64 ha2]
        rw [bin_add (by omega)]
        refine hix 3 d (by omega) rfl _ (by omega) E5 _ fun a3 ha3 => ?_
        rw [ld_one o_T_int64 ha3]
        rw [bl_T_ref05_Slot (cs := rc kSlot [a, b, c, d]) (by rw [fill_cons (off := 0) (size := 1) rfl rfl rfl (by simp [splice]), fill_cons (off := 1) (size := 1) rfl rfl rfl (by simp [splice]), fill_cons (off := 2) (size := 1) rfl rfl rfl (by simp [splice]), fill_cons (off := 3) (size := 1) rfl rfl rfl (by simp [splice])]; rfl)]
        refine buildS_1 (xs := rc kSlot [a, b, c, d]) (size := 4) u_T_Lref05_Slot (fun w => sizeOf_agg g_T_ref05_Slot w) z_T_ref05_Slot (by omega) rfl rfl rfl fun w6 g6 hg6 hE6 B6 => ?_
        have l6 := hE6.le
        have htl : lenR kSlot (rs.take i) := fun r hr => hlen r (List.mem_of_mem_take hr)
        refine app_T_Lref05_Slot (n := i) (m := 1) ((hO4.ex0 hE5).ex0 hE6) (SlG.of_cs B6.all rfl (Nat.le_refl _)) (by rw [rcs_length htl, List.length_take, Nat.min_eq_left (by omega)]; rfl) rfl (rc_isC _ _) (by omega) (by omega) fun b' w7 hO7 hE7 _ => ?_
        have E7 : Ex [] w3 w7 := (E5.trans hE6).step hE7 fun y hy => .inr (hO4.newb y hy).1
        have fin : ∀ wa, Ex [] w7 wa → k2 (.bool ((rs.take i).all (mayB 3 0 2) && decide (d ≤ 2))) b' (.int .i64 (((i * 4 : Nat) : Int) + 4)) wa := by
          intro wa hEa
          refine hk2 _ _ _ _ (by omega) ⟨by congr 1; omega, E7.trans hEa, ?_, ?_⟩
          · rw [takeR hlt, List.all_append, ← hmr]; simp
          · rw [takeR hlt, rcs_append, rcs_one, hrr]; exact hO7.ex0 hEa
        refine and_i (r := decide (d ≤ 2)) (fun _ k' hk' => ?_) ?_
        · rw [bin_add (by omega)]
          refine hix 3 d (by omega) rfl _ (by omega) E7 _ fun a ha => ?_
          rw [ld_one o_T_int64 ha, bin_leq]
          exact hk'
        rw [bin_add (by omega)]
        exact fin w7 (Ex.refl _ _)
      · obtain rfl : i = rs.length := by omega
        rw [List.take_length] at hO4 ⊢
        exact hk1 _ _ _ ⟨hE4, rfl, hO4⟩
    · rintro J a b w4 ⟨hE4, rfl, hO4⟩
      have l4 := hE4.le
      rw [un_not]
      refine or_i (r := decide ((10 : Int) < rs.length)) (fun _ k' hk' => ?_) ?_
      · rw [hO4.slg.len_i u_T_Lref05_Slot (by omega) (rcs_length hlen), bin_gtr]
        exact hk'
      refine wIf_i _ (fun hc => ?_) (fun hc => ?_)
      · have hm : (mayL (mayB 3 0 2) 10) rs = false := by
          unfold mayL
          cases ha : rs.all (mayB 3 0 2) with
          | false => rfl
          | true => rw [ha] at hc; simp at hc; simp; omega
        exact hbad (by rw [readL_open, hop]; simp [hm]) w4 (E3.trans hE4)
      · have hm : (mayL (mayB 3 0 2) 10) rs = true := by
          unfold mayL
          cases ha : rs.all (mayB 3 0 2) with
          | false => rw [ha] at hc; simp at hc
          | true => rw [ha] at hc; simp at hc; simp; omega
        exact hk rs (by rw [readL_open, hop]; simp [hm]) hlen b w4 (E3.trans hE4) (hO4.base (by omega))

theorem el_rUse : ElT T_Lref05_Use T_ref05_Use kUse :=
  ⟨u_T_Lref05_Use, s_T_Lref05_Use, o_T_Lref05_Use, g_T_ref05_Use, z_T_ref05_Use, fun w => sizeOf_agg g_T_ref05_Use w, by decide, by decide, by simp [inR, inR1, kUse, zs], fun ho hy hn hm hc hb hba hk => app_T_Lref05_Use ho hy hn hm hc (by omega) hba hk⟩
theorem ref05_WriteUses {v : Value} {rs : List (List Int)} {k : Value → World → Prop} (S : SlG w 3 v (rcs kUse rs)) (hlen : lenR kUse rs) (hin : ∀ r ∈ rs, inR kUse r) (hn : rs.length ≤ 1000) (hk : ∀ w', Ex [] w w' → k (wrB (writeL 5 wUse (mayL (mayB 1 0 3) 15) rs)) w') : wCall P n_ref05_WriteUses [v] w k := by
  refine call_ref05_WriteUses _ ?_
  unfold F_ref05_WriteUses
  refine alloc_i z_T_A128uint8 (vs := List.replicate 128 (.int .u8 0)) rfl fun w1 g1 hg1 hE1 B1 => ?_
  have l1 := hE1.le
  have bad : ∀ wa, Ex [] w1 wa → ((mayL (mayB 1 0 3) 15) rs = false) → (wBuild P T_A128uint8 [] wa fun t35 w => wStore P T_A128uint8 (ptr g1) t35 w fun w => wRes P T_A128uint8 (ptr g1) w fun r4 => k (.tuple #[r4, (.bool false)]) w) := by
    intro wa hEa hno
    refine wrB_none (B1.ex hEa (by simp)) fun w' hE' => ?_
    have := hk w' ((hE1.trans hEa).new hE' (by omega))
    unfold writeL at this
    rw [if_neg (by simp [hno])] at this
    exact this
  refine j1_of (fun u w' => Ex [] w1 w' ∧ rs.all (mayB 1 0 3) = true ∧ Own w' w1.heap.size T_ref05_Field 2 u (fcs (zipR wUse rs))) (fun k1 hk1 => ?_) ?_
  · refine loop_up2 rs.length (fun i u x w' => x = .int .i64 (i : Int) ∧ Ex [] w1 w' ∧ (rs.take i).all (mayB 1 0 3) = true ∧ Own w' w1.heap.size T_ref05_Field 2 u (fcs (zipR wUse (rs.take i)))) ⟨rfl, Ex.refl _ _, rfl, Own.nil _ _ _ _⟩ ?_
    rintro i J u x w2 k2 hi ⟨rfl, hE2, hall, hO⟩ hk2
    have S2 := (S.ex0 hE1).ex0 hE2
    have l2 := hE2.le
    rw [S2.len_i u_T_Lref05_Use (by omega) (rcs_length hlen), bin_lss]
    refine wIf_d (fun hlt => ?_) (fun hge => ?_)
    · have hlt : i < rs.length := by omega
      have hrl : rs[i].length = 3 := hlen _ (List.getElem_mem hlt)
      have hinr := hin _ (List.getElem_mem hlt)
      refine S2.ix s_T_Lref05_Use (by omega) (rcs_length hlen) (by omega) (by omega) fun b o hcs => ?_
      rw [Int.toNat_natCast] at hcs
      have hcs := (rcs_elem (ks := kUse) hlen hlt) ▸ hcs
      rw [ld_agg g_T_ref05_Use hcs (rc_length hrl)]
      refine alloc_i z_T_ref05_Use (vs := rc kUse (zs kUse)) rfl fun w3 g6 hg6 hE3 B6 => ?_
      refine st_all g_T_ref05_Use (rc_length hrl) (rc_isC _ _) B6 (rc_length (zs_length kUse)) fun w4 hE4 B6 => ?_
      have E4 : Ex [] w1 w4 := hE2.trans (hE3.new hE4 (by omega))
      have l4 := E4.le
      obtain ⟨a, b, c, hrr⟩ : ∃ a b c, rs[i] = [a, b, c] := by
        match h : rs[i], hrl with
        | [a, b, c], _ => exact ⟨_, _, _, rfl⟩
      have hmr : mayB 1 0 3 rs[i] = (decide (0 ≤ b) && decide (b ≤ 3)) := by rw [hrr]; rfl
      rw [hrr] at B6 hinr
      have B6 : Blk w4 g6 T_ref05_Use [.int .i64 a, .int .i64 b, .int .u32 c] := B6
      have hin2 : 0 ≤ c ∧ c < 4294967296 := hinr.2.2.1
      rw [fA_T_ref05_Use_1, ld_one o_T_int (B6.cell 1 : _ = some (.int .i64 b)), bin_lss]
      refine or_i (r := decide ((3 : Int) < b)) (fun _ k' hk' => ?_) ?_
      · rw [fA_T_ref05_Use_1, ld_one o_T_int (B6.cell 1 : _ = some (.int .i64 b)), bin_gtr]
        exact hk'
      refine wIf_i _ (fun hc => ?_) (fun hc => ?_)
      · refine bad w4 E4 ?_
        have hf : rs.all (mayB 1 0 3) = false := by
          rw [List.all_eq_false]
          refine ⟨rs[i], List.getElem_mem hlt, ?_⟩
          rw [hmr]
          simp only [Bool.or_eq_true, decide_eq_true_eq] at hc
          simp only [Bool.and_eq_true, decide_eq_true_eq]
          omega
        unfold mayL
        rw [hf, Bool.false_and]
      · have hmt : mayB 1 0 3 rs[i] = true := by
          rw [hmr]
          simp only [Bool.or_eq_false_iff, decide_eq_false_iff_not] at hc
          simp only [Bool.and_eq_true, decide_eq_true_eq]
          omega
        rw [fA_T_ref05_Use_0, ld_one o_T_int (B6.cell 0 : _ = some (.int .i64 a)), bl_field, fA_T_ref05_Use_1, ld_one o_T_int (B6.cell 1 : _ = some (.int .i64 b)), bl_field, fA_T_ref05_Use_2, ld_one o_T_uint32 (B6.cell 2 : _ = some (.int .u32 c)), conv_32_i64 hin2, bl_field]
        refine buildS_recs (size := 2) (n := 3) (xs := [[.int .i64 2, .int .i64 a], [.int .i64 1, .int .i64 b], [.int .i64 4, .int .i64 c]]) rfl u_T_Lref05_Field (fun w => sizeOf_agg g_T_ref05_Field w) z_T_ref05_Field rfl (by omega) (by simp) fun w5 g7 hg7 hE5 B7 => ?_
        have l5 := hE5.le
        have htl : lenR kUse (rs.take i) := fun r hr => hlen r (List.mem_of_mem_take hr)
        have hzl : (zipR wUse (rs.take i)).length = i * 3 := by rw [zipR_length (ks := kUse) rfl _ htl, List.length_take, Nat.min_eq_left (by omega)]; rfl
        have hO4 := (hO.ex0 (hE3.new hE4 (by omega))).ex0 hE5
        refine app_T_Lref05_Field (n := i * 3) (m := 3) hO4 (SlG.of_cs B7.all rfl (Nat.le_refl _)) (by rw [fcs_length, hzl]) rfl (fcs_isC [(2, a), (1, b), (4, c)]) (by omega) (by omega) fun v6 w6 hO6 hE6 _ => ?_
        rw [bin_add (by omega)]
        refine hk2 _ _ _ (by omega) ⟨by simp, (E4.trans hE5).step hE6 fun y hy => .inr (hO.newb y hy).1, ?_, ?_⟩
        · rw [takeR hlt, List.all_append, hall]
          simp [hmt]
        · have : fcs (zipR wUse (rs.take (i + 1))) = fcs (zipR wUse (rs.take i)) ++ fcs [(2, a), (1, b), (4, c)] := by
            rw [takeR hlt, hrr, ← fcs_append]
            congr 1
            simp [zipR, wUse]
          rw [this]
          exact hO6
    · obtain rfl : i = rs.length := by omega
      rw [List.take_length] at hall hO
      exact hk1 _ _ ⟨hE2, hall, hO⟩
  · rintro J u w2 ⟨hE2, hall, hO⟩
    rw [((S.ex0 hE1).ex0 hE2).len_i u_T_Lref05_Use (by omega) (rcs_length hlen), bin_gtr]
    refine wIf_d (fun hgt => ?_) (fun hle => ?_)
    · refine bad w2 hE2 ?_
      unfold mayL
      rw [decide_eq_false (by omega), Bool.and_false]
    · have hm : (mayL (mayB 1 0 3) 15) rs = true := by
        unfold mayL
        rw [hall, decide_eq_true (by omega)]
        rfl
      have hzl : (zipR wUse rs).length = rs.length * 3 := zipR_length (ks := kUse) rfl _ hlen
      refine ref05_Sealed (kind := 5) hO.slg (by omega) (zipR_ok (ks := kUse) (by decide) (by decide) hlen hin) (by omega) fun w3 hE3 => ?_
      have hs128 : ∀ s, (if okP (zipR wUse rs) = true then sealMk 5 (encP (zipR wUse rs)) else none) = some s → s.length = 128 := by
        intro s h
        split at h
        · exact sealMk_len h
        · cases h
      refine wrB_end hs128 ((B1.ex hE2 (by simp)).ex hE3 (by simp)) fun w4 hE4 => ?_
      have := hk w4 (((hE1.trans hE2).trans hE3).new hE4 (by omega))
      unfold writeL at this
      rw [okP_zipR, encP_zipR]
      simpa [hm] using this

theorem ref05_ReadUses {s : List Nat} {k : Value → World → Prop} (hs : s.length = 128) (hb : ∀ b ∈ s, b < 256) (hbad : readL 5 wUse (mayL (mayB 1 0 3) 15) s = none → ∀ w', Ex [] w w' → k (.tuple #[.slice none 0 0, .bool false]) w')
    (hk : ∀ rs, readL 5 wUse (mayL (mayB 1 0 3) 15) s = some rs → lenR kUse rs → ∀ v w', Ex [] w w' → Own w' w.heap.size T_ref05_Use 3 v (rcs kUse rs) → k (.tuple #[v, .bool true]) w') : wCall P n_ref05_ReadUses [sv s] w k := by
  refine call_ref05_ReadUses _ ?_
  unfold F_ref05_ReadUses
  refine box_i (sv_cells s) fun w1 g1 hg1 hE1 B1 => ?_
  have l1 := hE1.le
  rw [ld_sector g_T_A128uint8 hs B1]
  refine buildS_ones (xs := ivs wUse) rfl u_T_Lint o_T_int z_T_int rfl rfl (by omega) (fun x hx => by obtain ⟨n, _, rfl⟩ := List.mem_map.1 hx; rfl) fun w2 g2 hg2 hE2 B2 => ?_
  have l2 := hE2.le
  have E2 := hE1.trans hE2
  refine ref05_Opened (kind := 5) (ws := wUse) (SlG.of_cs B2.all rfl (Nat.le_refl _)) (by omega) hs hb (by decide) (by decide) (by decide) (fun hno w3 hE3 => ?_) (fun rs hop hrn v12 w3 hE3 hO3 => ?_)
  · rw [ext_0, ext_1]
    refine j2_of (fun a b w' => w3 = w' ∧ a = .bool false ∧ b = .slice none 0 0) (fun k1 hk1 => ?_) ?_
    · refine loop_up3 0 (fun i a b c w' => w3 = w' ∧ a = .bool false ∧ b = .slice none 0 0 ∧ c = .int .i64 0) ⟨rfl, rfl, rfl, rfl⟩ ?_
      rintro i J a b c w4 k2 hi ⟨rfl, rfl, rfl, rfl⟩ _
      rw [bin_add (by omega), len_s u_T_Lint64, bin_lss, wIf_df (by omega)]
      exact hk1 _ _ _ ⟨rfl, rfl, rfl⟩
    · rintro J a b w4 ⟨rfl, rfl, rfl⟩
      rw [un_not]
      refine or_i (r := true) (fun h => absurd h (by simp)) ?_
      rw [Bool.or_true, wIf_t]
      exact hbad (by rw [readL_open, hno]) w3 (E2.trans hE3)
  · rw [ext_0, ext_1]
    have l3 := hE3.le
    have E3 := E2.trans hE3
    obtain ⟨hwid, hokR⟩ := openL_ok hop hb
    have hlen : lenR kUse rs := fun r hr => (hwid r hr).symm
    have hfl : rs.flatten.length = rs.length * 3 := flat_length rs fun r hr => (hwid r hr).symm
    refine j2_of (fun a b w' => Ex [] w3 w' ∧ a = .bool (rs.all (mayB 1 0 3)) ∧ Own w' w3.heap.size T_ref05_Use 3 b (rcs kUse rs)) (fun k1 hk1 => ?_) ?_
    · refine loop_up3 rs.length (fun i a b c w' => c = .int .i64 ((i * 3 : Nat) : Int) ∧ Ex [] w3 w' ∧ a = .bool ((rs.take i).all (mayB 1 0 3)) ∧ Own w' w3.heap.size T_ref05_Use 3 b (rcs kUse (rs.take i))) ⟨rfl, Ex.refl _ _, rfl, Own.nil _ _ _ _⟩ ?_
      rintro i J a b c w4 k2 hi ⟨rfl, hE4, rfl, hO4⟩ hk2
      have l4 := hE4.le
      rw [bin_add (by omega), (hO3.slg.ex0 hE4).len_i u_T_Lint64 (by omega) (n := rs.length * 3) (by rw [im_length, hfl, Nat.mul_one]), bin_lss]
      refine wIf_d (fun hlt => ?_) (fun hge => ?_)
      · have hlt : i < rs.length := by omega
        have hrl : rs[i].length = 3 := hlen _ (List.getElem_mem hlt)
        have hokr : okNs wUse rs[i] = true := by
          unfold okR at hokR
          exact List.all_eq_true.1 hokR _ (List.getElem_mem hlt)
        obtain ⟨a, b, c, hrr⟩ : ∃ a b c, rs[i] = [a, b, c] := by
          match h : rs[i], hrl with
          | [a, b, c], _ => exact ⟨_, _, _, rfl⟩
        rw [hrr] at hokr
        have hokr : okN 2 a = true ∧ okN 1 b = true ∧ okN 4 c = true := by simpa [okNs, wUse, and_assoc] using hokr
        obtain ⟨hok0, hok1, hok2⟩ := hokr
        have hr0 : 0 ≤ a ∧ a < 4294967296 := okN_rng hok0 (by omega)
        have hr1 : 0 ≤ b ∧ b < 4294967296 := okN_rng hok1 (by omega)
        have hr2 : 0 ≤ c ∧ c < 4294967296 := okN_rng hok2 (by omega)
        have hmr : mayB 1 0 3 rs[i] = decide (b ≤ 3) := by
          rw [hrr]
          show (decide (0 ≤ b) && decide (b ≤ 3)) = _
          rw [decide_eq_true (by omega), Bool.true_and]
        have hix : ∀ {wa : World} (t : Nat) (x : Int), t < 3 → [a, b, c][t]? = some x → ∀ (z : Int), z = ((i * 3 + t : Nat) : Int) → Ex [] w3 wa → ∀ (K : Value → World → Prop), (∀ a, wa.cell? a = some (.int .i64 x) → K (.pointer (some a)) wa) → wIndexA P T_Lint64 v12 (.int .i64 z) wa K := by
          intro wa t x ht hx z hz hEa K hK
          subst hz
          refine (hO3.slg.ex0 hEa).ix1 s_T_Lint64 (by omega) (x := .int .i64 x) ?_ hK
          rw [Int.toNat_natCast]
          refine im_get ?_
          rw [flat_get (m := 3) rs i t rs[i] (fun r hr => (hwid r hr).symm) (List.getElem?_eq_getElem hlt) ht, hrr]
          exact hx
        refine draw_i fun w5 hE5 _ => ?_
        have E5 := hE4.trans hE5
        have l5 := E5.le
        refine hix 0 a (by omega) rfl _ (by omega) E5 _ fun a0 ha0 => ?_
        rw [ld_one o_T_int64 ha0]
        rw [bin_add (by omega)]
        refine hix 1 b (by omega) rfl _ (by omega) E5 _ fun a1 ha1 => ?_
        rw [ld_one o_T_int64 ha1]
        rw [bin_add (by omega)]
        refine hix 2 c (by omega) rfl _ (by omega) E5 _ fun a2 ha2 => ?_
        rw [ld_one o_T_int64 ha2, conv_i64_32 hr2]
        rw [bl_T_ref05_Use (cs := rc kUse [a, b, c]) (by rw [fill_cons (off := 0) (size := 1) rfl rfl rfl (by simp [splice]), fill_cons (off := 1) (size := 1) rfl rfl rfl (by simp [splice]), fill_cons (off := 2) (size := 1) rfl rfl rfl (by simp [splice])]; rfl)]
        refine buildS_1 (xs := rc kUse [a, b, c]) (size := 3) u_T_Lref05_Use (fun w => sizeOf_agg g_T_ref05_Use w) z_T_ref05_Use (by omega) rfl rfl rfl fun w6 g6 hg6 hE6 B6 => ?_
        have l6 := hE6.le
        have htl : lenR kUse (rs.take i) := fun r hr => hlen r (List.mem_of_mem_take hr)
        refine app_T_Lref05_Use (n := i) (m := 1) ((hO4.ex0 hE5).ex0 hE6) (SlG.of_cs B6.all rfl (Nat.le_refl _)) (by rw [rcs_length htl, List.length_take, Nat.min_eq_left (by omega)]; rfl) rfl (rc_isC _ _) (by omega) (by omega) fun b' w7 hO7 hE7 _ => ?_
        have E7 : Ex [] w3 w7 := (E5.trans hE6).step hE7 fun y hy => .inr (hO4.newb y hy).1
        have fin : ∀ wa, Ex [] w7 wa → k2 (.bool ((rs.take i).all (mayB 1 0 3) && decide (b ≤ 3))) b' (.int .i64 (((i * 3 : Nat) : Int) + 3)) wa := by
          intro wa hEa
          refine hk2 _ _ _ _ (by omega) ⟨by congr 1; omega, E7.trans hEa, ?_, ?_⟩
          · rw [takeR hlt, List.all_append, ← hmr]; simp
          · rw [takeR hlt, rcs_append, rcs_one, hrr]; exact hO7.ex0 hEa
        refine and_i (r := decide (b ≤ 3)) (fun _ k' hk' => ?_) ?_
        · rw [bin_add (by omega)]
          refine hix 1 b (by omega) rfl _ (by omega) E7 _ fun a ha => ?_
          rw [ld_one o_T_int64 ha, bin_leq]
          exact hk'
        rw [bin_add (by omega)]
        exact fin w7 (Ex.refl _ _)
      · obtain rfl : i = rs.length := by omega
        rw [List.take_length] at hO4 ⊢
        exact hk1 _ _ _ ⟨hE4, rfl, hO4⟩
    · rintro J a b w4 ⟨hE4, rfl, hO4⟩
      have l4 := hE4.le
      rw [un_not]
      refine or_i (r := decide ((15 : Int) < rs.length)) (fun _ k' hk' => ?_) ?_
      · rw [hO4.slg.len_i u_T_Lref05_Use (by omega) (rcs_length hlen), bin_gtr]
        exact hk'
      refine wIf_i _ (fun hc => ?_) (fun hc => ?_)
      · have hm : (mayL (mayB 1 0 3) 15) rs = false := by
          unfold mayL
          cases ha : rs.all (mayB 1 0 3) with
          | false => rfl
          | true => rw [ha] at hc; simp at hc; simp; omega
        exact hbad (by rw [readL_open, hop]; simp [hm]) w4 (E3.trans hE4)
      · have hm : (mayL (mayB 1 0 3) 15) rs = true := by
          unfold mayL
          cases ha : rs.all (mayB 1 0 3) with
          | false => rw [ha] at hc; simp at hc
          | true => rw [ha] at hc; simp at hc; simp; omega
        exact hk rs (by rw [readL_open, hop]; simp [hm]) hlen b w4 (E3.trans hE4) (hO4.base (by omega))

theorem el_rRecord : ElT T_Lref05_Record T_ref05_Record kRecord :=
  ⟨u_T_Lref05_Record, s_T_Lref05_Record, o_T_Lref05_Record, g_T_ref05_Record, z_T_ref05_Record, fun w => sizeOf_agg g_T_ref05_Record w, by decide, by decide, by simp [inR, inR1, kRecord, zs], fun ho hy hn hm hc hb hba hk => app_T_Lref05_Record ho hy hn hm hc (by omega) hba hk⟩
theorem ref05_WriteRecords {v : Value} {rs : List (List Int)} {k : Value → World → Prop} (S : SlG w 4 v (rcs kRecord rs)) (hlen : lenR kRecord rs) (hin : ∀ r ∈ rs, inR kRecord r) (hn : rs.length ≤ 1000) (hk : ∀ w', Ex [] w w' → k (wrB (writeL 7 wRecord (mayL (mayB 3 0 2) 13) rs)) w') : wCall P n_ref05_WriteRecords [v] w k := by
  refine call_ref05_WriteRecords _ ?_
  unfold F_ref05_WriteRecords
  refine alloc_i z_T_A128uint8 (vs := List.replicate 128 (.int .u8 0)) rfl fun w1 g1 hg1 hE1 B1 => ?_
  have l1 := hE1.le
  have bad : ∀ wa, Ex [] w1 wa → ((mayL (mayB 3 0 2) 13) rs = false) → (wBuild P T_A128uint8 [] wa fun t35 w => wStore P T_A128uint8 (ptr g1) t35 w fun w => wRes P T_A128uint8 (ptr g1) w fun r4 => k (.tuple #[r4, (.bool false)]) w) := by
    intro wa hEa hno
    refine wrB_none (B1.ex hEa (by simp)) fun w' hE' => ?_
    have := hk w' ((hE1.trans hEa).new hE' (by omega))
    unfold writeL at this
    rw [if_neg (by simp [hno])] at this
    exact this
  refine j1_of (fun u w' => Ex [] w1 w' ∧ rs.all (mayB 3 0 2) = true ∧ Own w' w1.heap.size T_ref05_Field 2 u (fcs (zipR wRecord rs))) (fun k1 hk1 => ?_) ?_
  · refine loop_up2 rs.length (fun i u x w' => x = .int .i64 (i : Int) ∧ Ex [] w1 w' ∧ (rs.take i).all (mayB 3 0 2) = true ∧ Own w' w1.heap.size T_ref05_Field 2 u (fcs (zipR wRecord (rs.take i)))) ⟨rfl, Ex.refl _ _, rfl, Own.nil _ _ _ _⟩ ?_
    rintro i J u x w2 k2 hi ⟨rfl, hE2, hall, hO⟩ hk2
    have S2 := (S.ex0 hE1).ex0 hE2
    have l2 := hE2.le
    rw [S2.len_i u_T_Lref05_Record (by omega) (rcs_length hlen), bin_lss]
    refine wIf_d (fun hlt => ?_) (fun hge => ?_)
    · have hlt : i < rs.length := by omega
      have hrl : rs[i].length = 4 := hlen _ (List.getElem_mem hlt)
      have hinr := hin _ (List.getElem_mem hlt)
      refine S2.ix s_T_Lref05_Record (by omega) (rcs_length hlen) (by omega) (by omega) fun b o hcs => ?_
      rw [Int.toNat_natCast] at hcs
      have hcs := (rcs_elem (ks := kRecord) hlen hlt) ▸ hcs
      rw [ld_agg g_T_ref05_Record hcs (rc_length hrl)]
      refine alloc_i z_T_ref05_Record (vs := rc kRecord (zs kRecord)) rfl fun w3 g6 hg6 hE3 B6 => ?_
      refine st_all g_T_ref05_Record (rc_length hrl) (rc_isC _ _) B6 (rc_length (zs_length kRecord)) fun w4 hE4 B6 => ?_
      have E4 : Ex [] w1 w4 := hE2.trans (hE3.new hE4 (by omega))
      have l4 := E4.le
      obtain ⟨a, b, c, d, hrr⟩ : ∃ a b c d, rs[i] = [a, b, c, d] := by
        match h : rs[i], hrl with
        | [a, b, c, d], _ => exact ⟨_, _, _, _, rfl⟩
      have hmr : mayB 3 0 2 rs[i] = (decide (0 ≤ d) && decide (d ≤ 2)) := by rw [hrr]; rfl
      rw [hrr] at B6 hinr
      have B6 : Blk w4 g6 T_ref05_Record [.int .u32 a, .int .u32 b, .int .i64 c, .int .i64 d] := B6
      have hin0 : 0 ≤ a ∧ a < 4294967296 := hinr.1
      have hin1 : 0 ≤ b ∧ b < 4294967296 := hinr.2.1
      rw [fA_T_ref05_Record_3, ld_one o_T_int (B6.cell 3 : _ = some (.int .i64 d)), bin_lss]
      refine or_i (r := decide ((2 : Int) < d)) (fun _ k' hk' => ?_) ?_
      · rw [fA_T_ref05_Record_3, ld_one o_T_int (B6.cell 3 : _ = some (.int .i64 d)), bin_gtr]
        exact hk'
      refine wIf_i _ (fun hc => ?_) (fun hc => ?_)
      · refine bad w4 E4 ?_
        have hf : rs.all (mayB 3 0 2) = false := by
          rw [List.all_eq_false]
          refine ⟨rs[i], List.getElem_mem hlt, ?_⟩
          rw [hmr]
          simp only [Bool.or_eq_true, decide_eq_true_eq] at hc
          simp only [Bool.and_eq_true, decide_eq_true_eq]
          omega
        unfold mayL
        rw [hf, Bool.false_and]
      · have hmt : mayB 3 0 2 rs[i] = true := by
          rw [hmr]
          simp only [Bool.or_eq_false_iff, decide_eq_false_iff_not] at hc
          simp only [Bool.and_eq_true, decide_eq_true_eq]
          omega
        rw [fA_T_ref05_Record_0, ld_one o_T_uint32 (B6.cell 0 : _ = some (.int .u32 a)), conv_32_i64 hin0, bl_field, fA_T_ref05_Record_1, ld_one o_T_uint32 (B6.cell 1 : _ = some (.int .u32 b)), conv_32_i64 hin1, bl_field, fA_T_ref05_Record_2, ld_one o_T_int (B6.cell 2 : _ = some (.int .i64 c)), bl_field, fA_T_ref05_Record_3, ld_one o_T_int (B6.cell 3 : _ = some (.int .i64 d)), bl_field]
        refine buildS_recs (size := 2) (n := 4) (xs := [[.int .i64 2, .int .i64 a], [.int .i64 4, .int .i64 b], [.int .i64 2, .int .i64 c], [.int .i64 1, .int .i64 d]]) rfl u_T_Lref05_Field (fun w => sizeOf_agg g_T_ref05_Field w) z_T_ref05_Field rfl (by omega) (by simp) fun w5 g7 hg7 hE5 B7 => ?_
        have l5 := hE5.le
        have htl : lenR kRecord (rs.take i) := fun r hr => hlen r (List.mem_of_mem_take hr)
        have hzl : (zipR wRecord (rs.take i)).length = i * 4 := by rw [zipR_length (ks := kRecord) rfl _ htl, List.length_take, Nat.min_eq_left (by omega)]; rfl
        have hO4 := (hO.ex0 (hE3.new hE4 (by omega))).ex0 hE5
        refine app_T_Lref05_Field (n := i * 4) (m := 4) hO4 (SlG.of_cs B7.all rfl (Nat.le_refl _)) (by rw [fcs_length, hzl]) rfl (fcs_isC [(2, a), (4, b), (2, c), (1, d)]) (by omega) (by omega) fun v6 w6 hO6 hE6 _ => ?_
        rw [bin_add (by omega)]
        refine hk2 _ _ _ (by omega) ⟨by simp, (E4.trans hE5).step hE6 fun y hy => .inr (hO.newb y hy).1, ?_, ?_⟩
        · rw [takeR hlt, List.all_append, hall]
          simp [hmt]
        · have : fcs (zipR wRecord (rs.take (i + 1))) = fcs (zipR wRecord (rs.take i)) ++ fcs [(2, a), (4, b), (2, c), (1, d)] := by
            rw [takeR hlt, hrr, ← fcs_append]
            congr 1
            simp [zipR, wRecord]
          rw [this]
          exact hO6
    · obtain rfl : i = rs.length := by omega
      rw [List.take_length] at hall hO
      exact hk1 _ _ ⟨hE2, hall, hO⟩
  · rintro J u w2 ⟨hE2, hall, hO⟩
    rw [((S.ex0 hE1).ex0 hE2).len_i u_T_Lref05_Record (by omega) (rcs_length hlen), bin_gtr]
    refine wIf_d (fun hgt => ?_) (fun hle => ?_)
    · refine bad w2 hE2 ?_
      unfold mayL
      rw [decide_eq_false (by omega), Bool.and_false]
    · have hm : (mayL (mayB 3 0 2) 13) rs = true := by
        unfold mayL
        rw [hall, decide_eq_true (by omega)]
        rfl
      have hzl : (zipR wRecord rs).length = rs.length * 4 := zipR_length (ks := kRecord) rfl _ hlen
      refine ref05_Sealed (kind := 7) hO.slg (by omega) (zipR_ok (ks := kRecord) (by decide) (by decide) hlen hin) (by omega) fun w3 hE3 => ?_
      have hs128 : ∀ s, (if okP (zipR wRecord rs) = true then sealMk 7 (encP (zipR wRecord rs)) else none) = some s → s.length = 128 := by
        intro s h
        split at h
        · exact sealMk_len h
        · cases h
      refine wrB_end hs128 ((B1.ex hE2 (by simp)).ex hE3 (by simp)) fun w4 hE4 => ?_
      have := hk w4 (((hE1.trans hE2).trans hE3).new hE4 (by omega))
      unfold writeL at this
      rw [okP_zipR, encP_zipR]
      simpa [hm] using this

theorem ref05_ReadRecords {s : List Nat} {k : Value → World → Prop} (hs : s.length = 128) (hb : ∀ b ∈ s, b < 256) (hbad : readL 7 wRecord (mayL (mayB 3 0 2) 13) s = none → ∀ w', Ex [] w w' → k (.tuple #[.slice none 0 0, .bool false]) w')
    (hk : ∀ rs, readL 7 wRecord (mayL (mayB 3 0 2) 13) s = some rs → lenR kRecord rs → ∀ v w', Ex [] w w' → Own w' w.heap.size T_ref05_Record 4 v (rcs kRecord rs) → k (.tuple #[v, .bool true]) w') : wCall P n_ref05_ReadRecords [sv s] w k := by
  refine call_ref05_ReadRecords _ ?_
  unfold F_ref05_ReadRecords
  refine box_i (sv_cells s) fun w1 g1 hg1 hE1 B1 => ?_
  have l1 := hE1.le
  rw [ld_sector g_T_A128uint8 hs B1]
  refine buildS_ones (xs := ivs wRecord) rfl u_T_Lint o_T_int z_T_int rfl rfl (by omega) (fun x hx => by obtain ⟨n, _, rfl⟩ := List.mem_map.1 hx; rfl) fun w2 g2 hg2 hE2 B2 => ?_
  have l2 := hE2.le
  have E2 := hE1.trans hE2
  refine ref05_Opened (kind := 7) (ws := wRecord) (SlG.of_cs B2.all rfl (Nat.le_refl _)) (by omega) hs hb (by decide) (by decide) (by decide) (fun hno w3 hE3 => ?_) (fun rs hop hrn v12 w3 hE3 hO3 => ?_)
  · rw [ext_0, ext_1]
    refine j2_of (fun a b w' => w3 = w' ∧ a = .bool false ∧ b = .slice none 0 0) (fun k1 hk1 => ?_) ?_
    · refine loop_up3 0 (fun i a b c w' => w3 = w' ∧ a = .bool false ∧ b = .slice none 0 0 ∧ c = .int .i64 0) ⟨rfl, rfl, rfl, rfl⟩ ?_
      rintro i J a b c w4 k2 hi ⟨rfl, rfl, rfl, rfl⟩ _
      rw [bin_add (by omega), len_s u_T_Lint64, bin_lss, wIf_df (by omega)]
      exact hk1 _ _ _ ⟨rfl, rfl, rfl⟩
    · rintro J a b w4 ⟨rfl, rfl, rfl⟩
      rw [un_not]
      refine or_i (r := true) (fun h => absurd h (by simp)) ?_
      rw [Bool.or_true, wIf_t]
      exact hbad (by rw [readL_open, hno]) w3 (E2.trans hE3)
  · rw [ext_0, ext_1]
    have l3 := hE3.le
    have E3 := E2.trans hE3
    obtain ⟨hwid, hokR⟩ := openL_ok hop hb
    have hlen : lenR kRecord rs := fun r hr => (hwid r hr).symm
    have hfl : rs.flatten.length = rs.length * 4 := flat_length rs fun r hr => (hwid r hr).symm
    refine j2_of (fun a b w' => Ex [] w3 w' ∧ a = .bool (rs.all (mayB 3 0 2)) ∧ Own w' w3.heap.size T_ref05_Record 4 b (rcs kRecord rs)) (fun k1 hk1 => ?_) ?_
    · refine loop_up3 rs.length (fun i a b c w' => c = .int .i64 ((i * 4 : Nat) : Int) ∧ Ex [] w3 w' ∧ a = .bool ((rs.take i).all (mayB 3 0 2)) ∧ Own w' w3.heap.size T_ref05_Record 4 b (rcs kRecord (rs.take i))) ⟨rfl, Ex.refl _ _, rfl, Own.nil _ _ _ _⟩ ?_
      rintro i J a b c w4 k2 hi ⟨rfl, hE4, rfl, hO4⟩ hk2
      have l4 := hE4.le
      rw [bin_add (by omega), (hO3.slg.ex0 hE4).len_i u_T_Lint64 (by omega) (n := rs.length * 4) (by rw [im_length, hfl, Nat.mul_one]), bin_lss]
      refine wIf_d (fun hlt => ?_) (fun hge => ?_)
      · have hlt : i < rs.length := by omega
        have hrl : rs[i].length = 4 := hlen _ (List.getElem_mem hlt)
        have hokr : okNs wRecord rs[i] = true := by
          unfold okR at hokR
          exact List.all_eq_true.1 hokR _ (List.getElem_mem hlt)
        obtain ⟨a, b, c, d, hrr⟩ : ∃ a b c d, rs[i] = [a, b, c, d] := by
          match h : rs[i], hrl with
          | [a, b, c, d], _ => exact ⟨_, _, _, _, rfl⟩
        rw [hrr] at hokr
        have hokr : okN 2 a = true ∧ okN 4 b = true ∧ okN 2 c = true ∧ okN 1 d = true := by simpa [okNs, wRecord, and_assoc] using hokr
        obtain ⟨hok0, hok1, hok2, hok3⟩ := hokr
        have hr0 : 0 ≤ a ∧ a < 4294967296 := okN_rng hok0 (by omega)
        have hr1 : 0 ≤ b ∧ b < 4294967296 := okN_rng hok1 (by omega)
        have hr2 : 0 ≤ c ∧ c < 4294967296 := okN_rng hok2 (by omega)
        have hr3 : 0 ≤ d ∧ d < 4294967296 := okN_rng hok3 (by omega)
        have hmr : mayB 3 0 2 rs[i] = decide (d ≤ 2) := by
          rw [hrr]
          show (decide (0 ≤ d) && decide (d ≤ 2)) = _
          rw [decide_eq_true (by omega), Bool.true_and]
        have hix : ∀ {wa : World} (t : Nat) (x : Int), t < 4 → [a, b, c, d][t]? = some x → ∀ (z : Int), z = ((i * 4 + t : Nat) : Int) → Ex [] w3 wa → ∀ (K : Value → World → Prop), (∀ a, wa.cell? a = some (.int .i64 x) → K (.pointer (some a)) wa) → wIndexA P T_Lint64 v12 (.int .i64 z) wa K := by
          intro wa t x ht hx z hz hEa K hK
          subst hz
          refine (hO3.slg.ex0 hEa).ix1 s_T_Lint64 (by omega) (x := .int .i64 x) ?_ hK
          rw [Int.toNat_natCast]
          refine im_get ?_
          rw [flat_get (m := 4) rs i t rs[i] (fun r hr => (hwid r hr).symm) (List.getElem?_eq_getElem hlt) ht, hrr]
          exact hx
        refine draw_i fun w5 hE5 _ => ?_
        have E5 := hE4.trans hE5
        have l5 := E5.le
        refine hix 0 a (by omega) rfl _ (by omega) E5 _ fun a0 ha0 => ?_
        rw [ld_one o_T_int64 ha0, conv_i64_32 hr0]
        rw [bin_add (by omega)]
        refine hix 1 b (by omega) rfl _ (by omega) E5 _ fun a1 ha1 => ?_
        rw [ld_one o_T_int64 ha1, conv_i64_32 hr1]
        rw [bin_add (by omega)]
        refine hix 2 c (by omega) rfl _ (by omega) E5 _ fun a2 ha2 => ?_
        rw [ld_one o_T_int64 ha2]
        rw [bin_add (by omega)]
        refine hix 3 d (by omega) rfl _ (by omega) E5 _ fun a3 ha3 => ?_
        rw [ld_one o_T_int64 ha3]
        rw [bl_T_ref05_Record (cs := rc kRecord [a, b, c, d]) (by rw [fill_cons (off := 0) (size := 1) rfl rfl rfl (by simp [splice]), fill_cons (off := 1) (size := 1) rfl rfl rfl (by simp [splice]), fill_cons (off := 2) (size := 1) rfl rfl rfl (by simp [splice]), fill_cons (off := 3) (size := 1) rfl rfl rfl (by simp [splice])]; rfl)]
        refine buildS_1 (xs := rc kRecord [a, b, c, d]) (size := 4) u_T_Lref05_Record (fun w => sizeOf_agg g_T_ref05_Record w) z_T_ref05_Record (by omega) rfl rfl rfl fun w6 g6 hg6 hE6 B6 => ?_
        have l6 := hE6.le
        have htl : lenR kRecord (rs.take i) := fun r hr => hlen r (List.mem_of_mem_take hr)
        refine app_T_Lref05_Record (n := i) (m := 1) ((hO4.ex0 hE5).ex0 hE6) (SlG.of_cs B6.all rfl (Nat.le_refl _)) (by rw [rcs_length htl, List.length_take, Nat.min_eq_left (by omega)]; rfl) rfl (rc_isC _ _) (by omega) (by omega) fun b' w7 hO7 hE7 _ => ?_
        have E7 : Ex [] w3 w7 := (E5.trans hE6).step hE7 fun y hy => .inr (hO4.newb y hy).1
        have fin : ∀ wa, Ex [] w7 wa → k2 (.bool ((rs.take i).all (mayB 3 0 2) && decide (d ≤ 2))) b' (.int .i64 (((i * 4 : Nat) : Int) + 4)) wa := by
          intro wa hEa
          refine hk2 _ _ _ _ (by omega) ⟨by congr 1; omega, E7.trans hEa, ?_, ?_⟩
          · rw [takeR hlt, List.all_append, ← hmr]; simp
          · rw [takeR hlt, rcs_append, rcs_one, hrr]; exact hO7.ex0 hEa
        refine and_i (r := decide (d ≤ 2)) (fun _ k' hk' => ?_) ?_
        · rw [bin_add (by omega)]
          refine hix 3 d (by omega) rfl _ (by omega) E7 _ fun a ha => ?_
          rw [ld_one o_T_int64 ha, bin_leq]
          exact hk'
        rw [bin_add (by omega)]
        exact fin w7 (Ex.refl _ _)
      · obtain rfl : i = rs.length := by omega
        rw [List.take_length] at hO4 ⊢
        exact hk1 _ _ _ ⟨hE4, rfl, hO4⟩
    · rintro J a b w4 ⟨hE4, rfl, hO4⟩
      have l4 := hE4.le
      rw [un_not]
      refine or_i (r := decide ((13 : Int) < rs.length)) (fun _ k' hk' => ?_) ?_
      · rw [hO4.slg.len_i u_T_Lref05_Record (by omega) (rcs_length hlen), bin_gtr]
        exact hk'
      refine wIf_i _ (fun hc => ?_) (fun hc => ?_)
      · have hm : (mayL (mayB 3 0 2) 13) rs = false := by
          unfold mayL
          cases ha : rs.all (mayB 3 0 2) with
          | false => rfl
          | true => rw [ha] at hc; simp at hc; simp; omega
        exact hbad (by rw [readL_open, hop]; simp [hm]) w4 (E3.trans hE4)
      · have hm : (mayL (mayB 3 0 2) 13) rs = true := by
          unfold mayL
          cases ha : rs.all (mayB 3 0 2) with
          | false => rw [ha] at hc; simp at hc
          | true => rw [ha] at hc; simp at hc; simp; omega
        exact hk rs (by rw [readL_open, hop]; simp [hm]) hlen b w4 (E3.trans hE4) (hO4.base (by omega))

end
end Go.Dn
