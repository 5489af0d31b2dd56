import Derived.Test.YtflnhihdbhjlnaaCseal
/-! Contracts of seal and of its reference: Make, Open. -/
set_option maxRecDepth 10000
set_option linter.unusedVariables false
set_option linter.unusedSimpArgs false
namespace Go.Dn
open Go
section
variable {w : World} {K : Value → World → Prop}
theorem rep_bvs (n : Nat) : bvs (List.replicate n 0) = List.replicate n (Value.int .u8 0) := by simp [bvs]
def zeroS : List Nat := List.replicate 128 0
theorem zeroS_length : zeroS.length = 128 := List.length_replicate
theorem bl_zero_sector : wBuild P T_api_Sector [] w K = K (sv zeroS) w := by
  rw [bl_T_api_Sector (cs := bvs zeroS) (by rw [zeroS, rep_bvs]; exact fill_nil)]
  rfl
theorem bl_zero_128 : wBuild P T_A128uint8 [] w K = K (sv zeroS) w := by
  rw [bl_T_A128uint8 (cs := bvs zeroS) (by rw [zeroS, rep_bvs]; exact fill_nil)]
  rfl
/-- A sector is laid over a variable of its type. -/
theorem st_sector {k : World → Prop} {g : Nat} {u : TypeId} {cs : List Value} {s : List Nat} {t : TypeId} (hT : aggT P t 128 = true) (hs : s.length = 128) (H : Blk w g u cs) (hl : cs.length = 128) (hk : ∀ w', Ex [g] w w' → Blk w' g u (bvs s) → k w') : wStore P t (.pointer (some ⟨g, 0, none⟩)) (sv s) w k := by
  refine st_agg hT (by rw [bvs_length, hs]) (bvs_isC s) H (by omega) fun w' hE B => ?_
  rw [splice_front (n := 128) (by rw [bvs_length, hs]) (by omega), List.drop_of_length_le (by omega), List.append_nil] at B
  exact hk w' hE B
theorem ld_sector {g : Nat} {u : TypeId} {s : List Nat} {t : TypeId} (hT : aggT P t 128 = true) (hs : s.length = 128) (H : Blk w g u (bvs s)) : wLoad P t (.pointer (some ⟨g, 0, none⟩)) w K = K (sv s) w :=
  ld_agg hT H.all (by rw [bvs_length, hs])
theorem res_sector {g : Nat} {u : TypeId} {s : List Nat} {t : TypeId} {k : Value → Prop} (hT : aggT P t 128 = true) (hs : s.length = 128) (H : Blk w g u (bvs s)) (hk : k (sv s)) : wRes P t (.pointer (some ⟨g, 0, none⟩)) w k :=
  res_agg hT H.all (by rw [bvs_length, hs]) hk
theorem eq_sector {t : TypeId} {n : Nat} (hu : P.underlying t = some (.array n T_uint8)) (x y : List Nat) (hx : x.length = n) (hy : y.length = n) (d : Nat) (w : World) : (Op.equalIn (d + 2) t (sv x) (sv y)).run P w = .ok (decide (x = y)) w := by
  have hb : ∀ l : List Nat, bvs l = (l.map fun n : Nat => (n : Int)).map (Value.int .u8) := by intro l; simp [bvs]
  unfold sv
  rw [hb x, hb y]
  refine (eqA_int hu o_T_uint8 i_T_uint8 d (x.map fun n : Nat => (n : Int)) (y.map fun n : Nat => (n : Int)) (by simpa using hx) (by simpa using hy) w).trans ?_
  have : decide ((x.map fun n : Nat => (n : Int)) = y.map fun n : Nat => (n : Int)) = decide (x = y) := by
    rw [decide_eq_decide]
    exact ⟨fun h => bvs_inj (by rw [hb, hb, h]), fun h => by rw [h]⟩
  rw [this]
theorem ne_128 {x y : List Nat} (hx : x.length = 128) (hy : y.length = 128) : wBin P .neq T_A128uint8 (sv x) (sv y) w K = K (.bool (!decide (x = y))) w :=
  bin_neA2 e_T_A128uint8 fun d w' => eq_sector v_T_A128uint8 x y hx hy d w'
theorem ne_sector {x y : List Nat} (hx : x.length = 128) (hy : y.length = 128) : wBin P .neq T_api_Sector (sv x) (sv y) w K = K (.bool (!decide (x = y))) w :=
  bin_neA2 e_T_api_Sector fun d w' => eq_sector v_T_api_Sector x y hx hy d w'
theorem eq_sector' {x y : List Nat} (hx : x.length = 128) (hy : y.length = 128) : wBin P .eql T_api_Sector (sv x) (sv y) w K = K (.bool (decide (x = y))) w :=
  bin_eqA2 e_T_api_Sector fun d w' => eq_sector v_T_api_Sector x y hx hy d w'
theorem ref02_Make {kind : Nat} {v : Value} {body : List Nat} {k : Value → World → Prop} (S : SlG w 1 v (bvs body)) (hkd : kind < 256) (hb : ∀ b ∈ body, b < 256) (hl : body.length ≤ 1000000)
    (hbad : kind = 0 ∨ 120 < body.length → ∀ w', Ex [] w w' → k (.tuple #[sv zeroS, .bool false]) w') (hk : kind ≠ 0 → body.length ≤ 120 → ∀ w', Ex [] w w' → k (.tuple #[sv (sealS kind body), .bool true]) w') :
    wCall P n_ref02_Make [.int .u8 (kind : Int), v] w k := by
  refine call_ref02_Make _ _ ?_
  unfold F_ref02_Make
  refine alloc_i z_T_A128uint8 (vs := List.replicate 128 (.int .u8 0)) rfl fun w1 g1 hg1 hE1 B1 => ?_
  have S1 := S.ex0 hE1
  simp only [bin_eql, S1.len_i (P := P) u_T_Luint8 (by omega) (n := body.length) (by rw [bvs_length]; omega), bin_gtr, or_p]
  refine wIf_i _ (fun hc => ?_) (fun hc => ?_)
  · simp only [Bool.or_eq_true, decide_eq_true_eq] at hc
    rw [bl_zero_128]
    refine st_sector g_T_A128uint8 zeroS_length B1 List.length_replicate fun w2 hE2 B2 => ?_
    refine res_sector g_T_A128uint8 zeroS_length B2 ?_
    exact hbad (by omega) w2 (hE1.new hE2 (by omega))
  · simp only [Bool.or_eq_false_iff, decide_eq_false_iff_not] at hc
    have hk0 : kind ≠ 0 := by omega
    have hl2 : body.length ≤ 120 := by omega
    rw [conv_i_8 (by omega)]
    refine buildS_ones (xs := bvs [215, 76, kind, body.length]) rfl u_T_Luint8 o_T_uint8 z_T_uint8 rfl rfl (by omega) (fun x hx => isC_cells (bvs_isC _ x hx)) fun w2 g2 hg2 hE2 B2 => ?_
    have hle1 := hE1.le
    have hle2 := hE2.le
    have hO2 : Own w2 w1.heap.size T_uint8 1 (.slice (some ⟨g2, 0, none⟩) 4 4) (bvs [215, 76, kind, body.length]) :=
      Own.of_blk B2 rfl (by omega) (by omega)
    refine app_T_Luint8 (n := 4) (m := body.length) hO2 (S1.ex0 hE2) rfl (by rw [bvs_length]; omega) (bvs_isC _) (by omega) (by omega) fun v3 w3 hO3 hE3 hv3 => ?_
    have hle3 := hE3.le
    have E3 : Ex [] w1 w3 := hE2.step hE3 (by simp [Value.ownBlock]; omega)
    rw [← bvs_append] at hO3
    unfold wJ1
    have hlen : ([215, 76, kind, body.length] ++ body).length = 4 + body.length := by simp; omega
    refine loop_up (120 - body.length) (fun i u w' => Ex [] w1 w' ∧ Own w' w1.heap.size T_uint8 1 u (bvs ([215, 76, kind, body.length] ++ body ++ List.replicate i 0))) ⟨E3, by simpa using hO3⟩ ?_
    rintro i J u w' k' hi ⟨hE, hO⟩ hk'
    have hle := hE.le
    have hli : ([215, 76, kind, body.length] ++ body ++ List.replicate i 0).length = 4 + body.length + i := by simp; omega
    rw [hO.slg.len_i (P := P) u_T_Luint8 (by omega) (n := 4 + body.length + i) (by rw [bvs_length, hli]; omega), bin_lss]
    refine wIf_d (fun hlt => ?_) (fun hge => ?_)
    · refine push_u8 (b := 0) hO (n := 4 + body.length + i) hli (by omega) hle fun v4 w4 hO4 hE4 _ => ?_
      refine hk' _ _ (by omega) ⟨hE.step hE4 fun y hy => .inr ?_, ?_⟩
      · cases hu : u.ownBlock with
        | none => rw [hu] at hy; simp at hy
        | some g => rw [hu] at hy; simp at hy; have := (hO.blk hu).1; omega
      · rw [List.append_assoc, ← List.replicate_succ'] at hO4
        exact hO4
    · obtain rfl : i = 120 - body.length := by omega
      intro _
      have hhead : [215, 76, kind, body.length] ++ body ++ List.replicate (120 - body.length) 0 = sealHead kind body := rfl
      rw [hhead] at hO
      have hhl := sealHead_length (kind := kind) hl2
      have hhb := sealHead_lt hkd hl2 hb
      refine ref02_Crc hO.slg hhb (by omega) ?_
      have hcl := crc_lt (sealHead kind body)
      rw [conv_32_64 hcl]
      refine ref01_Low (wd := 4) (by omega) (by omega) fun v5 w5 hE5 hO5 => ?_
      have hle5 := hE5.le
      refine app_T_Luint8 (n := 124) (m := 4) (hO.ex0 hE5) hO5.slg (by rw [bvs_length, hhl]) (by rw [bvs_length, low_length]) (bvs_isC _) (by omega) (by omega) fun v6 w6 hO6 hE6 hv6 => ?_
      rw [← bvs_append] at hO6
      have hsl : (sealHead kind body ++ low (crc (sealHead kind body)) 4) = sealS kind body := rfl
      rw [hsl] at hO6
      have hsn := sealS_length (kind := kind) hl2
      have E6 : Ex [] w1 w6 := (hE.trans hE5).step hE6 fun y hy => .inr (by
        cases hu : u.ownBlock with
        | none => rw [hu] at hy; simp at hy
        | some g => rw [hu] at hy; simp at hy; have := (hO.blk hu).1; omega)
      refine ref01_Full hO6.slg (by omega) fun w7 hE7 => ?_
      have e7 : (sealS kind body).take 128 ++ List.replicate (128 - (sealS kind body).length) 0 = sealS kind body := by
        rw [hsn, List.take_of_length_le (by omega)]; simp
      rw [e7]
      have hg1 := B1.ex (E6.trans hE7) (by simp)
      refine st_sector g_T_A128uint8 hsn hg1 List.length_replicate fun w8 hE8 B8 => ?_
      refine res_sector g_T_A128uint8 hsn B8 ?_
      exact hk hk0 hl2 w8 ((hE1.trans (E6.trans hE7)).new hE8 (by omega))
theorem getD_eq {s : List Nat} {i : Nat} (h : i < s.length) : (bvs s)[i]? = some (.int .u8 (s.getD i 0 : Nat)) := by
  rw [bvs_get (List.getElem?_eq_getElem h), List.getD_eq_getElem?_getD, List.getElem?_eq_getElem h]; rfl
theorem getD_lt {s : List Nat} (hb : ∀ b ∈ s, b < 256) (i : Nat) : s.getD i 0 < 256 := by
  rw [List.getD_eq_getElem?_getD]
  cases h : s[i]? with
  | none => simp
  | some b => exact hb b (List.mem_of_getElem? h)
theorem bodyS_length {s : List Nat} (hs : s.length = 128) (hl : s.getD 3 0 ≤ 120) : (bodyS s).length = s.getD 3 0 := by
  unfold bodyS; rw [List.length_take, List.length_drop]; omega
theorem bodyS_lt {s : List Nat} (hb : ∀ b ∈ s, b < 256) : ∀ b ∈ bodyS s, b < 256 := fun b h => hb b (List.mem_of_mem_drop (List.mem_of_mem_take h))
theorem ix_sec {g i : Nat} {x : Int} {ik : IntKind} {t : TypeId} (ht : arT P t = some (128, 1)) (hx : x = (i : Int)) (hi : i < 128) : wIndexA P t (.pointer (some ⟨g, 0, none⟩)) (.int ik x) w K = K (.pointer (some ⟨g, i, none⟩)) w := by
  subst hx
  rw [indexA_i ht (by omega) (by omega), Nat.zero_add, Nat.mul_one, Int.toNat_natCast]
theorem ref02_Open {s : List Nat} {k : Value → World → Prop} (hs : s.length = 128) (hb : ∀ b ∈ s, b < 256)
    (hbad : sealOp s = none → ∀ w', Ex [] w w' → k (.tuple #[.int .u8 0, .slice none 0 0, .bool false]) w')
    (hk : ∀ kind body, sealOp s = some (kind, body) → ∀ v w', Ex [] w w' → Own w' w.heap.size T_uint8 1 v (bvs body) → k (.tuple #[.int .u8 (kind : Int), v, .bool true]) w') : wCall P n_ref02_Open [sv s] w k := by
  refine call_ref02_Open _ ?_
  unfold F_ref02_Open
  refine box_i (sv_cells s) fun w1 g1 hg1 hE1 B1 => ?_
  have hb3 := getD_lt hb 3
  rw [ix_sec (i := 3) a_T_A128uint8 (by omega) (by omega), ld_one o_T_uint8 ((B1.cell 3).trans (getD_eq (i := 3) (by omega))), bin_gtr]
  refine wIf_d (fun hgt => ?_) (fun hle => ?_)
  · exact hbad (by unfold sealOp; rw [if_pos (by omega)]) w1 hE1
  · have hle1 := hE1.le
    unfold wJ1
    refine loop_up2 (s.getD 3 0) (fun i v u w' => u = .int .i64 (i : Int) ∧ Ex [] w1 w' ∧ Own w' w1.heap.size T_uint8 1 v (bvs ((s.drop 4).take i))) ⟨rfl, Ex.refl _ _, by simpa [bvs] using Own.nil w1 w1.heap.size T_uint8 1⟩ ?_
    rintro i J v u w' k' hi ⟨rfl, hE, hO⟩ hk'
    have hlE := hE.le
    have B' := B1.ex hE (by simp)
    rw [ix_sec (i := 3) a_T_A128uint8 (by omega) (by omega), ld_one o_T_uint8 ((B'.cell 3).trans (getD_eq (i := 3) (by omega))), conv_8_i hb3, bin_lss]
    refine wIf_d (fun hlt => ?_) (fun hge => ?_)
    · have h4 : 4 + i < s.length := by omega
      rw [bin_add (by omega), ix_sec (i := 4 + i) a_T_A128uint8 (by omega) (by omega), ld_one o_T_uint8 ((B'.cell (4 + i)).trans (getD_eq (i := 4 + i) (by omega)))]
      refine push_u8 hO (n := i) (by rw [List.length_take, List.length_drop]; omega) (by omega) hlE fun v2 w2 hO2 hE2 _ => ?_
      rw [bin_add (by omega)]
      refine hk' _ _ _ (by omega) ⟨rfl, hE.step hE2 fun y hy => .inr ?_, ?_⟩
      · cases hv : v.ownBlock with
        | none => rw [hv] at hy; simp at hy
        | some g => rw [hv] at hy; simp at hy; have := (hO.blk hv).1; omega
      · have : (s.drop 4).take (i + 1) = (s.drop 4).take i ++ [s.getD (4 + i) 0] := by
          rw [List.take_succ_eq_append_getElem (by rw [List.length_drop]; omega), List.getD_eq_getElem?_getD, List.getElem?_eq_getElem h4]
          simp
        rw [this]
        exact hO2
    · obtain rfl : i = s.getD 3 0 := by omega
      intro _
      have hbody : (s.drop 4).take (s.getD 3 0) = bodyS s := rfl
      rw [hbody] at hO
      have hbl := bodyS_length hs (by omega)
      rw [ix_sec (i := 2) a_T_A128uint8 (by omega) (by omega), ld_one o_T_uint8 ((B'.cell 2).trans (getD_eq (i := 2) (by omega)))]
      have fin : ∀ ok m w2, m.length = 128 → Ex [] w1 w2 → Ex [] w' w2 → (ok = true ∧ m = s ↔ sealMk (s.getD 2 0) (bodyS s) = some s) →
          (wExtract P (.tuple #[sv m, .bool ok]) 0 w2 fun t31 w => wExtract P (.tuple #[sv m, .bool ok]) 1 w fun t32 w => wAlloc P T_A128uint8 w fun t7 w => wStore P T_A128uint8 t7 t31 w fun w => wUn P .not t32 w fun t34 w =>
            wGrp t34 false (fun k38 => wLoad P T_A128uint8 t7 w fun t36 w => wLoad P T_A128uint8 (.pointer (some ⟨g1, 0, none⟩)) w fun t37 w => wBin P .neq T_A128uint8 t36 t37 w fun t38 w => k38 t38 w) w fun _ t38 w =>
            wPick t34 (.bool true) t38 w fun t39 w => wIf t39 (k (.tuple #[.int .u8 0, .slice none 0 0, .bool false]) w)
              (wIndexA P T_A128uint8 (.pointer (some ⟨g1, 0, none⟩)) (.int .i64 2) w fun t40 w => wLoad P T_uint8 t40 w fun t41 w => k (.tuple #[t41, v, .bool true]) w)) := by
        intro ok m w2 hm hE2 hE2' hiff
        rw [ext_0, ext_1]
        refine alloc_i z_T_A128uint8 (vs := List.replicate 128 (.int .u8 0)) rfl fun w3 g3 hg3 hE3 B3 => ?_
        have hl2 := hE2.le
        refine st_sector g_T_A128uint8 hm B3 List.length_replicate fun w4 hE4 B4 => ?_
        have E4 : Ex [] w2 w4 := hE3.new hE4 (by omega)
        have B14 := (B1.ex hE2 (by simp)).ex E4 (by simp)
        rw [un_not]
        refine or_i (r := !decide (m = s)) (fun _ k2 hk2 => ?_) ?_
        · rw [ld_sector g_T_A128uint8 hm B4, ld_sector g_T_A128uint8 hs B14, ne_128 hm hs]
          exact hk2
        · refine wIf_i _ (fun hc => ?_) (fun hc => ?_)
          · refine hbad ?_ w4 (hE1.trans (hE2.trans E4))
            unfold sealOp
            rw [if_neg (by omega), if_neg]
            intro h
            obtain ⟨h1, h2⟩ := hiff.2 h
            rw [h1, h2] at hc
            simp at hc
          · have h12 : ok = true ∧ m = s := by
              cases ok
              · simp at hc
              · simpa using hc
            rw [ix_sec (i := 2) a_T_A128uint8 (by omega) (by omega), ld_one o_T_uint8 ((B14.cell 2).trans (getD_eq (i := 2) (by omega)))]
            refine hk _ _ ?_ v w4 (hE1.trans (hE2.trans E4)) (((hO.ex0 hE2').ex0 E4).base (by omega))
            unfold sealOp
            rw [if_neg (by omega), if_pos (hiff.1 h12)]
      refine ref02_Make hO.slg (getD_lt hb 2) (bodyS_lt hb) (by omega) (fun hc w2 hE2 => ?_) (fun h0 hl2 w2 hE2 => ?_)
      · refine fin false zeroS w2 zeroS_length (hE.trans hE2) hE2 ?_
        constructor
        · intro h; cases h.1
        · intro h
          unfold sealMk at h
          rw [if_pos hc] at h
          cases h
      · refine fin true _ w2 (sealS_length hl2) (hE.trans hE2) hE2 ?_
        unfold sealMk
        rw [if_neg (by omega)]
        simp
end
end Go.Dn
