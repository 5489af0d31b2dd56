import Derived.Test.YtflnhihdbhjlnaaGref05
import Derived.Test.YtflnhihdbhjlnaaCcodec
/-! Contracts of the reference of layer 5: Sealed, Opened. -/
set_option maxRecDepth 10000
set_option linter.unusedVariables false
set_option linter.unusedSimpArgs false
namespace Go.Dn
open Go
/-- What a function of the references hands back. -/
def wrB (o : Option (List Nat)) : Value := .tuple #[sv (o.getD zeroS), .bool o.isSome]
def fcs (fs : List (Nat × Int)) : List Value := fs.flatMap fun f => [.int .i64 (f.1 : Int), .int .i64 f.2]
def encP (fs : List (Nat × Int)) : List Nat := fs.flatMap fun f => low f.2.toNat f.1
def okP (fs : List (Nat × Int)) : Bool := fs.all fun f => okN f.1 f.2
theorem fcs_append (a b : List (Nat × Int)) : fcs (a ++ b) = fcs a ++ fcs b := by simp [fcs]
theorem fcs_length (fs : List (Nat × Int)) : (fcs fs).length = fs.length * 2 := by
  induction fs with
  | nil => rfl
  | cons f fs ih => show ([_, _] ++ fcs fs).length = _; rw [List.length_append, ih]; simp; omega
theorem fcs_isC (fs : List (Nat × Int)) : ∀ v ∈ fcs fs, isC v = true := by
  intro v hv
  obtain ⟨f, _, h⟩ := List.mem_flatMap.1 hv
  simp only [List.mem_cons, List.not_mem_nil, or_false] at h
  rcases h with rfl | rfl <;> rfl
theorem fcs_at {fs : List (Nat × Int)} {i : Nat} (h : i < fs.length) : ((fcs fs).drop (i * 2)).take 2 = [.int .i64 (fs[i].1 : Int), .int .i64 fs[i].2] := by
  have e : fcs fs = fcs (fs.take i) ++ ([.int .i64 (fs[i].1 : Int), .int .i64 fs[i].2] ++ fcs (fs.drop (i + 1))) := by
    conv => lhs; rw [← List.take_append_drop i fs, List.drop_eq_getElem_cons h, fcs_append]
    rfl
  rw [e, List.drop_left' (by rw [fcs_length, List.length_take, Nat.min_eq_left (by omega)])]
  rfl
theorem encP_append (a b : List (Nat × Int)) : encP (a ++ b) = encP a ++ encP b := by simp [encP]
theorem encP_zip : ∀ (ws : List Nat) (ns : List Int), encP (ws.zip ns) = encF ws ns
  | [], _ => rfl
  | _ :: _, [] => rfl
  | wd :: ws, n :: ns => by show low n.toNat wd ++ encP (ws.zip ns) = _; rw [encP_zip ws ns]; rfl
theorem okP_zip : ∀ (ws : List Nat) (ns : List Int), okP (ws.zip ns) = okNs ws ns
  | [], _ => rfl
  | _ :: _, [] => rfl
  | wd :: ws, n :: ns => by show (okN wd n && okP (ws.zip ns)) = _; rw [okP_zip ws ns]; rfl
def zipR (ws : List Nat) (rs : List (List Int)) : List (Nat × Int) := rs.flatMap fun r => ws.zip r
theorem encP_zipR (ws : List Nat) (rs : List (List Int)) : encP (zipR ws rs) = encR ws rs := by
  induction rs with
  | nil => rfl
  | cons r rs ih => show encP (ws.zip r ++ zipR ws rs) = encF ws r ++ encR ws rs; rw [encP_append, encP_zip, ih]
theorem okP_zipR (ws : List Nat) (rs : List (List Int)) : okP (zipR ws rs) = okR ws rs := by
  induction rs with
  | nil => rfl
  | cons r rs ih =>
    show okP (ws.zip r ++ zipR ws rs) = (okNs ws r && okR ws rs)
    rw [← ih, ← okP_zip]
    simp [okP]
theorem encP_take {fs : List (Nat × Int)} {i : Nat} (h : i < fs.length) : encP (fs.take (i + 1)) = encP (fs.take i) ++ low fs[i].2.toNat fs[i].1 := by
  rw [List.take_succ_eq_append_getElem h, encP_append]
  simp [encP]
theorem encP_lt (fs : List (Nat × Int)) : ∀ b ∈ encP fs, b < 256 := by
  intro b hb
  obtain ⟨f, _, h⟩ := List.mem_flatMap.1 hb
  exact low_lt _ _ b h
theorem encP_length {fs : List (Nat × Int)} (h : ∀ f ∈ fs, f.1 ≤ 8) : (encP fs).length ≤ fs.length * 8 := by
  induction fs with
  | nil => simp [encP]
  | cons f fs ih =>
    show (low f.2.toNat f.1 ++ encP fs).length ≤ _
    have := ih fun x hx => h x (List.mem_cons_of_mem _ hx)
    have := h f (List.mem_cons_self ..)
    rw [List.length_append, low_length, List.length_cons]; omega
section
variable {w : World}
theorem wrB_len {o : Option (List Nat)} (h : ∀ s, o = some s → s.length = 128) : (o.getD zeroS).length = 128 := by
  cases o with
  | none => exact zeroS_length
  | some s => exact h s rfl
theorem wrB_end {o : Option (List Nat)} {g : Nat} {k : Value → World → Prop} (h : ∀ s, o = some s → s.length = 128) (B : Blk w g T_A128uint8 (List.replicate 128 (.int .u8 0))) (hk : ∀ w', Ex [g] w w' → k (wrB o) w') :
    wExtract P (wrB o) 0 w fun t6 w => wExtract P (wrB o) 1 w fun t7 w => wStore P T_A128uint8 (ptr g) t6 w fun w => wRes P T_A128uint8 (ptr g) w fun r2 => k (.tuple #[r2, t7]) w := by
  unfold wrB
  rw [ext_0, ext_1]
  refine st_sector g_T_A128uint8 (wrB_len h) B List.length_replicate fun w1 hE1 B1 => ?_
  refine res_sector g_T_A128uint8 (wrB_len h) B1 ?_
  exact hk w1 hE1
theorem wrB_none {g : Nat} {k : Value → World → Prop} (B : Blk w g T_A128uint8 (List.replicate 128 (.int .u8 0))) (hk : ∀ w', Ex [g] w w' → k (wrB none) w') :
    wBuild P T_A128uint8 [] w fun t12 w => wStore P T_A128uint8 (ptr g) t12 w fun w => wRes P T_A128uint8 (ptr g) w fun r2 => k (.tuple #[r2, (.bool false)]) w := by
  rw [bl_zero_128]
  refine st_sector g_T_A128uint8 zeroS_length B List.length_replicate fun w1 hE1 B1 => ?_
  refine res_sector g_T_A128uint8 zeroS_length B1 ?_
  exact hk w1 hE1
theorem ref02_MakeB {kind : Nat} {v : Value} {body : List Nat} {k : Value → World → Prop} (S : SlG w 1 v (bvs body)) (hkd : kind < 256) (hb : ∀ b ∈ body, b < 256) (hl : body.length ≤ 1000000) (hk : ∀ w', Ex [] w w' → k (wrB (sealMk kind body)) w') :
    wCall P n_ref02_Make [.int .u8 (kind : Int), v] w k := by
  refine ref02_Make S hkd hb hl (fun hc w' hE => ?_) (fun h0 h1 w' hE => ?_)
  · have := hk w' hE
    unfold wrB sealMk at this
    rw [if_pos hc] at this
    exact this
  · have := hk w' hE
    unfold wrB sealMk at this
    rw [if_neg (by omega)] at this
    exact this
theorem conv_u64 {n : Int} (h : 0 ≤ n) (h1 : n ≤ 9223372036854775807) {K : Value → World → Prop} : wConv P T_int64 T_uint64 (.int .i64 n) w K = K (.int .u64 ((n.toNat : Nat) : Int)) w := by
  rw [conv_i i_T_int64 i_T_uint64, IntWalk.u64_in _ (by omega)]
  congr 2
  omega
theorem ref05_Sealed {kind : Nat} {v : Value} {fs : List (Nat × Int)} {k : Value → World → Prop} (S : SlG w 2 v (fcs fs)) (hkd : kind < 256) (hf : ∀ f ∈ fs, 1 ≤ f.1 ∧ f.1 ≤ 8 ∧ -9223372036854775808 ≤ f.2 ∧ f.2 ≤ 9223372036854775807) (hn : fs.length ≤ 10000)
    (hk : ∀ w', Ex [] w w' → k (wrB (if okP fs = true then sealMk kind (encP fs) else none)) w') : wCall P n_ref05_Sealed [.int .u8 (kind : Int), v] w k := by
  refine call_ref05_Sealed _ _ ?_
  unfold F_ref05_Sealed
  refine alloc_i z_T_A128uint8 (vs := List.replicate 128 (.int .u8 0)) rfl fun w1 g1 hg1 hE1 B1 => ?_
  have l1 := hE1.le
  refine j1_of (fun u w' => Ex [] w1 w' ∧ okP fs = true ∧ Own w' w1.heap.size T_uint8 1 u (bvs (encP fs))) (fun k1 hk1 => ?_) ?_
  · refine loop_up2 fs.length (fun i u x w' => x = .int .i64 (i : Int) ∧ Ex [] w1 w' ∧ okP (fs.take i) = true ∧ Own w' w1.heap.size T_uint8 1 u (bvs (encP (fs.take i)))) ⟨rfl, Ex.refl _ _, rfl, Own.nil _ _ _ _⟩ ?_
    rintro i J u x w2 k2 hi ⟨rfl, hE2, hok, hO⟩ hk2
    have S2 := (S.ex0 hE1).ex0 hE2
    have l2 := hE2.le
    rw [S2.len_i u_T_Lref05_Field (by omega) (fcs_length fs), bin_lss]
    refine wIf_d (fun hlt => ?_) (fun hge => ?_)
    · have hlt : i < fs.length := by omega
      obtain ⟨hw1, hw8, hn1, hn2⟩ := hf _ (List.getElem_mem hlt)
      generalize hfi : fs[i] = f at *
      have hel : ((fcs fs).drop (i * 2)).take 2 = [.int .i64 (f.1 : Int), .int .i64 f.2] := by rw [fcs_at hlt, hfi]
      refine draw_i fun w3 hE3 _ => ?_
      have S3 := S2.ex0 hE3
      have E3 := hE2.trans hE3
      have l3 := hE3.le
      have bad : ∀ wa, Ex [] w1 wa → (okN f.1 f.2 = false) → (wBuild P T_A128uint8 [] wa fun t35 w => wStore P T_A128uint8 (ptr g1) t35 w fun w => wRes P T_A128uint8 (ptr g1) w fun r4 => k (.tuple #[r4, (.bool false)]) w) := by
        intro wa hEa hno
        refine wrB_none (B1.ex hEa (by simp)) fun w' hE' => ?_
        have := hk w' ((hE1.trans hEa).new hE' (by omega))
        have hfl : okP fs = false := by
          unfold okP
          rw [List.all_eq_false]
          exact ⟨fs[i], List.getElem_mem hlt, by rw [hfi]; simp [hno]⟩
        rw [if_neg (by simp [hfl])] at this
        exact this
      refine S3.ix s_T_Lref05_Field (by omega) (fcs_length fs) (by omega) (by omega) fun b o hcs => ?_
      rw [Int.toNat_natCast, hel] at hcs
      have c1 := hcs 1 _ rfl
      rw [fA_T_ref05_Field_1, ld_one o_T_int64 c1, bin_lss]
      refine or_i (r := !(decide (f.2.toNat < 256 ^ f.1))) (fun hb k' hk' => ?_) ?_
      · have h0 : 0 ≤ f.2 := by simpa using hb
        refine S3.ix s_T_Lref05_Field (by omega) (fcs_length fs) (by omega) (by omega) fun b o hcs => ?_
        rw [Int.toNat_natCast, hel] at hcs
        have c0 : w3.cell? ⟨b, o, none⟩ = some (.int .i64 (f.1 : Int)) := hcs 0 _ rfl
        rw [fA_T_ref05_Field_0, ld_one o_T_int c0]
        refine S3.ix s_T_Lref05_Field (by omega) (fcs_length fs) (by omega) (by omega) fun b o hcs => ?_
        rw [Int.toNat_natCast, hel] at hcs
        have c1 := hcs 1 _ rfl
        rw [fA_T_ref05_Field_1, ld_one o_T_int64 c1, conv_u64 h0 hn2]
        refine ref01_Has (by omega) ?_
        rw [un_not]
        have e : (!decide (1 ≤ (f.1 : Int) ∧ (f.1 : Int) ≤ 8 ∧ f.2.toNat < 256 ^ (f.1 : Int).toNat)) = !decide (f.2.toNat < 256 ^ f.1) := by
          congr 1
          rw [Int.toNat_natCast, decide_eq_decide]
          constructor
          · exact fun h => h.2.2
          · exact fun h => ⟨by omega, by omega, h⟩
        rw [e]
        exact hk'
      refine wIf_i _ (fun hc => ?_) (fun hc => ?_)
      · refine bad w3 E3 ?_
        unfold okN
        by_cases h0 : f.2 < 0
        · rw [decide_eq_false (by omega), Bool.false_and]
        · rw [decide_eq_false h0, Bool.false_or] at hc
          rw [show decide (f.2.toNat < 256 ^ f.1) = false by simpa using hc, Bool.and_false]
      · simp only [Bool.or_eq_false_iff, decide_eq_false_iff_not, Bool.not_eq_false', decide_eq_true_eq] at hc
        have h0 : 0 ≤ f.2 := by omega
        have hokf : okN f.1 f.2 = true := by unfold okN; rw [decide_eq_true h0, decide_eq_true hc.2]; rfl
        refine draw_i fun w4 hE4 _ => ?_
        have S4 := S3.ex0 hE4
        have E4 := E3.trans hE4
        have l4 := hE4.le
        refine S4.ix s_T_Lref05_Field (by omega) (fcs_length fs) (by omega) (by omega) fun b o hcs => ?_
        rw [Int.toNat_natCast, hel] at hcs
        have c1 := hcs 1 _ rfl
        rw [fA_T_ref05_Field_1, ld_one o_T_int64 c1, conv_u64 h0 hn2]
        refine S4.ix s_T_Lref05_Field (by omega) (fcs_length fs) (by omega) (by omega) fun b o hcs => ?_
        rw [Int.toNat_natCast, hel] at hcs
        have c0 : w4.cell? ⟨b, o, none⟩ = some (.int .i64 (f.1 : Int)) := hcs 0 _ rfl
        rw [fA_T_ref05_Field_0, ld_one o_T_int c0]
        refine ref01_Low (by omega) (by omega) fun v5 w5 hE5 hO5 => ?_
        have l5 := hE5.le
        have hel2 : (encP (fs.take i)).length ≤ 80000 := by
          have := encP_length (fs := fs.take i) fun f hf' => (hf f (List.mem_of_mem_take hf')).2.1
          rw [List.length_take] at this
          omega
        refine app_T_Luint8 (n := (encP (fs.take i)).length) (m := f.1) (((hO.ex0 hE3).ex0 hE4).ex0 hE5) hO5.slg (by rw [bvs_length]; omega) (by rw [bvs_length, low_length]; omega) (bvs_isC _) (by omega) (by omega) fun v6 w6 hO6 hE6 _ => ?_
        rw [bin_add (by omega)]
        refine hk2 _ _ _ (by omega) ⟨by simp, (E4.trans hE5).step hE6 fun y hy => .inr (hO.newb y hy).1, ?_, ?_⟩
        · rw [List.take_succ_eq_append_getElem hlt, hfi]
          unfold okP at hok ⊢
          rw [List.all_append, hok]
          simp [hokf]
        · rw [encP_take hlt, hfi, bvs_append]
          exact hO6
    · obtain rfl : i = fs.length := by omega
      rw [List.take_length] at hok hO
      exact hk1 _ _ ⟨hE2, hok, hO⟩
  · rintro J u w2 ⟨hE2, hok, hO⟩
    have hel2 : (encP fs).length ≤ 80000 := by
      have := encP_length (fs := fs) fun f hf' => (hf f hf').2.1
      omega
    refine ref02_MakeB hO.slg hkd (encP_lt fs) (by omega) fun w3 hE3 => ?_
    refine wrB_end (fun s h => sealMk_len h) ((B1.ex hE2 (by simp)).ex hE3 (by simp)) fun w4 hE4 => ?_
    have := hk w4 (((hE1.trans hE2).trans hE3).new hE4 (by omega))
    rw [if_pos hok] at this
    exact this
end
end Go.Dn
