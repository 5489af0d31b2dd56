import Derived.Test.YtflnhihdbhjlnaaCref05
/-! Contracts of the reference of layer 5: Opened. -/
set_option maxRecDepth 10000
set_option linter.unusedVariables false
set_option linter.unusedSimpArgs false
namespace Go.Dn
open Go
theorem decF_append : ∀ (w0 w1 : List Nat) (b : List Nat), decF (w0 ++ w1) b = decF w0 b ++ decF w1 (b.drop w0.sum)
  | [], w1, b => by simp [decF]
  | wd :: w0, w1, b => by
    simp only [List.cons_append, decF, List.sum_cons]
    rw [decF_append w0 w1, List.drop_drop]
theorem im_length (l : List Int) : (im l).length = l.length := by simp [im]
theorem im_append (a b : List Int) : im (a ++ b) = im a ++ im b := by simp [im]
theorem im_get {l : List Int} {i : Nat} {n : Int} (h : l[i]? = some n) : (im l)[i]? = some (.int .i64 n) := by simp [im, h]
theorem im_isC (l : List Int) : ∀ v ∈ im l, isC v = true := by
  intro v hv
  obtain ⟨n, _, rfl⟩ := List.mem_map.1 hv
  rfl
section
variable {w : World}
theorem push_i64 {base n : Nat} {v : Value} {xs : List Int} {b : Int} {K : Value → World → Prop} (ho : Own w base T_int64 1 v (im xs)) (hn : xs.length = n) (hb : n ≤ 1000000) (hba : base ≤ w.heap.size)
    (hk : ∀ v' w', Own w' base T_int64 1 v' (im (xs ++ [b])) → Ex v.ownBlock.toList w w' → K v' w') :
    wBuildS P T_Lint64 1 [(0, .int .i64 b)] w fun t w => wBuiltin P .append #[T_Lint64, T_Lint64] [v, t] w K := by
  refine buildS_1 u_T_Lint64 (sizeOf_one o_T_int64) z_T_int64 (by omega) rfl rfl rfl fun w1 g1 hg1 hE1 B1 => ?_
  have hle := hE1.le
  refine app_T_Lint64 (n := n) (m := 1) (ho.ex0 hE1) (SlG.of_cs B1.all (by simp) (Nat.le_refl _)) (by rw [im_length]; omega) (by simp) (by intro u hu; simp at hu; subst hu; rfl) (by omega) (by omega) fun v' w2 hO hE hv => ?_
  exact hk v' w2 (by rw [im_append]; exact hO) (hE1.nil.trans hE)
def openL (kind : Nat) (ws : List Nat) (s : List Nat) : Option (List (List Int)) :=
  match sealOp s with
  | some (k, body) => if k = kind then recsOf ws body else none
  | none => none
theorem ref05_Opened {kind : Nat} {v : Value} {ws : List Nat} {s : List Nat} {k : Value → World → Prop} (S : SlG w 1 v (ivs ws)) (hkd : kind < 256) (hs : s.length = 128) (hb : ∀ b ∈ s, b < 256) (hws : ∀ wd ∈ ws, 1 ≤ wd ∧ wd ≤ 4) (hne : ws ≠ []) (hwl : ws.length ≤ 100)
    (hbad : openL kind ws s = none → ∀ w', Ex [] w w' → k (.tuple #[.slice none 0 0, .bool false]) w')
    (hk : ∀ rs, openL kind ws s = some rs → rs.length ≤ 120 → ∀ v w', Ex [] w w' → Own w' w.heap.size T_int64 1 v (im rs.flatten) → k (.tuple #[v, .bool true]) w') : wCall P n_ref05_Opened [.int .u8 (kind : Int), sv s, v] w k := by
  refine call_ref05_Opened _ _ _ ?_
  unfold F_ref05_Opened
  refine box_i (sv_cells s) fun w1 g1 hg1 hE1 B1 => ?_
  have l1 := hE1.le
  rw [ld_sector g_T_A128uint8 hs B1]
  have hpos : 0 < ws.sum := by
    cases ws with
    | nil => exact absurd rfl hne
    | cons wd ws => have := (hws wd (List.mem_cons_self ..)).1; simp; omega
  refine ref02_Open hs hb (fun hno w2 hE2 => ?_) (fun kd body hop bv w2 hE2 hO2 => ?_)
  · rw [ext_0, ext_1, ext_2, un_not]
    refine or_i (r := true) (fun h => absurd h (by simp)) ?_
    rw [Bool.or_true, wIf_t]
    exact hbad (by simp [openL, hno]) w2 (hE1.trans hE2)
  · have l2 := hE2.le
    have E2 := hE1.trans hE2
    have hbl := sealOp_len hop
    have hbt := sealOp_lt hb hop
    rw [ext_0, ext_1, ext_2, un_not]
    refine or_i (r := decide (((kd : Nat) : Int) ≠ (kind : Int))) (fun _ k' hk' => by rw [bin_neq]; exact hk') ?_
    rw [show (!true) = false from rfl, Bool.false_or]
    refine wIf_d (fun hne' => ?_) (fun heq => ?_)
    · have hne' : kd ≠ kind := by omega
      exact hbad (by simp [openL, hop, hne']) w2 E2
    · have hkk : kd = kind := by omega
      subst hkk
      have S2 := S.ex0 E2
      obtain ⟨A, c, rfl⟩ := hO2.slice (by omega) (n := body.length) (by rw [bvs_length]; omega)
      have hdm := Nat.div_add_mod body.length ws.sum
      refine loop_m2 (n := body.length) (fun n u x w' => Ex [] w2 w' ∧ ∃ j, n = body.length - j * ws.sum ∧ j * ws.sum ≤ body.length ∧ x = .int .i64 ((j * ws.sum : Nat) : Int) ∧ Own w' w2.heap.size T_int64 1 u (im (decR ws body j).flatten)) ⟨Ex.refl _ _, 0, by simp, by simp, by simp, Own.nil _ _ _ _⟩ ?_
      rintro n J u x w3 k2 ⟨hE3, j, rfl, hj, rfl, hO3⟩ hk2
      have l3 := hE3.le
      have hjb : j ≤ j * ws.sum := Nat.le_mul_of_pos_right j hpos
      have hdl : (decR ws body j).flatten.length = j * ws.length := by
        have : ∀ (n : Nat) (b : List Nat), (decR ws b n).flatten.length = n * ws.length := by
          intro n
          induction n with
          | zero => intro b; simp [decR]
          | succ n ih => intro b; simp only [decR, List.flatten_cons, List.length_append, decF_length, ih, Nat.succ_mul]; omega
        exact this j body
      rw [len_s u_T_Luint8, bin_lss]
      refine wIf_d (fun hlt => ?_) (fun hge => ?_)
      · have hjl : j * ws.length ≤ 120 * 100 := Nat.mul_le_mul (by omega) hwl
        refine loop_m3 (n := ws.length) (fun n u x y w' => Ex [] w2 w' ∧ ∃ p0 p1, ws = p0 ++ p1 ∧ n = p1.length ∧ y = .int .i64 (p0.length : Int) ∧ x = .int .i64 ((j * ws.sum + p0.sum : Nat) : Int) ∧ j * ws.sum + p0.sum ≤ body.length ∧ Own w' w2.heap.size T_int64 1 u (im ((decR ws body j).flatten ++ decF p0 (body.drop (j * ws.sum)))))
          ⟨hE3, [], ws, rfl, rfl, rfl, by simp, by simpa using hj, by simpa [decF] using hO3⟩ ?_
        rintro n J u x y w4 k4 ⟨hE4, p0, p1, hpe, rfl, rfl, rfl, hle, hO4⟩ hk4
        have l4 := hE4.le
        have hpl : ws.length = p0.length + p1.length := by rw [hpe]; simp
        have hps : ws.sum = p0.sum + p1.sum := by rw [hpe]; simp
        have S4 := S2.ex0 hE4
        rw [S4.len_i u_T_Lint (by omega) (n := ws.length) (by rw [ivs_length]; omega), bin_lss]
        refine wIf_d (fun hl => ?_) (fun hg => ?_)
        · cases p1 with
          | nil => exfalso; simp at hpl; omega
          | cons wd p1 =>
            obtain ⟨hw1, hw4⟩ := hws wd (by rw [hpe]; simp)
            have hget : (ivs ws)[((p0.length : Nat) : Int).toNat]? = some (.int .i64 (wd : Int)) := by
              rw [Int.toNat_natCast]; exact ivs_get (by rw [hpe]; exact get_mid rfl)
            refine S4.ix1 s_T_Lint (by omega) hget fun a ha => ?_
            rw [ld_one o_T_int ha, bin_add (by omega), len_s u_T_Luint8, bin_gtr]
            simp only [List.sum_cons] at hps
            refine wIf_d (fun hgt => ?_) (fun hle2 => ?_)
            · refine hbad ?_ w4 (E2.trans hE4)
              have hnm : body.length % ws.sum ≠ 0 := by
                intro h0
                rw [h0, Nat.add_zero, Nat.mul_comm] at hdm
                generalize hq : body.length / ws.sum = q at hdm
                have h1 : j < q := by
                  rcases Nat.lt_or_ge j q with h | h
                  · exact h
                  · have := Nat.mul_le_mul_right ws.sum h; omega
                have h2 := Nat.mul_le_mul_right ws.sum (show j + 1 ≤ q from h1)
                rw [Nat.succ_mul] at h2
                omega
              simp [openL, hop, recsOf, hnm]
            · refine S4.ix1 s_T_Lint (by omega) hget fun a ha => ?_
              rw [ld_one o_T_int ha, bin_add (by omega), sliceS_lohi s_T_Luint8 (by omega) (by omega) (by
                obtain ⟨m, hml, hm⟩ := hO2
                rcases hm with ⟨h, _⟩ | ⟨g, cap, cur, h, _, _, hnc, _⟩
                · injection h with _ h2 h3; omega
                · injection h with _ h2 h3; omega)]
              have hsub := SlG.cut (i := j * ws.sum + p0.sum) (j := j * ws.sum + p0.sum + wd) ((hO2.slg).ex0 hE4) (by omega) (by omega)
              rw [Nat.mul_one, Nat.mul_one] at hsub
              have ebv : ((bvs body).drop (j * ws.sum + p0.sum)).take (j * ws.sum + p0.sum + wd - (j * ws.sum + p0.sum)) = bvs ((body.drop (j * ws.sum + p0.sum)).take wd) := by
                unfold bvs
                rw [← List.map_drop, ← List.map_take]
                congr 2
                omega
              rw [ebv] at hsub
              have hslen : ((body.drop (j * ws.sum + p0.sum)).take wd).length = wd := by rw [List.length_take, List.length_drop]; omega
              have hsb : ∀ b ∈ (body.drop (j * ws.sum + p0.sum)).take wd, b < 256 := fun b hb' => hbt.2 b (List.mem_of_mem_drop (List.mem_of_mem_take hb'))
              have hnl := numOf_lt _ hsb
              rw [hslen] at hnl
              have hp4 := pow256_4 hw4
              refine ref01_Num (bs := (body.drop (j * ws.sum + p0.sum)).take wd) ?_ hsb (by omega) ?_
              · have e1 : ((j * ws.sum + p0.sum : Nat) : Int).toNat = j * ws.sum + p0.sum := by omega
                have e2 : (((j * ws.sum + p0.sum : Nat) : Int) + (wd : Int)).toNat = j * ws.sum + p0.sum + wd := by omega
                rw [e1, e2]
                simpa using hsub
              rw [conv_i i_T_uint64 i_T_int64, IntWalk.i64_in _ (by omega)]
              have hcl : ((decR ws body j).flatten ++ decF p0 (body.drop (j * ws.sum))).length = j * ws.length + p0.length := by rw [List.length_append, hdl, decF_length]
              refine push_i64 hO4 hcl (by omega) (by omega) fun u' w5 hO5 hE5 => ?_
              have E5 : Ex [] w2 w5 := hE4.step hE5 fun y hy => .inr (hO4.newb y hy).1
              refine (S2.ex0 E5).ix1 s_T_Lint (by omega) hget fun a ha => ?_
              rw [ld_one o_T_int ha, bin_add (by omega), bin_add (by omega)]
              refine hk4 p1.length _ _ _ _ (by simp) ⟨E5, p0 ++ [wd], p1, by rw [hpe]; simp, rfl, by simp, by congr 1; simp; omega, by simp; omega, ?_⟩
              rw [decF_append]
              simp only [decF]
              rw [List.drop_drop, ← List.append_assoc]
              exact hO5
        · have hp1 : p1 = [] := List.eq_nil_of_length_eq_zero (by omega)
          subst hp1
          rw [List.append_nil] at hpe
          subst hpe
          refine hk2 (body.length - (j + 1) * ws.sum) _ _ _ (by rw [Nat.succ_mul]; omega) ⟨hE4, j + 1, rfl, by rw [Nat.succ_mul]; omega, by rw [Nat.succ_mul], ?_⟩
          rw [decR_snoc, List.flatten_append]
          simpa using hO4
      · have hjl : j * ws.sum = body.length := by omega
        have hm0 : body.length % ws.sum = 0 := by rw [← hjl]; exact Nat.mul_mod_left _ _
        have hq : body.length / ws.sum = j := by rw [← hjl]; exact Nat.mul_div_cancel _ hpos
        refine hk (decR ws body j) ?_ (by rw [decR_length]; omega) u w3 (E2.trans hE3) (hO3.base (by omega))
        simp [openL, hop, recsOf, hm0, hq]
end
end Go.Dn
