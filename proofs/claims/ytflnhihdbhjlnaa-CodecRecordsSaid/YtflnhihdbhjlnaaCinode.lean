import Derived.Test.YtflnhihdbhjlnaaCread2
/-! The inode's pass; Write and Read of inodes, headers, slots, uses, records. -/
set_option maxRecDepth 10000
set_option linter.unusedVariables false
set_option linter.unusedSimpArgs false
namespace Go.Dn
open Go
def im (l : List Int) : List Value := l.map (Value.int .i64)
theorem rc_rep (n : Nat) (l : List Int) (h : l.length = n) : rc (List.replicate n .i64) l = im l := by
  subst h
  unfold rc im
  induction l with
  | nil => rfl
  | cons x l ih => simp only [List.length_cons, List.replicate_succ, List.zipWith_cons_cons, List.map_cons, ih]
theorem inR_split : ∀ (k1 k2 : List IntKind) (v1 v2 : List Int), v1.length = k1.length → inR (k1 ++ k2) (v1 ++ v2) → inR k1 v1 ∧ inR k2 v2
  | [], _, [], _, _, h => ⟨trivial, h⟩
  | k :: k1, k2, v :: v1, v2, hl, h => by
    obtain ⟨h1, h2⟩ := inR_split k1 k2 v1 v2 (by simpa using hl) h.2
    exact ⟨⟨h.1, h1⟩, h2⟩
  | [], _, _ :: _, _, hl, _ => by simp at hl
  | _ :: _, _, [], _, hl, _ => by simp at hl
theorem inR_rep : ∀ (n : Nat) (l : List Int), l.length = n → inR (List.replicate n .i64) l → ∀ x ∈ l, inR1 .i64 x
  | 0, [], _, _ => by simp
  | n + 1, v :: l, hl, h => by
    intro x hx
    rcases List.mem_cons.1 hx with rfl | hx
    · exact h.1
    · exact inR_rep n l (by simpa using hl) h.2 x hx
  | 0, _ :: _, hl, _ => by simp at hl
  | _ + 1, [], hl, _ => by simp at hl
theorem rc_append (k1 k2 : List IntKind) (v1 v2 : List Int) (h : v1.length = k1.length) : rc (k1 ++ k2) (v1 ++ v2) = rc k1 v1 ++ rc k2 v2 := by
  unfold rc
  rw [List.zipWith_append h.symm]
def P_inode (f a1 : Value) (w : World) (k : Value → World → Prop) : Prop :=
  passT f a1 T_codec_Inode LInode1 w fun w =>
  wJ0 (fun k1 =>
    wL1 (.int .i64 0) w (fun _ v45 w k2 =>
      wBin P .lss T_int v45 (.int .i64 8) w fun t46 w =>
      wIf t46 (
        wDraw w fun w =>
        wNil P a1 w fun t51 w =>
        wFieldA P T_codec_Inode t51 5 w fun t52 w =>
        wIndexA P T_A8int t52 v45 w fun t53 w =>
        wFunc P (.method (mname .i64)) [f] [] w fun t54 w =>
        wNil P t54 w fun _ w =>
        wInvoke P f (mname .i64) [(.int .i64 ((4 : Nat) : Int)), t53] w fun _ w =>
        wBin P .add T_int v45 (.int .i64 1) w fun t58 w =>
        k2 t58 w) (
        k1 w))) fun _ w =>
  passT f a1 T_codec_Inode LInode2 w fun w => k (.tuple #[]) w
theorem pass_Inode : PassC n_codec_passInode kInode wInode := by
  intro f F w s fp b t A C vs k H B hb hl hr hsz hk
  refine call_codec_passInode _ _ ?_
  show P_inode f (.pointer (some ⟨b, A.length, none⟩)) w k
  unfold P_inode
  have hkI : kInode = kindsOf LInode1 ++ (List.replicate 8 .i64 ++ kindsOf LInode2) := rfl
  have hwI : wInode = widsOf LInode1 ++ (List.replicate 8 4 ++ widsOf LInode2) := rfl
  have hl15 : vs.length = 15 := hl
  obtain ⟨v1, v2, v3, rfl, h1, h2, h3⟩ : ∃ v1 v2 v3, vs = v1 ++ (v2 ++ v3) ∧ v1.length = 5 ∧ v2.length = 8 ∧ v3.length = 2 := by
    refine ⟨vs.take 5, (vs.drop 5).take 8, (vs.drop 5).drop 8, ?_, by rw [List.length_take]; omega, by rw [List.length_take, List.length_drop]; omega, by rw [List.length_drop, List.length_drop]; omega⟩
    rw [List.take_append_drop, List.take_append_drop]
  rw [hkI] at B hr hk
  rw [hwI] at hk
  obtain ⟨hr1, hr23⟩ := inR_split _ _ _ _ h1 hr
  obtain ⟨hr2, hr3⟩ := inR_split _ _ _ _ (by simpa using h2) hr23
  rw [rc_append _ _ _ _ h1, rc_append _ _ _ _ (by simpa using h2), rc_rep 8 v2 h2] at B
  rw [runS_append _ _ _ _ _ _ (show (widsOf LInode1).length = v1.length from h1.symm), runS_append _ _ _ _ _ _ (show (List.replicate 8 4).length = v2.length from by rw [h2]; rfl),
    runV_append _ _ _ _ _ _ _ (show (widsOf LInode1).length = v1.length from h1.symm), runV_append _ _ _ _ _ _ _ (show (List.replicate 8 4).length = v2.length from by rw [h2]; rfl)] at hk
  refine passT_i F LInode1 0 A (im v2 ++ rc (kindsOf LInode2) v3 ++ C) v1 s fp w H (by simpa using B) hb rfl h1 hr1 ok_LInode1 (by have : (widsOf LInode1).sum = 15 := rfl; omega) fun w1 fp1 hE1 H1 hfp1 B1 => ?_
  generalize hs1 : runS F.stp s (widsOf LInode1) v1 = s1 at *
  generalize hx1 : runV F.stp F.val s (widsOf LInode1) v1 = x1 at *
  have hx1l : x1.length = 5 := by rw [← hx1, runV_length _ _ _ _ _ (show (widsOf LInode1).length = v1.length from h1.symm), h1]
  have hsz1 : F.sz s1 = F.sz s + 15 := by rw [← hs1, F_sz F _ _ _ (show (widsOf LInode1).length = v1.length from h1.symm)]; rfl
  have hbl : b < w.heap.size := B.lt
  have l1 := hE1.le
  have hfpE : ∀ {fpa : List Nat}, (∀ x ∈ fpa, x ∈ fp ∨ w.heap.size ≤ x) → b ∉ fpa := fun h hm => (h b hm).elim hb fun h => by omega
  have hstepE : ∀ {wa wb : World} {fpa : List Nat}, (∀ x ∈ fpa, x ∈ fp ∨ w.heap.size ≤ x) → Ex (b :: fp) w wa → Ex (b :: fpa) wa wb → Ex (b :: fp) w wb := fun h hE hE' => hE.step hE' fun x hx => by
    rcases List.mem_cons.1 hx with rfl | hx
    · exact .inl (by simp)
    · exact (h x hx).imp (by simp +contextual) id
  refine j0_of (fun w' => ∃ fp', Ex (b :: fp) w w' ∧ F.S w' (runS F.stp s1 (List.replicate 8 4) v2) fp' ∧ (∀ x ∈ fp', x ∈ fp ∨ w.heap.size ≤ x) ∧ Blk w' b t (A ++ rc (kindsOf LInode1) x1 ++ im (runV F.stp F.val s1 (List.replicate 8 4) v2) ++ (rc (kindsOf LInode2) v3 ++ C))) (fun k1 hk1 => ?_) ?_
  · refine loop_up 8 (fun i x w' => x = .int .i64 (i : Int) ∧ ∃ fp' m0 m1, v2 = m0 ++ m1 ∧ m0.length = i ∧ Ex (b :: fp) w w' ∧ F.S w' (runS F.stp s1 (List.replicate i 4) m0) fp' ∧ (∀ x ∈ fp', x ∈ fp ∨ w.heap.size ≤ x) ∧ Blk w' b t (A ++ rc (kindsOf LInode1) x1 ++ im (runV F.stp F.val s1 (List.replicate i 4) m0) ++ (im m1 ++ rc (kindsOf LInode2) v3 ++ C)))
      ⟨rfl, fp1, [], v2, rfl, rfl, hE1, H1, hfp1, by simpa [runV, im] using B1⟩ ?_
    rintro i J x w2 k2 hi ⟨rfl, fp2, m0, m1, hv2, hm0, hE2, H2, hfp2, B2⟩ hk2
    have l2 := hE2.le
    rw [bin_lss]
    refine wIf_d (fun hlt => ?_) (fun hge => ?_)
    · cases m1 with
      | nil => have := congrArg List.length hv2; simp at this; omega
      | cons n m1 =>
        have hrn : inR1 .i64 n := inR_rep 8 v2 h2 hr2 n (by rw [hv2]; simp)
        have hvl : (runV F.stp F.val s1 (List.replicate i 4) m0).length = i := by rw [runV_length _ _ _ _ _ (by simp [hm0]), hm0]
        have hszi : F.sz (runS F.stp s1 (List.replicate i 4) m0) = F.sz s + 15 + i * 4 := by rw [F_sz F _ _ _ (by simp [hm0]), hsz1]; simp
        refine draw_i fun w3 hE3 _ => ?_
        have l3 := hE3.le
        rw [nil_ptr, fA_T_codec_Inode_5, indexA_i a_T_A8int (by omega) (by omega)]
        refine F.asked hrn ?_
        have hA : (A ++ rc (kindsOf LInode1) x1 ++ im (runV F.stp F.val s1 (List.replicate i 4) m0)).length = A.length + 5 + (i : Int).toNat * 1 := by
          simp only [List.length_append, im, List.length_map, hvl]
          rw [rc_length (show x1.length = (kindsOf LInode1).length from hx1l)]
          simp [kindsOf, LInode1]
        have e : A ++ rc (kindsOf LInode1) x1 ++ im (runV F.stp F.val s1 (List.replicate i 4) m0) ++ (im (n :: m1) ++ rc (kindsOf LInode2) v3 ++ C) = (A ++ rc (kindsOf LInode1) x1 ++ im (runV F.stp F.val s1 (List.replicate i 4) m0)) ++ .int .i64 n :: (im m1 ++ rc (kindsOf LInode2) v3 ++ C) := by simp [im]
        rw [e] at B2
        refine F.go (F.ex H2 hE3 (by simp)) (B2.ex hE3 (by simp)) (hfpE hfp2) (get_mid hA) hrn (by unfold widOk; decide) (by omega) fun w4 fp4 hE4 H4 hfp4 B4 => ?_
        have hfp4' : ∀ x ∈ fp4, x ∈ fp ∨ w.heap.size ≤ x := fun x hx => (hfp4 x hx).elim (hfp2 x) fun h => .inr (by omega)
        rw [set_mid hA] at B4
        rw [bin_add (by omega)]
        refine hk2 _ _ (by omega) ⟨by simp, fp4, m0 ++ [n], m1, by simp [hv2], by simp [hm0], hstepE hfp2 (hE2.trans hE3.nil) hE4, ?_, hfp4', ?_⟩
        · rw [List.replicate_succ', runS_append _ _ _ _ _ _ (by simp [hm0])]
          exact H4
        · rw [List.replicate_succ', runV_append _ _ _ _ _ _ _ (by simp [hm0])]
          have : im (runV F.stp F.val s1 (List.replicate i 4) m0 ++ runV F.stp F.val (runS F.stp s1 (List.replicate i 4) m0) [4] [n]) = im (runV F.stp F.val s1 (List.replicate i 4) m0) ++ [.int .i64 (F.val (runS F.stp s1 (List.replicate i 4) m0) 4 n)] := by simp [im, runV]
          rw [this]
          simpa using B4
    · obtain rfl : i = 8 := by omega
      have hm1 : m1 = [] := List.eq_nil_of_length_eq_zero (by have := congrArg List.length hv2; simp at this; omega)
      subst hm1
      rw [List.append_nil] at hv2
      subst hv2
      exact hk1 w2 ⟨fp2, hE2, H2, hfp2, by simpa [im] using B2⟩
  rintro J w2 ⟨fp2, hE2, H2, hfp2, B2⟩
  have l2 := hE2.le
  generalize hs2 : runS F.stp s1 (List.replicate 8 4) v2 = s2 at *
  generalize hx2 : runV F.stp F.val s1 (List.replicate 8 4) v2 = x2 at *
  have hx2l : x2.length = 8 := by rw [← hx2, runV_length _ _ _ _ _ (by rw [h2]; rfl), h2]
  have hsz2 : F.sz s2 = F.sz s + 15 + 32 := by rw [← hs2, F_sz F _ _ _ (by rw [h2]; rfl), hsz1]; rfl
  refine passT_i F LInode2 13 (A ++ rc (kindsOf LInode1) x1 ++ im x2) C v3 s2 fp2 w2 H2 (by simpa using B2) (hfpE hfp2) ?_ h3 hr3 ok_LInode2 (by have : (widsOf LInode2).sum = 8 := rfl; omega) fun w3 fp3 hE3 H3 hfp3 B3 => ?_
  · simp only [List.length_append, im, List.length_map, hx2l]
    rw [rc_length (show x1.length = (kindsOf LInode1).length from hx1l)]
    simp [kindsOf, LInode1]
  · refine hk w3 fp3 (hstepE hfp2 hE2 hE3) H3 (fun x hx => (hfp3 x hx).elim (hfp2 x) fun h => .inr (by omega)) ?_
    rw [rc_append _ _ _ _ hx1l, rc_append _ _ _ _ (by simpa using hx2l), rc_rep 8 x2 hx2l]
    simpa using B3
end Go.Dn
