import Derived.Test.YtflnhihdbhjlnaaCform2
/-! Passes over records, over any form. -/
set_option maxRecDepth 10000
set_option linter.unusedVariables false
set_option linter.unusedSimpArgs false
namespace Go.Dn
open Go
/-- A record's cells. -/
def rc (ks : List IntKind) (vs : List Int) : List Value := List.zipWith Value.int ks vs
def rcs (ks : List IntKind) (rs : List (List Int)) : List Value := rs.flatMap (rc ks)
theorem rc_length {ks : List IntKind} {vs : List Int} (h : vs.length = ks.length) : (rc ks vs).length = ks.length := by simp [rc, h]
theorem rc_isC (ks : List IntKind) (vs : List Int) : ∀ v ∈ rc ks vs, isC v = true := by
  induction ks generalizing vs with
  | nil => intro v hv; simp [rc] at hv
  | cons k ks ih =>
    cases vs with
    | nil => intro v hv; simp [rc] at hv
    | cons x vs =>
      intro v hv
      simp only [rc, List.zipWith_cons_cons, List.mem_cons] at hv
      rcases hv with rfl | hv
      · rfl
      · exact ih vs v hv
theorem rcs_append (ks : List IntKind) (a b : List (List Int)) : rcs ks (a ++ b) = rcs ks a ++ rcs ks b := by simp [rcs]
theorem rcs_cons (ks : List IntKind) (a : List Int) (b : List (List Int)) : rcs ks (a :: b) = rc ks a ++ rcs ks b := by simp [rcs]
theorem rcs_one (ks : List IntKind) (a : List Int) : rcs ks [a] = rc ks a := by simp [rcs]
def lenR (ks : List IntKind) (rs : List (List Int)) : Prop := ∀ r ∈ rs, r.length = ks.length
theorem rcs_length {ks : List IntKind} {rs : List (List Int)} (h : lenR ks rs) : (rcs ks rs).length = rs.length * ks.length := by
  induction rs with
  | nil => simp [rcs]
  | cons r rs ih =>
    rw [rcs_cons, List.length_append, rc_length (h r (List.mem_cons_self ..)), ih fun x hx => h x (List.mem_cons_of_mem _ hx), List.length_cons, Nat.add_mul, Nat.one_mul]
    omega
theorem rcs_isC (ks : List IntKind) (rs : List (List Int)) : ∀ v ∈ rcs ks rs, isC v = true := by
  intro v hv
  obtain ⟨r, _, h⟩ := List.mem_flatMap.1 hv
  exact rc_isC ks r v h
def inR1 (k : IntKind) (n : Int) : Prop :=
  match k with
  | .u64 => 0 ≤ n ∧ n < 18446744073709551616
  | .i64 => -9223372036854775808 ≤ n ∧ n ≤ 9223372036854775807
  | .u32 => 0 ≤ n ∧ n < 4294967296
  | _ => False
def inR : List IntKind → List Int → Prop
  | k :: ks, n :: ns => inR1 k n ∧ inR ks ns
  | _, _ => True
def mname (k : IntKind) : String :=
  match k with
  | .u64 => "drumlin/codec.wide"
  | .i64 => "drumlin/codec.int"
  | _ => "drumlin/codec.word"
def widOk (k : IntKind) (wd : Nat) : Prop :=
  match k with
  | .u64 => 1 ≤ wd ∧ wd ≤ 8
  | _ => 1 ≤ wd ∧ wd ≤ 4
/-- The text of a pass over fields of one cell. -/
def passT (f a1 : Value) (ty : TypeId) : List (IntKind × Nat × Nat) → World → (World → Prop) → Prop
  | [], w, K => K w
  | (kd, wd, i) :: l, w, K => wDraw w fun w => wNil P a1 w fun t w => wFieldA P ty t i w fun t7 w => wFunc P (.method (mname kd)) [f] [] w fun t8 w => wNil P t8 w fun _ w => wInvoke P f (mname kd) [.int .i64 ((wd : Nat) : Int), t7] w fun _ w => passT f a1 ty l w K
def fldOk (ty : TypeId) : Nat → List (IntKind × Nat × Nat) → Prop
  | _, [] => True
  | j, (kd, wd, i) :: l => fldT P ty i = some j ∧ widOk kd wd ∧ fldOk ty (j + 1) l
def kindsOf (l : List (IntKind × Nat × Nat)) : List IntKind := l.map (·.1)
def widsOf (l : List (IntKind × Nat × Nat)) : List Nat := l.map (·.2.1)
theorem getM {X Y : List Value} {x : Value} {i : Nat} (h : X.length = i) : (X ++ x :: Y)[i]? = some x := get_mid h
theorem F_sz {f : Value} (F : Form f) : ∀ (ws : List Nat) (ns : List Int) (s : F.σ), ws.length = ns.length → F.sz (runS F.stp s ws ns) = F.sz s + ws.sum
  | [], [], s, _ => by simp [runS]
  | wd :: ws, n :: ns, s, h => by
    simp only [runS, List.sum_cons]
    rw [F_sz F ws ns _ (by simpa using h), F.sz_stp]
    omega
  | [], _ :: _, _, h => by simp at h
  | _ :: _, [], _, h => by simp at h
section
variable {w : World} {f : Value}
/-- One number goes through a form. -/
theorem Form.go (F : Form f) {s : F.σ} {fp : List Nat} {b o : Nat} {t : TypeId} {cs : List Value} {kd : IntKind} {wd : Nat} {n : Int} {K : World → Prop} (H : F.S w s fp) (B : Blk w b t cs) (hb : b ∉ fp) (hn : cs[o]? = some (.int kd n)) (hr : inR1 kd n) (hw : widOk kd wd) (hsz : F.sz s ≤ 1000000)
    (hk : ∀ w' fp', Ex (b :: fp) w w' → F.S w' (F.stp s wd n) fp' → (∀ x ∈ fp', x ∈ fp ∨ w.heap.size ≤ x) → Blk w' b t (cs.set o (.int kd (F.val s wd n))) → K w') :
    wInvoke P f (mname kd) [.int .i64 ((wd : Nat) : Int), .pointer (some ⟨b, o, none⟩)] w fun _ w => K w := by
  cases kd <;> first | exact hr.elim | skip
  · exact F.int H B hb hn hr.1 hr.2 hw.1 hw.2 hsz hk
  · exact F.word H B hb hn hr.1 hr.2 hw.1 hw.2 hsz hk
  · exact F.wide H B hb hn hr.1 hr.2 hw.1 hw.2 hsz hk
theorem Form.asked (F : Form f) {kd : IntKind} {n : Int} (hr : inR1 kd n) {K : Value → World → Prop} (hk : K (.func (.method (mname kd)) ⟨[f]⟩ ⟨[]⟩) w) : wFunc P (.method (mname kd)) [f] [] w fun t8 w => wNil P t8 w K := by
  rw [func_meth]
  refine F.ask (mname kd) ?_ w K hk
  cases kd <;> first | exact hr.elim | simp [mname]
theorem passT_i (F : Form f) {b o : Nat} {t ty : TypeId} {K : World → Prop} : ∀ (l : List (IntKind × Nat × Nat)) (j : Nat) (A C : List Value) (vs : List Int) (s : F.σ) (fp : List Nat) (w : World),
    F.S w s fp → Blk w b t (A ++ rc (kindsOf l) vs ++ C) → b ∉ fp → A.length = o + j → vs.length = l.length → inR (kindsOf l) vs → fldOk ty j l → F.sz s + (widsOf l).sum ≤ 1000000 →
    (∀ w' fp', Ex (b :: fp) w w' → F.S w' (runS F.stp s (widsOf l) vs) fp' → (∀ x ∈ fp', x ∈ fp ∨ w.heap.size ≤ x) → Blk w' b t (A ++ rc (kindsOf l) (runV F.stp F.val s (widsOf l) vs) ++ C) → K w') → passT f (.pointer (some ⟨b, o, none⟩)) ty l w K
  | [], j, A, C, vs, s, fp, w, H, B, hb, hA, hl, hr, hf, hsz, hk => hk w fp (Ex.refl _ _) H (fun x hx => .inl hx) B
  | (kd, wd, i) :: l, j, A, C, [], s, fp, w, H, B, hb, hA, hl, hr, hf, hsz, hk => by simp at hl
  | (kd, wd, i) :: l, j, A, C, n :: vs, s, fp, w, H, B, hb, hA, hl, hr, hf, hsz, hk => by
    have hsz' : F.sz s + (wd + (widsOf l).sum) ≤ 1000000 := by simpa [widsOf] using hsz
    show wDraw w fun w => wNil P (.pointer (some ⟨b, o, none⟩)) w fun t w => wFieldA P ty t i w fun t7 w => wFunc P (.method (mname kd)) [f] [] w fun t8 w => wNil P t8 w fun _ w => wInvoke P f (mname kd) [.int .i64 ((wd : Nat) : Int), t7] w fun _ w => passT f (.pointer (some ⟨b, o, none⟩)) ty l w K
    refine draw_i fun w1 hE1 _ => ?_
    have H1 := F.ex H hE1 (by simp)
    have B1 := B.ex hE1 (by simp)
    rw [nil_ptr, fieldA_i hf.1]
    refine F.asked hr.1 ?_
    have hcs : A ++ rc (kindsOf ((kd, wd, i) :: l)) (n :: vs) ++ C = A ++ .int kd n :: (rc (kindsOf l) vs ++ C) := by simp [rc, kindsOf]
    rw [hcs] at B1
    refine F.go H1 B1 hb (get_mid hA) hr.1 hf.2.1 (by omega) fun w2 fp2 hE2 H2 hfp2 B2 => ?_
    rw [set_mid hA] at B2
    have hlt := B1.lt
    have hb2 : b ∉ fp2 := fun hm => (hfp2 b hm).elim hb fun h => by omega
    have l1 := hE1.le
    have l2 := hE2.le
    refine passT_i F l (j + 1) (A ++ [.int kd (F.val s wd n)]) C vs (F.stp s wd n) fp2 w2 H2 (by simpa using B2) hb2 (by simp; omega) (by simpa using hl) hr.2 hf.2.2 (by rw [F.sz_stp]; omega) fun w3 fp3 hE3 H3 hfp3 B3 => ?_
    refine hk w3 fp3 ((hE1.nil.trans hE2).step hE3 ?_) H3 ?_ ?_
    · intro x hx
      rcases List.mem_cons.1 hx with rfl | hx
      · exact .inl (by simp)
      · rcases hfp2 x hx with h | h
        · exact .inl (by simp [h])
        · exact .inr (by omega)
    · intro x hx
      rcases hfp3 x hx with h | h
      · rcases hfp2 x h with h | h
        · exact .inl h
        · exact .inr (by omega)
      · exact .inr (by omega)
    · have : A ++ [.int kd (F.val s wd n)] ++ rc (kindsOf l) (runV F.stp F.val (F.stp s wd n) (widsOf l) vs) ++ C = A ++ rc (kindsOf ((kd, wd, i) :: l)) (runV F.stp F.val s (widsOf ((kd, wd, i) :: l)) (n :: vs)) ++ C := by
        simp [rc, kindsOf, widsOf, runV]
      rw [this] at B3
      exact B3
end
def LUse : List (IntKind × Nat × Nat) := [(.i64, 2, 0), (.i64, 1, 1), (.u32, 4, 2)]
def LSlot : List (IntKind × Nat × Nat) := [(.i64, 4, 0), (.u32, 4, 1), (.i64, 2, 2), (.i64, 1, 3)]
def LRecord : List (IntKind × Nat × Nat) := [(.u32, 2, 0), (.u32, 4, 1), (.i64, 2, 2), (.i64, 1, 3)]
def LEntry : List (IntKind × Nat × Nat) := [(.i64, 1, 0), (.u32, 2, 1), (.u32, 4, 2), (.i64, 2, 3)]
def LHeader : List (IntKind × Nat × Nat) := [(.u64, 8, 0), (.u64, 8, 1), (.i64, 2, 2), (.i64, 2, 3), (.i64, 2, 4), (.u32, 4, 5)]
theorem ok_LUse : fldOk T_codec_Use 0 LUse := by unfold LUse fldOk; repeat' first | exact trivial | (refine ⟨by kernel_rfl, by (unfold widOk; decide), ?_⟩; unfold fldOk)
theorem ok_LSlot : fldOk T_codec_Slot 0 LSlot := by unfold LSlot fldOk; repeat' first | exact trivial | (refine ⟨by kernel_rfl, by (unfold widOk; decide), ?_⟩; unfold fldOk)
theorem ok_LRecord : fldOk T_codec_Record 0 LRecord := by unfold LRecord fldOk; repeat' first | exact trivial | (refine ⟨by kernel_rfl, by (unfold widOk; decide), ?_⟩; unfold fldOk)
theorem ok_LEntry : fldOk T_codec_Entry 0 LEntry := by unfold LEntry fldOk; repeat' first | exact trivial | (refine ⟨by kernel_rfl, by (unfold widOk; decide), ?_⟩; unfold fldOk)
theorem ok_LHeader : fldOk T_codec_Header 0 LHeader := by unfold LHeader fldOk; repeat' first | exact trivial | (refine ⟨by kernel_rfl, by (unfold widOk; decide), ?_⟩; unfold fldOk)
/-- What is asked of a pass. -/
def PassC (n : FuncId) (ks : List IntKind) (ws : List Nat) : Prop :=
  ∀ {f : Value} (F : Form f) {w : World} {s : F.σ} {fp : List Nat} {b : Nat} {t : TypeId} {A C : List Value} {vs : List Int} {k : Value → World → Prop}, F.S w s fp → Blk w b t (A ++ rc ks vs ++ C) → b ∉ fp → vs.length = ks.length → inR ks vs → F.sz s ≤ 900000 →
    (∀ w' fp', Ex (b :: fp) w w' → F.S w' (runS F.stp s ws vs) fp' → (∀ x ∈ fp', x ∈ fp ∨ w.heap.size ≤ x) → Blk w' b t (A ++ rc ks (runV F.stp F.val s ws vs) ++ C) → k (.tuple #[]) w') → wCall P n [f, .pointer (some ⟨b, A.length, none⟩)] w k
theorem pass_Use : PassC n_codec_passUse (kindsOf LUse) (widsOf LUse) := by
  intro f F w s fp b t A C vs k H B hb hl hr hsz hk
  refine call_codec_passUse _ _ ?_
  exact passT_i F LUse 0 A C vs s fp w H B hb rfl hl hr ok_LUse (by have : (widsOf LUse).sum = 7 := rfl; omega) hk
theorem pass_Slot : PassC n_codec_passSlot (kindsOf LSlot) (widsOf LSlot) := by
  intro f F w s fp b t A C vs k H B hb hl hr hsz hk
  refine call_codec_passSlot _ _ ?_
  exact passT_i F LSlot 0 A C vs s fp w H B hb rfl hl hr ok_LSlot (by have : (widsOf LSlot).sum = 11 := rfl; omega) hk
theorem pass_Record : PassC n_codec_passRecord (kindsOf LRecord) (widsOf LRecord) := by
  intro f F w s fp b t A C vs k H B hb hl hr hsz hk
  refine call_codec_passRecord _ _ ?_
  exact passT_i F LRecord 0 A C vs s fp w H B hb rfl hl hr ok_LRecord (by have : (widsOf LRecord).sum = 9 := rfl; omega) hk
theorem pass_Entry : PassC n_codec_passEntry (kindsOf LEntry) (widsOf LEntry) := by
  intro f F w s fp b t A C vs k H B hb hl hr hsz hk
  refine call_codec_passEntry _ _ ?_
  exact passT_i F LEntry 0 A C vs s fp w H B hb rfl hl hr ok_LEntry (by have : (widsOf LEntry).sum = 9 := rfl; omega) hk
theorem pass_Header : PassC n_codec_passHeader (kindsOf LHeader) (widsOf LHeader) := by
  intro f F w s fp b t A C vs k H B hb hl hr hsz hk
  refine call_codec_passHeader _ _ ?_
  exact passT_i F LHeader 0 A C vs s fp w H B hb rfl hl hr ok_LHeader (by have : (widsOf LHeader).sum = 26 := rfl; omega) hk
end Go.Dn
