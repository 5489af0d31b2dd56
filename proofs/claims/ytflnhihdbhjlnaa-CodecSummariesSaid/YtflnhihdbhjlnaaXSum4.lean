import Derived.Test.YtflnhihdbhjlnaaXSum3
import Derived.Test.YtflnhihdbhjlnaaXSum2
import Derived.Test.YtflnhihdbhjlnaaXSum1
section
/-! Passes over records, over any form. -/
set_option maxRecDepth 10000
set_option linter.unusedVariables false
set_option linter.unusedSimpArgs false
namespace Go.Dn
open Go
/-- A record's cells. -/
def rc (ks : List IntKind) (vs : List Int) : List Value := List.zipWith Value.int ks vs
def rcs (ks : List IntKind) (rs : List (List Int)) : List Value := rs.flatMap (rc ks)
theorem rc_length {ks : List IntKind} {vs : List Int} (h : vs.length = ks.length) : (rc ks vs).length = ks.length := by simp [rc, h]
theorem rc_isC (ks : List IntKind) (vs : List Int) : ∀ v ∈ rc ks vs, isC v = true := by
  induction ks generalizing vs with
  | nil => intro v hv; simp [rc] at hv
  | cons k ks ih =>
    cases vs with
    | nil => intro v hv; simp [rc] at hv
    | cons x vs =>
      intro v hv
      simp only [rc, List.zipWith_cons_cons, List.mem_cons] at hv
      rcases hv with rfl | hv
      · rfl
      · exact ih vs v hv
theorem rcs_append (ks : List IntKind) (a b : List (List Int)) : rcs ks (a ++ b) = rcs ks a ++ rcs ks b := by simp [rcs]
theorem rcs_cons (ks : List IntKind) (a : List Int) (b : List (List Int)) : rcs ks (a :: b) = rc ks a ++ rcs ks b := by simp [rcs]
theorem rcs_one (ks : List IntKind) (a : List Int) : rcs ks [a] = rc ks a := by simp [rcs]
def lenR (ks : List IntKind) (rs : List (List Int)) : Prop := ∀ r ∈ rs, r.length = ks.length
theorem rcs_length {ks : List IntKind} {rs : List (List Int)} (h : lenR ks rs) : (rcs ks rs).length = rs.length * ks.length := by
  induction rs with
  | nil => simp [rcs]
  | cons r rs ih =>
    rw [rcs_cons, List.length_append, rc_length (h r (List.mem_cons_self ..)), ih fun x hx => h x (List.mem_cons_of_mem _ hx), List.length_cons, Nat.add_mul, Nat.one_mul]
    omega
theorem rcs_isC (ks : List IntKind) (rs : List (List Int)) : ∀ v ∈ rcs ks rs, isC v = true := by
  intro v hv
  obtain ⟨r, _, h⟩ := List.mem_flatMap.1 hv
  exact rc_isC ks r v h
def inR1 (k : IntKind) (n : Int) : Prop :=
  match k with
  | .u64 => 0 ≤ n ∧ n < 18446744073709551616
  | .i64 => -9223372036854775808 ≤ n ∧ n ≤ 9223372036854775807
  | .u32 => 0 ≤ n ∧ n < 4294967296
  | _ => False
def inR : List IntKind → List Int → Prop
  | k :: ks, n :: ns => inR1 k n ∧ inR ks ns
  | _, _ => True
def mname (k : IntKind) : String :=
  match k with
  | .u64 => "drumlin/codec.wide"
  | .i64 => "drumlin/codec.int"
  | _ => "drumlin/codec.word"
def widOk (k : IntKind) (wd : Nat) : Prop :=
  match k with
  | .u64 => 1 ≤ wd ∧ wd ≤ 8
  | _ => 1 ≤ wd ∧ wd ≤ 4
/-- The text of a pass over fields of one cell. -/
def passT (f a1 : Value) (ty : TypeId) : List (IntKind × Nat × Nat) → World → (World → Prop) → Prop
  | [], w, K => K w
  | (kd, wd, i) :: l, w, K => wDraw w fun w => wNil P a1 w fun t w => wFieldA P ty t i w fun t7 w => wFunc P (.method (mname kd)) [f] [] w fun t8 w => wNil P t8 w fun _ w => wInvoke P f (mname kd) [.int .i64 ((wd : Nat) : Int), t7] w fun _ w => passT f a1 ty l w K
def fldOk (ty : TypeId) : Nat → List (IntKind × Nat × Nat) → Prop
  | _, [] => True
  | j, (kd, wd, i) :: l => fldT P ty i = some j ∧ widOk kd wd ∧ fldOk ty (j + 1) l
def kindsOf (l : List (IntKind × Nat × Nat)) : List IntKind := l.map (·.1)
def widsOf (l : List (IntKind × Nat × Nat)) : List Nat := l.map (·.2.1)
theorem getM {X Y : List Value} {x : Value} {i : Nat} (h : X.length = i) : (X ++ x :: Y)[i]? = some x := get_mid h
theorem F_sz {f : Value} (F : Form f) : ∀ (ws : List Nat) (ns : List Int) (s : F.σ), ws.length = ns.length → F.sz (runS F.stp s ws ns) = F.sz s + ws.sum
  | [], [], s, _ => by simp [runS]
  | wd :: ws, n :: ns, s, h => by
    simp only [runS, List.sum_cons]
    rw [F_sz F ws ns _ (by simpa using h), F.sz_stp]
    omega
  | [], _ :: _, _, h => by simp at h
  | _ :: _, [], _, h => by simp at h
section
variable {w : World} {f : Value}
/-- One number goes through a form. -/
theorem Form.go (F : Form f) {s : F.σ} {fp : List Nat} {b o : Nat} {t : TypeId} {cs : List Value} {kd : IntKind} {wd : Nat} {n : Int} {K : World → Prop} (H : F.S w s fp) (B : Blk w b t cs) (hb : b ∉ fp) (hn : cs[o]? = some (.int kd n)) (hr : inR1 kd n) (hw : widOk kd wd) (hsz : F.sz s ≤ 1000000)
    (hk : ∀ w' fp', Ex (b :: fp) w w' → F.S w' (F.stp s wd n) fp' → (∀ x ∈ fp', x ∈ fp ∨ w.heap.size ≤ x) → Blk w' b t (cs.set o (.int kd (F.val s wd n))) → K w') :
    wInvoke P f (mname kd) [.int .i64 ((wd : Nat) : Int), .pointer (some ⟨b, o, none⟩)] w fun _ w => K w := by
  cases kd <;> first | exact hr.elim | skip
  · exact F.int H B hb hn hr.1 hr.2 hw.1 hw.2 hsz hk
  · exact F.word H B hb hn hr.1 hr.2 hw.1 hw.2 hsz hk
  · exact F.wide H B hb hn hr.1 hr.2 hw.1 hw.2 hsz hk
theorem Form.asked (F : Form f) {kd : IntKind} {n : Int} (hr : inR1 kd n) {K : Value → World → Prop} (hk : K (.func (.method (mname kd)) ⟨[f]⟩ ⟨[]⟩) w) : wFunc P (.method (mname kd)) [f] [] w fun t8 w => wNil P t8 w K := by
  rw [func_meth]
  refine F.ask (mname kd) ?_ w K hk
  cases kd <;> first | exact hr.elim | simp [mname]
theorem passT_i (F : Form f) {b o : Nat} {t ty : TypeId} {K : World → Prop} : ∀ (l : List (IntKind × Nat × Nat)) (j : Nat) (A C : List Value) (vs : List Int) (s : F.σ) (fp : List Nat) (w : World),
    F.S w s fp → Blk w b t (A ++ rc (kindsOf l) vs ++ C) → b ∉ fp → A.length = o + j → vs.length = l.length → inR (kindsOf l) vs → fldOk ty j l → F.sz s + (widsOf l).sum ≤ 1000000 →
    (∀ w' fp', Ex (b :: fp) w w' → F.S w' (runS F.stp s (widsOf l) vs) fp' → (∀ x ∈ fp', x ∈ fp ∨ w.heap.size ≤ x) → Blk w' b t (A ++ rc (kindsOf l) (runV F.stp F.val s (widsOf l) vs) ++ C) → K w') → passT f (.pointer (some ⟨b, o, none⟩)) ty l w K
  | [], j, A, C, vs, s, fp, w, H, B, hb, hA, hl, hr, hf, hsz, hk => hk w fp (Ex.refl _ _) H (fun x hx => .inl hx) B
  | (kd, wd, i) :: l, j, A, C, [], s, fp, w, H, B, hb, hA, hl, hr, hf, hsz, hk => by simp at hl
  | (kd, wd, i) :: l, j, A, C, n :: vs, s, fp, w, H, B, hb, hA, hl, hr, hf, hsz, hk => by
    have hsz' : F.sz s + (wd + (widsOf l).sum) ≤ 1000000 := by simpa [widsOf] using hsz
    show wDraw w fun w => wNil P (.pointer (some ⟨b, o, none⟩)) w fun t w => wFieldA P ty t i w fun t7 w => wFunc P (.method (mname kd)) [f] [] w fun t8 w => wNil P t8 w fun _ w => wInvoke P f (mname kd) [.int .i64 ((wd : Nat) : Int), t7] w fun _ w => passT f (.pointer (some ⟨b, o, none⟩)) ty l w K
    refine draw_i fun w1 hE1 _ => ?_
    have H1 := F.ex H hE1 (by simp)
    have B1 := B.ex hE1 (by simp)
    rw [nil_ptr, fieldA_i hf.1]
    refine F.asked hr.1 ?_
    have hcs : A ++ rc (kindsOf ((kd, wd, i) :: l)) (n :: vs) ++ C = A ++ .int kd n :: (rc (kindsOf l) vs ++ C) := by simp [rc, kindsOf]
    rw [hcs] at B1
    refine F.go H1 B1 hb (get_mid hA) hr.1 hf.2.1 (by omega) fun w2 fp2 hE2 H2 hfp2 B2 => ?_
    rw [set_mid hA] at B2
    have hlt := B1.lt
    have hb2 : b ∉ fp2 := fun hm => (hfp2 b hm).elim hb fun h => by omega
    have l1 := hE1.le
    have l2 := hE2.le
    refine passT_i F l (j + 1) (A ++ [.int kd (F.val s wd n)]) C vs (F.stp s wd n) fp2 w2 H2 (by simpa using B2) hb2 (by simp; omega) (by simpa using hl) hr.2 hf.2.2 (by rw [F.sz_stp]; omega) fun w3 fp3 hE3 H3 hfp3 B3 => ?_
    refine hk w3 fp3 ((hE1.nil.trans hE2).step hE3 ?_) H3 ?_ ?_
    · intro x hx
      rcases List.mem_cons.1 hx with rfl | hx
      · exact .inl (by simp)
      · rcases hfp2 x hx with h | h
        · exact .inl (by simp [h])
        · exact .inr (by omega)
    · intro x hx
      rcases hfp3 x hx with h | h
      · rcases hfp2 x h with h | h
        · exact .inl h
        · exact .inr (by omega)
      · exact .inr (by omega)
    · have : A ++ [.int kd (F.val s wd n)] ++ rc (kindsOf l) (runV F.stp F.val (F.stp s wd n) (widsOf l) vs) ++ C = A ++ rc (kindsOf ((kd, wd, i) :: l)) (runV F.stp F.val s (widsOf ((kd, wd, i) :: l)) (n :: vs)) ++ C := by
        simp [rc, kindsOf, widsOf, runV]
      rw [this] at B3
      exact B3
end
def LUse : List (IntKind × Nat × Nat) := [(.i64, 2, 0), (.i64, 1, 1), (.u32, 4, 2)]
def LSlot : List (IntKind × Nat × Nat) := [(.i64, 4, 0), (.u32, 4, 1), (.i64, 2, 2), (.i64, 1, 3)]
def LRecord : List (IntKind × Nat × Nat) := [(.u32, 2, 0), (.u32, 4, 1), (.i64, 2, 2), (.i64, 1, 3)]
def LEntry : List (IntKind × Nat × Nat) := [(.i64, 1, 0), (.u32, 2, 1), (.u32, 4, 2), (.i64, 2, 3)]
def LHeader : List (IntKind × Nat × Nat) := [(.u64, 8, 0), (.u64, 8, 1), (.i64, 2, 2), (.i64, 2, 3), (.i64, 2, 4), (.u32, 4, 5)]
theorem ok_LUse : fldOk T_codec_Use 0 LUse := by unfold LUse fldOk; repeat' first | exact trivial | (refine ⟨by kernel_rfl, by (unfold widOk; decide), ?_⟩; unfold fldOk)
theorem ok_LSlot : fldOk T_codec_Slot 0 LSlot := by unfold LSlot fldOk; repeat' first | exact trivial | (refine ⟨by kernel_rfl, by (unfold widOk; decide), ?_⟩; unfold fldOk)
theorem ok_LRecord : fldOk T_codec_Record 0 LRecord := by unfold LRecord fldOk; repeat' first | exact trivial | (refine ⟨by kernel_rfl, by (unfold widOk; decide), ?_⟩; unfold fldOk)
theorem ok_LEntry : fldOk T_codec_Entry 0 LEntry := by unfold LEntry fldOk; repeat' first | exact trivial | (refine ⟨by kernel_rfl, by (unfold widOk; decide), ?_⟩; unfold fldOk)
theorem ok_LHeader : fldOk T_codec_Header 0 LHeader := by unfold LHeader fldOk; repeat' first | exact trivial | (refine ⟨by kernel_rfl, by (unfold widOk; decide), ?_⟩; unfold fldOk)
/-- What is asked of a pass. -/
def PassC (n : FuncId) (ks : List IntKind) (ws : List Nat) : Prop :=
  ∀ {f : Value} (F : Form f) {w : World} {s : F.σ} {fp : List Nat} {b : Nat} {t : TypeId} {A C : List Value} {vs : List Int} {k : Value → World → Prop}, F.S w s fp → Blk w b t (A ++ rc ks vs ++ C) → b ∉ fp → vs.length = ks.length → inR ks vs → F.sz s ≤ 900000 →
    (∀ w' fp', Ex (b :: fp) w w' → F.S w' (runS F.stp s ws vs) fp' → (∀ x ∈ fp', x ∈ fp ∨ w.heap.size ≤ x) → Blk w' b t (A ++ rc ks (runV F.stp F.val s ws vs) ++ C) → k (.tuple #[]) w') → wCall P n [f, .pointer (some ⟨b, A.length, none⟩)] w k
theorem pass_Use : PassC n_codec_passUse (kindsOf LUse) (widsOf LUse) := by
  intro f F w s fp b t A C vs k H B hb hl hr hsz hk
  refine call_codec_passUse _ _ ?_
  exact passT_i F LUse 0 A C vs s fp w H B hb rfl hl hr ok_LUse (by have : (widsOf LUse).sum = 7 := rfl; omega) hk
theorem pass_Slot : PassC n_codec_passSlot (kindsOf LSlot) (widsOf LSlot) := by
  intro f F w s fp b t A C vs k H B hb hl hr hsz hk
  refine call_codec_passSlot _ _ ?_
  exact passT_i F LSlot 0 A C vs s fp w H B hb rfl hl hr ok_LSlot (by have : (widsOf LSlot).sum = 11 := rfl; omega) hk
theorem pass_Record : PassC n_codec_passRecord (kindsOf LRecord) (widsOf LRecord) := by
  intro f F w s fp b t A C vs k H B hb hl hr hsz hk
  refine call_codec_passRecord _ _ ?_
  exact passT_i F LRecord 0 A C vs s fp w H B hb rfl hl hr ok_LRecord (by have : (widsOf LRecord).sum = 9 := rfl; omega) hk
theorem pass_Entry : PassC n_codec_passEntry (kindsOf LEntry) (widsOf LEntry) := by
  intro f F w s fp b t A C vs k H B hb hl hr hsz hk
  refine call_codec_passEntry _ _ ?_
  exact passT_i F LEntry 0 A C vs s fp w H B hb rfl hl hr ok_LEntry (by have : (widsOf LEntry).sum = 9 := rfl; omega) hk
theorem pass_Header : PassC n_codec_passHeader (kindsOf LHeader) (widsOf LHeader) := by
  intro f F w s fp b t A C vs k H B hb hl hr hsz hk
  refine call_codec_passHeader _ _ ?_
  exact passT_i F LHeader 0 A C vs s fp w H B hb rfl hl hr ok_LHeader (by have : (widsOf LHeader).sum = 26 := rfl; omega) hk
end Go.Dn
end
section
/-! Passes over lists of records; what may be. -/
set_option maxRecDepth 10000
set_option linter.unusedVariables false
set_option linter.unusedSimpArgs false
namespace Go.Dn
open Go
def zs (ks : List IntKind) : List Int := ks.map fun _ => 0
theorem zs_length (ks : List IntKind) : (zs ks).length = ks.length := by simp [zs]
structure ElT (TL TE : TypeId) (ks : List IntKind) : Prop where
  u : P.underlying TL = some (.slice TE)
  s : slT P TL = some ks.length
  o : oneT P TL = true
  g : aggT P TE ks.length = true
  z : zeroT P TE = some (.agg ⟨rc ks (zs ks)⟩)
  sz : ∀ w, (sizeOf TE).run P w = .ok ks.length w
  pos : 0 < ks.length
  le : ks.length ≤ 1000
  inz : inR ks (zs ks)
  app : ∀ {w : World} {K : Value → World → Prop} {base : Nat} {v x : Value} {xs ys : List Value} {n m : Nat}, Own w base TE ks.length v xs → SlG w ks.length x ys → xs.length = n * ks.length → ys.length = m * ks.length → (∀ u ∈ ys, isC u = true) → n + m ≤ 10000000 → base ≤ w.heap.size →
    (∀ v' w', Own w' base TE ks.length v' (xs ++ ys) → Ex v.ownBlock.toList w w' → (v'.ownBlock = v.ownBlock ∨ v'.ownBlock = some w.heap.size) → K v' w') → wBuiltin P .append #[TL, TL] [v, x] w K
def kUse : List IntKind := [.i64, .i64, .u32]
def kSlot : List IntKind := [.i64, .u32, .i64, .i64]
def kRecord : List IntKind := [.u32, .u32, .i64, .i64]
def kEntry : List IntKind := [.i64, .u32, .u32, .i64]
theorem el_Use : ElT T_Lcodec_Use T_codec_Use kUse :=
  ⟨u_T_Lcodec_Use, s_T_Lcodec_Use, o_T_Lcodec_Use, g_T_codec_Use, z_T_codec_Use, fun w => sizeOf_agg g_T_codec_Use w, by decide, by decide, by simp [inR, inR1, kUse, zs], fun ho hy hn hm hc hb hba hk => app_T_Lcodec_Use ho hy hn hm hc (by omega) hba hk⟩
theorem el_Slot : ElT T_Lcodec_Slot T_codec_Slot kSlot :=
  ⟨u_T_Lcodec_Slot, s_T_Lcodec_Slot, o_T_Lcodec_Slot, g_T_codec_Slot, z_T_codec_Slot, fun w => sizeOf_agg g_T_codec_Slot w, by decide, by decide, by simp [inR, inR1, kSlot, zs], fun ho hy hn hm hc hb hba hk => app_T_Lcodec_Slot ho hy hn hm hc (by omega) hba hk⟩
theorem el_Record : ElT T_Lcodec_Record T_codec_Record kRecord :=
  ⟨u_T_Lcodec_Record, s_T_Lcodec_Record, o_T_Lcodec_Record, g_T_codec_Record, z_T_codec_Record, fun w => sizeOf_agg g_T_codec_Record w, by decide, by decide, by simp [inR, inR1, kRecord, zs], fun ho hy hn hm hc hb hba hk => app_T_Lcodec_Record ho hy hn hm hc (by omega) hba hk⟩
theorem el_Entry : ElT T_Lcodec_Entry T_codec_Entry kEntry :=
  ⟨u_T_Lcodec_Entry, s_T_Lcodec_Entry, o_T_Lcodec_Entry, g_T_codec_Entry, z_T_codec_Entry, fun w => sizeOf_agg g_T_codec_Entry w, by decide, by decide, by simp [inR, inR1, kEntry, zs], fun ho hy hn hm hc hb hba hk => app_T_Lcodec_Entry ho hy hn hm hc (by omega) hba hk⟩
/-- A slice whose block is one of cells. -/
def SlB (w : World) (t : TypeId) (size : Nat) (v : Value) (xs : List Value) : Prop :=
  (v = .slice none 0 0 ∧ xs = []) ∨ ∃ b A C n c, v = .slice (some ⟨b, List.length A, none⟩) n c ∧ Blk w b t (A ++ xs ++ C) ∧ xs.length = n * size ∧ n ≤ c
theorem SlB.slg {w : World} {t : TypeId} {size : Nat} {v : Value} {xs : List Value} (h : SlB w t size v xs) : SlG w size v xs := by
  rcases h with ⟨rfl, rfl⟩ | ⟨b, A, C, n, c, rfl, hB, hl, hc⟩
  · exact SlG.nil w size
  · refine SlG.of_cs (fun i x hx => ?_) hl hc
    rw [hB.cell, List.append_assoc, List.getElem?_append_right (by omega), show A.length + i - A.length = i by omega, List.getElem?_append_left (List.getElem?_eq_some_iff.1 hx).1]
    exact hx
theorem SlB.ex {S : List Nat} {w w' : World} {t : TypeId} {size : Nat} {v : Value} {xs : List Value} (h : SlB w t size v xs) (hx : Ex S w w') (hs : ∀ g, v.ownBlock = some g → g ∉ S) : SlB w' t size v xs := by
  rcases h with h | ⟨b, A, C, n, c, rfl, hB, hl, hc⟩
  · exact .inl h
  · exact .inr ⟨b, A, C, n, c, rfl, hB.ex hx (hs b rfl), hl, hc⟩
theorem SlB.ex0 {w w' : World} {t : TypeId} {size : Nat} {v : Value} {xs : List Value} (h : SlB w t size v xs) (hx : Ex [] w w') : SlB w' t size v xs := h.ex hx (by simp)
theorem SlB.bd {w : World} {t : TypeId} {size : Nat} {v : Value} {xs : List Value} (h : SlB w t size v xs) : ∀ g, v.ownBlock = some g → g < w.heap.size := by
  rcases h with ⟨rfl, rfl⟩ | ⟨b, A, C, n, c, rfl, hB, hl, hc⟩
  · intro g hg; simp [Value.ownBlock] at hg
  · intro g hg
    simp [Value.ownBlock] at hg
    subst hg
    exact hB.lt
theorem Own.slb {w : World} {base size : Nat} {e : TypeId} {v : Value} {xs : List Value} (h : Own w base e size v xs) : SlB w e size v xs := by
  obtain ⟨n, hl, h⟩ := h
  rcases h with ⟨rfl, rfl⟩ | ⟨g, cap, cur, rfl, hb, hh, hnc, h2, h3, htk⟩
  · exact .inl ⟨rfl, List.eq_nil_of_length_eq_zero (by simpa using hl)⟩
  · refine .inr ⟨g, [], cur.toList.drop (n * size), n, cap, rfl, ?_, hl, hnc⟩
    have : [] ++ xs ++ cur.toList.drop (n * size) = cur.toList := by rw [← htk, List.nil_append, List.take_append_drop]
    rw [this]
    exact hh
def G_list (TL TE : TypeId) (a0 a1 a2 : Value) (w : World) (k : Value → World → Prop) : Prop :=
  wJ0 (fun k1 =>
    wNil P a1 w fun t9 w =>
    wLoad P TL t9 w fun t10 w =>
    wLen P .len #[TL] [t10] w fun t11 w =>
    wL1 (.int .i64 0) w (fun _ v12 w k2 =>
      wBin P .lss T_int v12 t11 w fun t13 w =>
      wIf t13 (
        wNil P a1 w fun t18 w =>
        wLoad P TL t18 w fun t19 w =>
        wIndexA P TL t19 v12 w fun t21 w =>
        wCallV P a2 [a0, t21] w fun _ w =>
        wBin P .add T_int v12 (.int .i64 1) w fun t23 w =>
        k2 t23 w) (
        k1 w))) fun _ w =>
  wL0 w (fun _ w k1 =>
    wInvoke P a0 "drumlin/codec.more" [] w fun t25 w =>
    wIf t25 (
      wAlloc P TE w fun t7 w =>
      wCallV P a2 [a0, t7] w fun _ w =>
      wDraw w fun w =>
      wNil P a1 w fun t31 w =>
      wLoad P TL t31 w fun t32 w =>
      wLoad P TE t7 w fun t33 w =>
      wBuildS P TL 1 [(0, t33)] w fun t34 w =>
      wKeep P [(TL, t31, t32)] w ∧ wBuiltin P .append #[TL, TL] [t32, t34] w fun t35 w =>
      wNil P a1 w fun t36 w =>
      wStore P TL t36 t35 w fun w =>
      k1 w) (
      k (.tuple #[]) w))
def ListC (n : FuncId) (TL TE : TypeId) : Prop := ∀ {a0 a1 a2 : Value} {w : World} {k : Value → World → Prop}, G_list TL TE a0 a1 a2 w k → wCall P n [a0, a1, a2] w k
theorem lc_Use : ListC n_codec_list_codec_Use T_Lcodec_Use T_codec_Use := fun h => call_codec_list_codec_Use _ _ _ h
theorem lc_Slot : ListC n_codec_list_codec_Slot T_Lcodec_Slot T_codec_Slot := fun h => call_codec_list_codec_Slot _ _ _ h
theorem lc_Record : ListC n_codec_list_codec_Record T_Lcodec_Record T_codec_Record := fun h => call_codec_list_codec_Record _ _ _ h
theorem lc_Entry : ListC n_codec_list_codec_Entry T_Lcodec_Entry T_codec_Entry := fun h => call_codec_list_codec_Entry _ _ _ h
section
variable {w : World}
theorem takeR {rs : List (List Int)} {i : Nat} (h : i < rs.length) : rs.take (i + 1) = rs.take i ++ [rs[i]] := List.take_succ_eq_append_getElem h
theorem runRS_w_len {ks : List IntKind} {ws : List Nat} (hw : ws.length = ks.length) : ∀ (l : List (List Int)) (s : List Nat × Bool), lenR ks l → (runRS wstp ws s l).1.length = s.1.length + l.length * ws.sum := by
  intro l
  induction l with
  | nil => intro s _; simp [runRS]
  | cons r l ih =>
    intro s hl
    show (runRS wstp ws (runS wstp s ws r) l).1.length = _
    rw [ih _ fun x hx => hl x (List.mem_cons_of_mem _ hx), runS_w_len ws r s (by rw [hw, hl r (List.mem_cons_self ..)]), List.length_cons, Nat.add_mul, Nat.one_mul]
    omega
theorem runRS_r_at {ks : List IntKind} {ws : List Nat} {body : List Nat} {s : Nat × Bool} (hw : ws.length = ks.length) (i : Nat) : (runRS (rstp body) ws s (List.replicate i (zs ks))).1 = s.1 + i * ws.sum := by
  induction i with
  | zero => simp [runRS]
  | succ i ih => rw [List.replicate_succ', runRS_snoc, (runS_r body ws _ _ (by rw [hw, zs_length])).1, ih, Nat.succ_mul]; omega
theorem lenR_runRV {ks : List IntKind} {ws : List Nat} {body : List Nat} (hw : ws.length = ks.length) : ∀ (rs : List (List Int)) (s : Nat × Bool), lenR ks rs → lenR ks (runRV (rstp body) (rval body) ws s rs) := by
  intro rs
  induction rs with
  | nil => intro s _ r hr; simp [runRV] at hr
  | cons a rs ih =>
    intro s hl r hr
    simp only [runRV, List.mem_cons] at hr
    rcases hr with rfl | hr
    · rw [runV_length _ _ _ _ _ (by rw [hw, hl a (List.mem_cons_self ..)]), hl a (List.mem_cons_self ..)]
    · exact ih _ (fun x hx => hl x (List.mem_cons_of_mem _ hx)) r hr
theorem wmoreC {h : Nat} {s : List Nat × Bool} {fp : List Nat} {K : Value → World → Prop} (H : WrS h w s fp) (hk : ∀ w', Ex [] w w' → K (.bool false) w') : wInvoke P (.iface T_pcodec_writer (ptr h)) "drumlin/codec.more" [] w K := (wform h).moreC H hk
def rmore (body : List Nat) (s : Nat × Bool) : Bool := !s.2 && decide (s.1 < body.length)
theorem rmoreC {h : Nat} {body : List Nat} {s : Nat × Bool} {fp : List Nat} {K : Value → World → Prop} (H : RdS h body w s fp) (hk : ∀ w', Ex [] w w' → K (.bool (rmore body s)) w') : wInvoke P (.iface T_pcodec_reader (ptr h)) "drumlin/codec.more" [] w K := (rform h body).moreC H hk
/-- A list is written. -/
theorem list_wr {n np : FuncId} {TL TE lt : TypeId} {ks : List IntKind} {ws : List Nat} {h lb lo : Nat} {s : List Nat × Bool} {fp : List Nat} {lcs : List Value} {v : Value} {rs : List (List Int)} {k : Value → World → Prop} (E : ElT TL TE ks) (hL : ListC n TL TE) (hP : PassC np ks ws)
    (H : WrS h w s fp) (B : Blk w lb lt lcs) (hlo : lcs[lo]? = some v) (hlb : lb ∉ fp) (S : SlB w TE ks.length v (rcs ks rs)) (hv : ∀ g, v.ownBlock = some g → g ∉ fp) (hlen : lenR ks rs) (hw : ws.length = ks.length) (hin : ∀ r ∈ rs, inR ks r) (hn : rs.length ≤ 1000) (hsz : s.1.length + rs.length * ws.sum ≤ 900000)
    (hk : ∀ w' fp', Ex fp w w' → WrS h w' (runRS wstp ws s rs) fp' → (∀ x ∈ fp', x ∈ fp ∨ w.heap.size ≤ x) → k (.tuple #[]) w') : wCall P n [.iface T_pcodec_writer (ptr h), .pointer (some ⟨lb, lo, none⟩), .func (.func np) #[] #[]] w k := by
  refine hL ?_
  unfold G_list
  refine j0_of (fun w' => ∃ fp', Ex fp w w' ∧ WrS h w' (runRS wstp ws s rs) fp' ∧ (∀ x ∈ fp', x ∈ fp ∨ w.heap.size ≤ x)) (fun k1 hk1 => ?_) ?_
  · rw [nil_ptr, ld_one E.o ((B.cell lo).trans hlo), S.slg.len_i E.u E.pos (rcs_length hlen)]
    refine loop_up rs.length (fun i x w' => x = .int .i64 (i : Int) ∧ ∃ fp', Ex fp w w' ∧ WrS h w' (runRS wstp ws s (rs.take i)) fp' ∧ (∀ x ∈ fp', x ∈ fp ∨ w.heap.size ≤ x)) ⟨rfl, fp, Ex.refl _ _, H, fun x hx => .inl hx⟩ ?_
    rintro i J x w1 k2 hi ⟨rfl, fp1, hE1, H1, hfp1⟩ hk2
    rw [bin_lss]
    refine wIf_d (fun hlt => ?_) (fun hge => ?_)
    · have hlt : i < rs.length := by omega
      have B1 := B.ex hE1 hlb
      have S1 := S.ex hE1 hv
      rw [nil_ptr, ld_one E.o ((B1.cell lo).trans hlo)]
      rcases S1 with ⟨_, h2⟩ | ⟨b, A, C, m, c, rfl, hB, hl, hc⟩
      · have := rcs_length hlen
        rw [h2] at this
        have := Nat.mul_pos (show 0 < rs.length by omega) E.pos
        simp at *
        omega
      · have hm : m = rs.length := Nat.eq_of_mul_eq_mul_right E.pos (hl.symm.trans (rcs_length hlen))
        subst hm
        rw [indexS_i E.s (by omega) (by omega), callv_0, Int.toNat_natCast]
        have htl : lenR ks (rs.take i) := fun r hr => hlen r (List.mem_of_mem_take hr)
        have ha : A.length + i * ks.length = (A ++ rcs ks (rs.take i)).length := by
          rw [List.length_append, rcs_length htl, List.length_take, Nat.min_eq_left (by omega)]
        have hcs : A ++ rcs ks rs ++ C = (A ++ rcs ks (rs.take i)) ++ rc ks rs[i] ++ (rcs ks (rs.drop (i + 1)) ++ C) := by
          conv => lhs; rw [← List.take_append_drop i rs, List.drop_eq_getElem_cons hlt, rcs_append, rcs_cons]
          simp
        rw [ha]
        rw [hcs] at hB
        have hbfp : b ∉ fp1 := fun hm => by
          rcases hfp1 b hm with h | h
          · exact hv b rfl h
          · have := S.bd b rfl; omega
        have hst : (runRS wstp ws s (rs.take i)).1.length = s.1.length + i * ws.sum := by
          rw [runRS_w_len hw _ s htl, List.length_take, Nat.min_eq_left (by omega)]
        have hmul : i * ws.sum ≤ rs.length * ws.sum := Nat.mul_le_mul_right _ (by omega)
        refine hP (wform h) H1 hB hbfp (hlen _ (List.getElem_mem hlt)) (hin _ (List.getElem_mem hlt)) (show (runRS wstp ws s (rs.take i)).1.length ≤ 900000 by omega) fun w2 fp2 hE2 H2 hfp2 hB2 => ?_
        have hB2 : Blk w2 b TE ((A ++ rcs ks (rs.take i)) ++ rc ks (runV wstp wval (runRS wstp ws s (rs.take i)) ws rs[i]) ++ (rcs ks (rs.drop (i + 1)) ++ C)) := hB2
        rw [runV_w ws _ _ (by rw [hw, hlen _ (List.getElem_mem hlt)])] at hB2
        have E2 : Ex fp1 w1 w2 := hE2.back hB hB2
        have l1 := hE1.le
        rw [bin_add (by omega)]
        refine hk2 _ _ (by omega) ⟨by simp, fp2, hE1.step E2 fun x hx => (hfp1 x hx), ?_, fun x hx => ?_⟩
        · rw [takeR hlt, runRS_snoc]; exact H2
        · rcases hfp2 x hx with h | h
          · exact hfp1 x h
          · exact .inr (by omega)
    · obtain rfl : i = rs.length := by omega
      rw [List.take_length] at H1
      exact hk1 w1 ⟨fp1, hE1, H1, hfp1⟩
  · rintro J w1 ⟨fp1, hE1, H1, hfp1⟩
    refine loop_m0 (n := 0) (fun n w' => Ex fp w w' ∧ WrS h w' (runRS wstp ws s rs) fp1) ⟨hE1, H1⟩ ?_
    rintro n J w2 k1 ⟨hE2, H2⟩ _
    refine wmoreC H2 fun w3 hE3 => ?_
    rw [wIf_f]
    exact hk w3 fp1 (hE2.trans hE3.nil) (H2.ex hE3 (by simp)) hfp1
/-- A list is read. -/
theorem list_rd {n np : FuncId} {TL TE lt : TypeId} {ks : List IntKind} {ws : List Nat} {h lb lo N : Nat} {body : List Nat} {s : Nat × Bool} {fp : List Nat} {lcs : List Value} {k : Value → World → Prop} (E : ElT TL TE ks) (hL : ListC n TL TE) (hP : PassC np ks ws)
    (H : RdS h body w s fp) (B : Blk w lb lt lcs) (hlo : lcs[lo]? = some (.slice none 0 0)) (hlb : lb ∉ fp) (hw : ws.length = ks.length) (hN : N ≤ 1000) (hsz : s.1 + N * ws.sum ≤ 900000)
    (hm : ∀ i, i < N → rmore body (runRS (rstp body) ws s (List.replicate i (zs ks))) = true) (hn : rmore body (runRS (rstp body) ws s (List.replicate N (zs ks))) = false)
    (hk : ∀ w' v' fp', Ex (lb :: fp) w w' → RdS h body w' (runRS (rstp body) ws s (List.replicate N (zs ks))) fp' → (∀ x ∈ fp', x ∈ fp ∨ w.heap.size ≤ x) → (∀ g, v'.ownBlock = some g → g ∉ fp') → Own w' w.heap.size TE ks.length v' (rcs ks (runRV (rstp body) (rval body) ws s (List.replicate N (zs ks)))) → Blk w' lb lt (lcs.set lo v') → k (.tuple #[]) w') :
    wCall P n [.iface T_pcodec_reader (ptr h), .pointer (some ⟨lb, lo, none⟩), .func (.func np) #[] #[]] w k := by
  refine hL ?_
  unfold G_list
  have hlol := (List.getElem?_eq_some_iff.1 hlo).1
  refine j0_of (fun w' => w = w') (fun k1 hk1 => ?_) ?_
  · rw [nil_ptr, ld_one E.o ((B.cell lo).trans hlo), len_s E.u]
    refine loop_up 0 (fun i x w' => x = .int .i64 0 ∧ w = w') ⟨rfl, rfl⟩ ?_
    rintro i J x w1 k2 hi ⟨rfl, rfl⟩ hk2
    rw [bin_lss, wIf_df (by omega)]
    exact hk1 w rfl
  rintro J w1 rfl
  have hblt := B.lt
  refine loop_m0 (n := N) (fun m w' => ∃ i v fp1, m = N - i ∧ i ≤ N ∧ Ex (lb :: fp) w w' ∧ RdS h body w' (runRS (rstp body) ws s (List.replicate i (zs ks))) fp1 ∧ (∀ x ∈ fp1, x ∈ fp ∨ w.heap.size ≤ x) ∧ (∀ g, v.ownBlock = some g → g ∉ fp1) ∧ Own w' w.heap.size TE ks.length v (rcs ks (runRV (rstp body) (rval body) ws s (List.replicate i (zs ks)))) ∧ Blk w' lb lt (lcs.set lo v))
    ⟨0, .slice none 0 0, fp, rfl, Nat.zero_le _, Ex.refl _ _, H, fun x hx => .inl hx, by simp [Value.ownBlock], Own.nil _ _ _ _, by rw [set_same hlo]; exact B⟩ ?_
  rintro m J w1 k1 ⟨i, v, fp1, rfl, hi, hE1, H1, hfp1, hv1, hO1, B1⟩ hk1
  have l1 := hE1.le
  have hcell : ∀ v, (lcs.set lo v)[lo]? = some v := fun v => by simp [hlol]
  refine rmoreC H1 fun w2 hE2 => ?_
  have l2 := hE2.le
  rcases Nat.lt_or_ge i N with hlt | hge
  · rw [hm i hlt, wIf_t]
    have hb1 : lb ∉ fp1 := fun hmm => (hfp1 lb hmm).elim hlb fun h => by omega
    refine alloc_i E.z (vs := rc ks (zs ks)) rfl fun w3 g3 hg3 hE3 B3 => ?_
    have l3 := hE3.le
    rw [callv_0]
    have H3 := (H1.ex hE2 (by simp)).ex hE3 (by simp)
    have hbd1 := H3.bd
    have hg3fp : g3 ∉ fp1 := fun hmm => by have := (H1.ex hE2 (by simp)).bd g3 hmm; omega
    have hst := runRS_r_at (body := body) (s := s) (ks := ks) hw i
    have hmul : i * ws.sum ≤ N * ws.sum := Nat.mul_le_mul_right _ (by omega)
    refine hP (rform h body) (A := []) (C := []) H3 (by simpa using B3) hg3fp (zs_length ks) E.inz (show (runRS (rstp body) ws s (List.replicate i (zs ks))).1 ≤ 900000 by omega) fun w4 fp4 hE4 H4 hfp4 B4 => ?_
    have l4 := hE4.le
    simp only [List.nil_append, List.append_nil] at B4
    have B4 : Blk w4 g3 TE (rc ks (runV (rstp body) (rval body) (runRS (rstp body) ws s (List.replicate i (zs ks))) ws (zs ks))) := B4
    have hsnoc : runRS (rstp body) ws s (List.replicate (i + 1) (zs ks)) = runS (rstp body) (runRS (rstp body) ws s (List.replicate i (zs ks))) ws (zs ks) := by rw [List.replicate_succ', runRS_snoc]
    have hvsnoc : runRV (rstp body) (rval body) ws s (List.replicate (i + 1) (zs ks)) = runRV (rstp body) (rval body) ws s (List.replicate i (zs ks)) ++ [runV (rstp body) (rval body) (runRS (rstp body) ws s (List.replicate i (zs ks))) ws (zs ks)] := by rw [List.replicate_succ', runRV_snoc]
    generalize hvals : runV (rstp body) (rval body) (runRS (rstp body) ws s (List.replicate i (zs ks))) ws (zs ks) = vals at B4 hvsnoc
    have hvl : vals.length = ks.length := by rw [← hvals, runV_length _ _ _ _ _ (by rw [hw, zs_length]), zs_length]
    have hobd : ∀ g, v.ownBlock = some g → w.heap.size ≤ g ∧ g < w1.heap.size := fun g hg => ⟨(hO1.blk hg).1, (hO1.blk hg).2.1⟩
    have hO4 : Own w4 w.heap.size TE ks.length v (rcs ks (runRV (rstp body) (rval body) ws s (List.replicate i (zs ks)))) :=
      ((hO1.ex0 hE2).ex0 hE3).ex hE4 fun g hg hmm => by
        have := hobd g hg
        rcases List.mem_cons.1 hmm with rfl | hmm
        · omega
        · exact hv1 g hg hmm
    have Bl4 : Blk w4 lb lt (lcs.set lo v) := ((B1.ex hE2 (by simp)).ex hE3 (by simp)).ex hE4 (by simp; exact ⟨by omega, hb1⟩)
    refine draw_i fun w5 hE5 _ => ?_
    have l5 := hE5.le
    have B5 := B4.ex hE5 (by simp)
    have Bl5 := Bl4.ex hE5 (by simp)
    rw [nil_ptr, ld_one E.o ((Bl5.cell lo).trans (hcell v)), ld_agg E.g B5.all (rc_length hvl)]
    have hgl : (rc ks vals).length = ks.length := rc_length hvl
    refine buildS_1 (x := .agg ⟨rc ks vals⟩) (xs := rc ks vals) (size := ks.length) E.u E.sz E.z (by have := E.le; omega) rfl hgl (show (rc ks (zs ks)).length = _ from rc_length (zs_length ks)) fun w6 g6 hg6 hE6 B6 => ?_
    have l6 := hE6.le
    have Bl6 := Bl5.ex hE6 (by simp)
    refine ⟨keep_cons (loadAt_one E.o ((Bl6.cell lo).trans (hcell v))) keep_nil, ?_⟩
    have hrl : (rcs ks (runRV (rstp body) (rval body) ws s (List.replicate i (zs ks)))).length = i * ks.length := by
      rw [rcs_length (lenR_runRV hw _ s fun r hr => by rw [List.mem_replicate] at hr; rw [hr.2, zs_length]), runRV_length, List.length_replicate]
    refine E.app (n := i) (m := 1) ((hO4.ex0 hE5).ex0 hE6) (SlG.of_cs B6.all (by rw [hgl]; omega) (Nat.le_refl _)) hrl (by rw [hgl]; omega) (rc_isC _ _) (by omega) (by omega) fun v' w7 hO7 hE7 hv7 => ?_
    have l7 := hE7.le
    have hne : ∀ x ∈ v.ownBlock.toList, w.heap.size ≤ x ∧ x < w1.heap.size := fun x hx => by
      cases hvo : v.ownBlock with
      | none => rw [hvo] at hx; simp at hx
      | some g => rw [hvo] at hx; simp at hx; subst hx; exact hobd _ hvo
    have Bl7 := Bl6.ex hE7 fun hmm => by have := hne _ hmm; omega
    rw [nil_ptr]
    have hcv : isC v' = true := by
      obtain ⟨m', hl', hv'⟩ := hO7
      rcases hv' with ⟨rfl, _⟩ | ⟨g, cap, cur, rfl, _⟩ <;> rfl
    refine st_one E.o hcv Bl7 (by simpa using hlol) fun w8 hE8 B8 => ?_
    rw [List.set_set] at B8
    have hfp47 : ∀ x ∈ fp4, x < w4.heap.size := fun x hx => H4.bd x hx
    have hv4 : ∀ g, v.ownBlock = some g → g ∉ fp4 := fun g hg hmm => by
      rcases hfp4 g hmm with h | h
      · exact hv1 g hg h
      · have := hobd g hg; omega
    have H7 : RdS h body w7 _ fp4 := ((H4.ex hE5 (by simp)).ex hE6 (by simp)).ex hE7 fun x hx hmm => by
      cases hvo : v.ownBlock with
      | none => rw [hvo] at hx; simp at hx
      | some g => rw [hvo] at hx; simp at hx; subst hx; exact hv4 _ hvo hmm
    have hlb4 : lb ∉ fp4 := fun hmm => by
      rcases hfp4 lb hmm with h | h
      · exact hb1 h
      · omega
    have hown7 : ∀ g, v'.ownBlock = some g → w.heap.size ≤ g ∧ g ∉ fp4 := fun g hg => by
      rcases hv7 with h | h
      · exact ⟨(hO7.blk hg).1, hv4 g (by rw [← h]; exact hg)⟩
      · rw [h] at hg; injection hg with hg
        exact ⟨by omega, fun hmm => by have := hfp47 g hmm; omega⟩
    refine hk1 (N - (i + 1)) w8 (by omega) ⟨i + 1, v', fp4, rfl, by omega, ?_, ?_, ?_, fun g hg => (hown7 g hg).2, ?_, B8⟩
    · refine ((((((hE1.trans hE2.nil).trans hE3.nil).step hE4 ?_).trans hE5.nil).trans hE6.nil).step hE7 fun x hx => .inr (hne x hx).1).step hE8 (by simp)
      intro x hx
      rcases List.mem_cons.1 hx with rfl | hx
      · exact .inr (by omega)
      · rcases hfp1 x hx with h | h
        · exact .inl (by simp [h])
        · exact .inr h
    · rw [hsnoc]
      exact H7.ex hE8 (by simpa using hlb4)
    · intro x hx
      rcases hfp4 x hx with h | h
      · exact hfp1 x h
      · exact .inr (by omega)
    · rw [hvsnoc, rcs_append, rcs_one]
      exact hO7.ex hE8 fun g hg hmm => by have := (hown7 g hg).1; simp at hmm; omega
  · obtain rfl : i = N := by omega
    rw [hn, wIf_f]
    exact hk w2 v fp1 (hE1.trans hE2.nil) (H1.ex hE2 (by simp)) hfp1 hv1 (hO1.ex0 hE2) (B1.ex hE2 (by simp))
end
end Go.Dn
end
section
/-! Contracts of package seal: Make, Open. -/
set_option maxRecDepth 10000
set_option linter.unusedVariables false
set_option linter.unusedSimpArgs false
namespace Go.Dn
open Go
theorem splN_app {X l : List Nat} {n o : Nat} (h : o = X.length) (hl : l.length ≤ n) : splN (X ++ List.replicate n 0) o l = X ++ l ++ List.replicate (n - l.length) 0 := by
  subst h
  unfold splN
  rw [List.take_left' rfl, List.drop_append, List.drop_of_length_le (by omega), List.nil_append, List.drop_replicate]
  congr 2
  omega
theorem wcells_zero : wcells zeroS 0 0 = List.replicate 128 (Value.int .u8 0) ++ [.int .i64 0, .int .i64 0] := by
  unfold wcells zeroS
  rw [rep_bvs]
  rfl
section
variable {w : World} {K : Value → World → Prop}
theorem seal_Make {kind : Nat} {v : Value} {body : List Nat} {k : Value → World → Prop} (S : SlG w 1 v (bvs body)) (hkd : kind < 256) (hb : ∀ b ∈ body, b < 256) (hl : body.length ≤ 4000000)
    (hbad : kind = 0 ∨ 120 < body.length → ∀ w', Ex [] w w' → k (.tuple #[sv zeroS, .int .i64 1]) w') (hk : kind ≠ 0 → body.length ≤ 120 → ∀ w', Ex [] w w' → k (.tuple #[sv (sealS kind body), .int .i64 0]) w') :
    wCall P n_seal_Make [.int .u8 (kind : Int), v] w k := by
  refine call_seal_Make _ _ ?_
  unfold F_seal_Make
  refine alloc_i z_T_api_Sector (vs := List.replicate 128 (.int .u8 0)) rfl fun w1 g1 hg1 hE1 B1 => ?_
  have S1 := S.ex0 hE1
  simp only [bin_eql, S1.len_i (P := P) u_T_Luint8 (by omega) (n := body.length) (by rw [bvs_length]; omega), bin_gtr, or_p]
  refine wIf_i _ (fun hc => ?_) (fun hc => ?_)
  · simp only [Bool.or_eq_true, decide_eq_true_eq] at hc
    rw [bl_zero_sector]
    refine st_sector g_T_api_Sector zeroS_length B1 List.length_replicate fun w2 hE2 B2 => ?_
    refine res_sector g_T_api_Sector zeroS_length B2 ?_
    exact hbad (by omega) w2 (hE1.new hE2 (by omega))
  · simp only [Bool.or_eq_false_iff, decide_eq_false_iff_not] at hc
    have hk0 : kind ≠ 0 := by omega
    have hl2 : body.length ≤ 120 := by omega
    have l1 := hE1.le
    refine alloc_i z_T_num_Writer (vs := wcells zeroS 0 0) (by rw [wcells_zero]; rfl) fun w2 g2 hg2 hE2 B2 => ?_
    have l2 := hE2.le
    have e0 : zeroS = [] ++ List.replicate 128 0 := rfl
    refine num_Writer_Num (x := 19671) (wd := 2) B2 zeroS_length (by omega) (by omega) (by omega) (by omega) fun w3 hE3 B3 => ?_
    have e1 : splN zeroS 0 (low 19671 2) = [215, 76] ++ List.replicate 126 0 := by rw [e0, splN_app (X := []) (o := 0) rfl (by rw [low_length]; omega)]; rfl
    rw [e1, Nat.zero_add] at B3
    rw [conv_8_64 hkd]
    refine num_Writer_Num (x := kind) (wd := 1) B3 (by simp) (by omega) (by omega) (by omega) (by omega) fun w4 hE4 B4 => ?_
    have e2 : splN ([215, 76] ++ List.replicate 126 0) 2 (low kind 1) = [215, 76, kind] ++ List.replicate 125 0 := by
      rw [splN_app (X := [215, 76]) (o := 2) rfl (by rw [low_length]; omega), show low kind 1 = [kind] by simp [low]; omega]; rfl
    rw [e2] at B4
    have hx : ∀ {a b c : World}, Ex [] a b → Ex [g2] b c → a.heap.size ≤ g2 → Ex [] a c := fun h h' hle => h.new h' hle
    have E4 : Ex [] w1 w4 := (hE2.new hE3 (by omega)).new hE4 (by omega)
    have S4 := S1.ex0 E4
    rw [S4.len_i (P := P) u_T_Luint8 (by omega) (n := body.length) (by rw [bvs_length]; omega), conv_i_64 (by omega)]
    refine num_Writer_Num (x := body.length) (wd := 1) B4 (by simp) (by omega) (by omega) (by omega) (by omega) fun w5 hE5 B5 => ?_
    have e3 : splN ([215, 76, kind] ++ List.replicate 125 0) (2 + 1) (low body.length 1) = [215, 76, kind, body.length] ++ List.replicate 124 0 := by
      rw [splN_app (X := [215, 76, kind]) (o := 2 + 1) rfl (by rw [low_length]; omega), show low body.length 1 = [body.length] by simp [low]; omega]; rfl
    rw [e3] at B5
    have E5 : Ex [] w1 w5 := E4.new hE5 (by omega)
    have fin : ∀ w6, Ex [g2] w5 w6 → Blk w6 g2 T_num_Writer (wcells ([215, 76, kind, body.length] ++ body ++ List.replicate (124 - body.length) 0) (3 + 1 + 120) 0) →
        (wCall P n_num_Writer_Sector [ptr g2] w6 fun t28 w => wExtract P t28 0 w fun t29 w => wExtract P t28 1 w fun _ w => wAlloc P T_api_Sector w fun t7 w => wStore P T_api_Sector t7 t29 w fun w => wDraw w fun w =>
          wSlice P T_api_Sector t7 none none none w fun t31 w => wSlice P T_api_Sector t7 none (some (.int .i64 124)) none w fun t32 w => wCall P n_seal_Crc [t32] w fun t33 w => wConv P T_uint32 T_uint64 t33 w fun t34 w =>
          wCall P n_num_Put [t31, (.int .i64 124), (.int .i64 4), t34] w fun _ w => wLoad P T_api_Sector t7 w fun t36 w => wStore P T_api_Sector (ptr g1) t36 w fun w => wRes P T_api_Sector (ptr g1) w fun r4 => k (.tuple #[r4, (.int .i64 0)]) w) := by
      intro w6 hE6 B6
      generalize hs6 : [215, 76, kind, body.length] ++ body ++ List.replicate (124 - body.length) 0 = s6 at B6
      have hs6l : s6.length = 128 := by rw [← hs6]; simp; omega
      have hs6h : s6 = sealHead kind body ++ [0, 0, 0, 0] := by
        rw [← hs6]
        unfold sealHead
        rw [show 124 - body.length = (120 - body.length) + 4 by omega, ← List.replicate_append_replicate]
        simp
      refine num_Writer_Sector B6 hs6l fun w7 hE7 => ?_
      rw [ext_0, ext_1]
      refine alloc_i z_T_api_Sector (vs := List.replicate 128 (.int .u8 0)) rfl fun w8 g8 hg8 hE8 B8 => ?_
      refine st_sector g_T_api_Sector hs6l B8 List.length_replicate fun w9 hE9 B9 => ?_
      refine draw_i fun w10 hE10 _ => ?_
      have B10 := B9.ex hE10 (by simp)
      rw [sliceA_all a_T_api_Sector, sliceA_hi a_T_api_Sector (by omega) (by omega)]
      have hhl := sealHead_length (kind := kind) hl2
      have hhb := sealHead_lt hkd hl2 hb
      have hcl := crc_lt (sealHead kind body)
      have hS : SlG w10 1 (.slice (some ⟨g8, 0, none⟩) (124 : Int).toNat 128) (bvs (sealHead kind body)) := by
        refine SlG.of_cs (fun i x hx => ?_) (by rw [bvs_length, hhl]; rfl) (by omega)
        rw [Nat.zero_add, B10.cell, hs6h, bvs_append, List.getElem?_append_left (List.getElem?_eq_some_iff.1 hx).1]
        exact hx
      refine seal_Crc hS hhb (by omega) ?_
      rw [conv_32_64 hcl]
      refine num_Put (o := 0) (cs := bvs s6) B10 (by rw [bvs_length]; omega) (by omega) (by omega) (by omega) (fun hno => absurd ⟨by omega, by omega, by omega, by omega, by simpa using hcl⟩ hno) fun _ w11 hE11 B11 => ?_
      have e11 : splice (bvs s6) (0 + (124 : Int).toNat) (bvs (low (crc (sealHead kind body)) (4 : Int).toNat)) = bvs (sealS kind body) := by
        rw [hs6h, bvs_append]
        unfold splice sealS
        rw [bvs_append, show 0 + (124 : Int).toNat = 124 from rfl, List.take_left' (by rw [bvs_length, hhl]), List.drop_of_length_le (by simp [bvs_length, hhl, low_length]), List.append_nil]
        rfl
      rw [e11] at B11
      have hsn := sealS_length (kind := kind) hl2
      have l5 := E5.le
      have l6 := hE6.le
      have l7 := hE7.le
      have l8 := hE8.le
      have E6 : Ex [] w1 w6 := E5.new hE6 (by omega)
      have E11 : Ex [] w1 w11 := ((((E6.trans hE7).trans hE8).step hE9 (by simp; omega)).trans hE10).step hE11 (by simp; omega)
      rw [ld_sector g_T_api_Sector hsn B11]
      have B1' := B1.ex E11 (by simp)
      refine st_sector g_T_api_Sector hsn B1' List.length_replicate fun w12 hE12 B12 => ?_
      refine res_sector g_T_api_Sector hsn B12 ?_
      exact hk hk0 hl2 w12 ((hE1.trans E11).new hE12 (by omega))
    have S5 := S1.ex0 E5
    refine num_Writer_Bytes (n := 120) B5 (by simp) S5 (by omega) (by omega) fun w6 hE6 B6 => ?_
    have e4 : splN ([215, 76, kind, body.length] ++ List.replicate 124 0) (2 + 1 + 1) body = [215, 76, kind, body.length] ++ body ++ List.replicate (124 - body.length) 0 := splN_app rfl (by omega)
    rw [e4] at B6
    exact fin w6 hE6 B6
theorem seal_Open {s : List Nat} {k : Value → World → Prop} (hs : s.length = 128) (hb : ∀ b ∈ s, b < 256)
    (hbad : sealOp s = none → ∀ w', Ex [] w w' → k (.tuple #[.int .u8 0, .slice none 0 0, .int .i64 21]) w')
    (hk : ∀ kind body, sealOp s = some (kind, body) → ∀ v w', Ex [] w w' → Own w' w.heap.size T_uint8 1 v (bvs body) → k (.tuple #[.int .u8 (kind : Int), v, .int .i64 0]) w') : wCall P n_seal_Open [sv s] w k := by
  refine call_seal_Open _ ?_
  unfold F_seal_Open
  refine box_i (sv_cells s) fun w1 g1 hg1 hE1 B1 => ?_
  have l1 := hE1.le
  rw [ld_sector g_T_api_Sector hs B1]
  refine num_Read hs fun w2 g2 hg2 hE2 B2 => ?_
  have l2 := hE2.le
  refine num_Reader_Num (wd := 2) B2 hs hb (by omega) (by omega) fun w3 hE3 B3 => ?_
  refine num_Reader_Num (wd := 1) B3 hs hb (by omega) (by omega) fun w4 hE4 B4 => ?_
  have hat : ∀ i, i < 128 → numOf ((s.drop i).take 1) = s.getD i 0 := by
    intro i hi
    rw [List.drop_eq_getElem_cons (by omega), List.take_succ_cons, List.take_zero, List.getD_eq_getElem?_getD, List.getElem?_eq_getElem (by omega)]
    simp [numOf]
  have hk2 := getD_lt hb 2
  have hk3 := getD_lt hb 3
  rw [hat _ (by omega), show 0 + 2 = 2 from rfl, conv_64_8, Nat.mod_eq_of_lt hk2]
  refine num_Reader_Num (wd := 1) B4 hs hb (by omega) (by omega) fun w5 hE5 B5 => ?_
  rw [hat _ (by omega), show 0 + 2 + 1 = 3 from rfl, conv_i i_T_uint64 i_T_int, IntWalk.i64_in _ (by omega), bin_gtr]
  have E5 : Ex [] w1 w5 := ((hE2.new hE3 (by omega)).new hE4 (by omega)).new hE5 (by omega)
  refine wIf_d (fun hgt => ?_) (fun hle => ?_)
  · exact hbad (by unfold sealOp; rw [if_pos (by omega)]) w5 (hE1.trans E5)
  · have l5 := E5.le
    refine num_Reader_Bytes B5 hs (by omega) fun v w6 hE6 B6 hO6 => ?_
    have hbody : (s.drop (0 + 2 + 1 + 1)).take (s.getD 3 0) = bodyS s := rfl
    rw [hbody] at hO6
    have hbl := bodyS_length hs (by omega)
    have E6 : Ex [] w1 w6 := E5.new hE6 (by omega)
    have fin : ∀ e m w7, m.length = 128 → Ex [] w6 w7 → (e = (0 : Int) ∧ m = s ↔ sealMk (s.getD 2 0) (bodyS s) = some s) →
        (wExtract P (.tuple #[sv m, .int .i64 e]) 0 w7 fun t30 w => wExtract P (.tuple #[sv m, .int .i64 e]) 1 w fun t31 w => wAlloc P T_api_Sector w fun t9 w => wStore P T_api_Sector t9 t30 w fun w => wBin P .neq T_api_Errno t31 (.int .i64 0) w fun t33 w =>
          wGrp t33 false (fun k37 => wLoad P T_api_Sector t9 w fun t35 w => wLoad P T_api_Sector (ptr g1) w fun t36 w => wBin P .neq T_api_Sector t35 t36 w fun t37 w => k37 t37 w) w fun _ t37 w =>
          wPick t33 (.bool true) t37 w fun t38 w => wIf t38 (k (.tuple #[(.int .u8 0), (.slice none 0 0), (.int .i64 21)]) w) (k (.tuple #[.int .u8 (s.getD 2 0 : Nat), v, (.int .i64 0)]) w)) := by
      intro e m w7 hm hE7 hiff
      have l6 := hE6.le
      have l7 := hE7.le
      rw [ext_0, ext_1]
      refine alloc_i z_T_api_Sector (vs := List.replicate 128 (.int .u8 0)) rfl fun w8 g8 hg8 hE8 B8 => ?_
      refine st_sector g_T_api_Sector hm B8 List.length_replicate fun w9 hE9 B9 => ?_
      have E9 : Ex [] w7 w9 := hE8.new hE9 (by omega)
      have B19 := ((B1.ex E6 (by simp)).ex hE7 (by simp)).ex E9 (by simp)
      rw [bin_neq]
      refine or_i (r := !decide (m = s)) (fun _ k2 hk2 => ?_) ?_
      · rw [ld_sector g_T_api_Sector hm B9, ld_sector g_T_api_Sector hs B19, ne_sector hm hs]
        exact hk2
      · refine wIf_i _ (fun hc => ?_) (fun hc => ?_)
        · refine hbad ?_ w9 (((hE1.trans E6).trans hE7).trans E9)
          unfold sealOp
          rw [if_neg (by omega), if_neg]
          intro h
          obtain ⟨h1, h2⟩ := hiff.2 h
          rw [h1, h2] at hc
          simp at hc
        · simp only [Bool.or_eq_false_iff, decide_eq_false_iff_not, Bool.not_eq_false', decide_eq_true_eq] at hc
          refine hk _ _ ?_ v w9 (((hE1.trans E6).trans hE7).trans E9) (((hO6.ex0 hE7).ex0 E9).base (by omega))
          unfold sealOp
          rw [if_neg (by omega), if_pos (hiff.1 ⟨by omega, hc.2⟩)]
    refine seal_Make hO6.slg hk2 (bodyS_lt hb) (by omega) (fun hc w7 hE7 => ?_) (fun h0 hl2 w7 hE7 => ?_)
    · refine fin 1 zeroS w7 zeroS_length hE7 ?_
      constructor
      · intro h; omega
      · intro h
        unfold sealMk at h
        rw [if_pos hc] at h
        cases h
    · refine fin 0 _ w7 (sealS_length hl2) hE7 ?_
      unfold sealMk
      rw [if_neg (by omega)]
      simp
end
end Go.Dn
end
section
/-! Records and lists of records as sealed sectors, and back. -/
set_option maxRecDepth 10000
set_option linter.unusedVariables false
set_option linter.unusedSimpArgs false
namespace Go.Dn
open Go
def writeR (kind : Nat) (ws : List Nat) (m : List Int → Bool) (r : List Int) : Option (List Nat) := if m r = true ∧ okNs ws r = true then sealMk kind (encF ws r) else none
def writeL (kind : Nat) (ws : List Nat) (m : List (List Int) → Bool) (rs : List (List Int)) : Option (List Nat) := if m rs = true ∧ okR ws rs = true then sealMk kind (encR ws rs) else none
def recsOf (ws : List Nat) (body : List Nat) : Option (List (List Int)) := if body.length % ws.sum = 0 then some (decR ws body (body.length / ws.sum)) else none
def readR (kind : Nat) (ws : List Nat) (m : List Int → Bool) (s : List Nat) : Option (List Int) :=
  match sealOp s with
  | some (k, body) => if k = kind ∧ body.length = ws.sum ∧ m (decF ws body) = true then some (decF ws body) else none
  | none => none
def readL (kind : Nat) (ws : List Nat) (m : List (List Int) → Bool) (s : List Nat) : Option (List (List Int)) :=
  match sealOp s with
  | some (k, body) => if k = kind then (match recsOf ws body with | some rs => if m rs = true then some rs else none | none => none) else none
  | none => none
/-- What a writing function hands back. -/
def wrV (o : Option (List Nat)) : Value := .tuple #[sv (o.getD zeroS), .int .i64 (if o.isSome then 0 else 1)]
def G_write (TX : TypeId) (a0 a1 a2 a3 : Value) (w : World) (k : Value → World → Prop) : Prop :=
  wBox P TX a1 w fun t5 w =>
  wAlloc P T_api_Sector w fun t8 w =>
  wBuild P T_codec_writer [] w fun t11 w =>
  wBox P T_codec_writer t11 w fun t12 w =>
  wLoad P TX t5 w fun t14 w =>
  wCallV P a3 [t14] w fun t15 w =>
  wUn P .not t15 w fun t16 w =>
  wIf t16 (
    wBuild P T_api_Sector [] w fun t17 w =>
    wStore P T_api_Sector t8 t17 w fun w =>
    wRes P T_api_Sector t8 w fun r8 =>
    k (.tuple #[r8, (.int .i64 1)]) w) (
    wIface P T_pcodec_writer t12 w fun t20 w =>
    wCallV P a2 [t20, t5] w fun _ w =>
    wNil P t12 w fun t23 w =>
    wFieldA P T_codec_writer t23 1 w fun t24 w =>
    wLoad P T_bool t24 w fun t25 w =>
    wIf t25 (
      wBuild P T_api_Sector [] w fun t26 w =>
      wStore P T_api_Sector t8 t26 w fun w =>
      wRes P T_api_Sector t8 w fun r8 =>
      k (.tuple #[r8, (.int .i64 1)]) w) (
      wNil P t12 w fun t29 w =>
      wFieldA P T_codec_writer t29 0 w fun t30 w =>
      wLoad P T_Luint8 t30 w fun t31 w =>
      wCall P n_seal_Make [a0, t31] w fun t32 w =>
      wExtract P t32 0 w fun t33 w =>
      wExtract P t32 1 w fun t34 w =>
      wStore P T_api_Sector t8 t33 w fun w =>
      wRes P T_api_Sector t8 w fun r8 =>
      k (.tuple #[r8, t34]) w))
theorem u_pwriter : P.underlying T_pcodec_writer = some (.pointer T_codec_writer) := by kernel_rfl
theorem u_preader : P.underlying T_pcodec_reader = some (.pointer T_codec_reader) := by kernel_rfl
theorem sealMk_len {kind : Nat} {body s : List Nat} (h : sealMk kind body = some s) : s.length = 128 := by
  unfold sealMk at h
  split at h
  · cases h
  · injection h with h
    rw [← h]
    exact sealS_length (by omega)
section
variable {w : World}
/-- A thing is written: m, may it be; what its pass leaves in the writer. -/
theorem write_i {TX : TypeId} {kind : Nat} {x a2 a3 : Value} {xs : List Value} {m : Bool} {st : List Nat × Bool} {k : Value → World → Prop} (hkd : kind < 256) (hxc : x.cells = ⟨xs⟩) (hld : ∀ (w' : World) (g : Nat) (K : Value → World → Prop), Blk w' g TX xs → wLoad P TX (ptr g) w' K = K x w')
    (hst : st.1.length ≤ 1000000)
    (hmay : ∀ w1, Ex [] w w1 → ∀ k1 : Value → World → Prop, (∀ w', Ex [] w1 w' → k1 (.bool m) w') → wCallV P a3 [x] w1 k1)
    (hpass : ∀ w1 g h, Ex [] w w1 → Blk w1 g TX xs → WrS h w1 ([], false) [h] → w.heap.size ≤ g → w.heap.size ≤ h → g ≠ h → ∀ k1 : Value → World → Prop,
      (∀ w' fp', Ex [g, h] w1 w' → WrS h w' st fp' → (∀ y ∈ fp', y = h ∨ w1.heap.size ≤ y) → k1 (.tuple #[]) w') → wCallV P a2 [.iface T_pcodec_writer (ptr h), ptr g] w1 k1)
    (hk : ∀ w', Ex [] w w' → k (wrV (if m = true ∧ st.2 = false then sealMk kind st.1 else none)) w') : G_write TX (.int .u8 (kind : Int)) x a2 a3 w k := by
  unfold G_write
  refine box_i hxc fun w1 g1 hg1 hE1 B1 => ?_
  refine alloc_i z_T_api_Sector (vs := List.replicate 128 (.int .u8 0)) rfl fun w2 g2 hg2 hE2 B2 => ?_
  rw [bl_T_codec_writer (cs := [.slice none 0 0, .bool false]) fill_nil]
  refine box_i (vs := [.slice none 0 0, .bool false]) rfl fun w3 g3 hg3 hE3 B3 => ?_
  have l1 := hE1.le
  have l2 := hE2.le
  have l3 := hE3.le
  have lt1 := B1.lt
  have lt2 := B2.lt
  have B1' := (B1.ex hE2 (by simp)).ex hE3 (by simp)
  have B2' := B2.ex hE3 (by simp)
  have E3 : Ex [] w w3 := (hE1.trans hE2).trans hE3
  rw [hld _ _ _ B1']
  refine hmay w3 E3 _ fun w4 hE4 => ?_
  have l4 := hE4.le
  rw [un_not]
  have none_ : ∀ w5, Ex [] w w5 → Blk w5 g2 T_api_Sector (List.replicate 128 (.int .u8 0)) → (m = true ∧ st.2 = false → False) →
      (wBuild P T_api_Sector [] w5 fun t17 w => wStore P T_api_Sector (ptr g2) t17 w fun w => wRes P T_api_Sector (ptr g2) w fun r8 => k (.tuple #[r8, (.int .i64 1)]) w) := by
    intro w5 hE5 B5 hn
    rw [bl_zero_sector]
    refine st_sector g_T_api_Sector zeroS_length B5 List.length_replicate fun w6 hE6 B6 => ?_
    refine res_sector g_T_api_Sector zeroS_length B6 ?_
    have := hk w6 (hE5.new hE6 (by omega))
    rw [if_neg hn] at this
    exact this
  cases hm : m with
  | false =>
    rw [show (!false) = true from rfl, wIf_t]
    exact none_ w4 (E3.trans hE4) (B2'.ex hE4 (by simp)) (by simp [hm])
  | true =>
    rw [show (!true) = false from rfl, wIf_f, iface_i u_pwriter]
    have hWr : WrS g3 w3 ([], false) [g3] := ⟨.slice none 0 0, B3, Own.nil _ _ _ _, by simp, rfl⟩
    refine hpass w4 g1 g3 (E3.trans hE4) (B1'.ex hE4 (by simp)) (hWr.ex hE4 (by simp)) (by omega) (by omega) (by omega) _ fun w5 fp5 hE5 H5 hfp5 => ?_
    have hg2fp : g2 ∉ [g1, g3] := by simp; omega
    have B25 := (B2'.ex hE4 (by simp)).ex hE5 hg2fp
    have E5 : Ex [] w w5 := (E3.trans hE4).step hE5 (by intro y hy; simp at hy; omega)
    obtain ⟨v, hB, hO, hl, hfp⟩ := H5
    simp only [nil_ptr, fA_T_codec_writer_0, fA_T_codec_writer_1, Nat.zero_add]
    rw [ld_one o_T_bool (hB.cell 1)]
    cases hb : st.2 with
    | true =>
      rw [wIf_t]
      exact none_ w5 E5 B25 (by simp [hb])
    | false =>
      rw [wIf_f, ld_one o_T_Luint8 (hB.cell 0)]
      have fin : ∀ s e w6, s.length = 128 → Ex [] w5 w6 → wrV (sealMk kind st.1) = .tuple #[sv s, .int .i64 e] →
          (wExtract P (.tuple #[sv s, .int .i64 e]) 0 w6 fun t33 w => wExtract P (.tuple #[sv s, .int .i64 e]) 1 w fun t34 w => wStore P T_api_Sector (ptr g2) t33 w fun w => wRes P T_api_Sector (ptr g2) w fun r8 => k (.tuple #[r8, t34]) w) := by
        intro s e w6 hs hE6 hv
        rw [ext_0, ext_1]
        refine st_sector g_T_api_Sector hs (B25.ex hE6 (by simp)) List.length_replicate fun w7 hE7 B7 => ?_
        refine res_sector g_T_api_Sector hs B7 ?_
        have := hk w7 ((E5.trans hE6).new hE7 (by omega))
        rw [if_pos ⟨hm, hb⟩, hv] at this
        exact this
      refine seal_Make hO.slg hkd hl (by omega) (fun hc w6 hE6 => fin zeroS 1 w6 zeroS_length hE6 ?_) (fun h0 hl2 w6 hE6 => fin _ 0 w6 (sealS_length hl2) hE6 ?_)
      · unfold wrV sealMk
        rw [if_pos hc]
        rfl
      · unfold wrV sealMk
        rw [if_neg (by omega)]
        rfl
theorem ld_aggT {TX : TypeId} {n : Nat} {xs : List Value} (hT : aggT P TX n = true) (hl : xs.length = n) (w' : World) (g : Nat) (K : Value → World → Prop) (B : Blk w' g TX xs) : wLoad P TX (ptr g) w' K = K (.agg ⟨xs⟩) w' := ld_agg hT B.all hl
theorem ld_oneT {TX : TypeId} {v : Value} (hT : oneT P TX = true) (w' : World) (g : Nat) (K : Value → World → Prop) (B : Blk w' g TX [v]) : wLoad P TX (ptr g) w' K = K v w' := ld_one hT (B.cell 0)
/-- A record is written. -/
theorem write_rec {TX : TypeId} {n np : FuncId} {ks : List IntKind} {ws : List Nat} {kind : Nat} {a3 : Value} {r : List Int} {m : List Int → Bool} {k : Value → World → Prop} (hW : ∀ {a0 a1 a2 a3 : Value} {w : World} {k : Value → World → Prop}, G_write TX a0 a1 a2 a3 w k → wCall P n [a0, a1, a2, a3] w k)
    (hT : aggT P TX ks.length = true) (hP : PassC np ks ws) (hw : ws.length = ks.length) (hws : ws.sum ≤ 1000) (hr : r.length = ks.length) (hin : inR ks r) (hkd : kind < 256)
    (hmay : ∀ (w1 : World) (k1 : Value → World → Prop), (∀ w', Ex [] w1 w' → k1 (.bool (m r)) w') → wCallV P a3 [.agg ⟨rc ks r⟩] w1 k1)
    (hk : ∀ w', Ex [] w w' → k (wrV (writeR kind ws m r)) w') : wCall P n [.int .u8 (kind : Int), .agg ⟨rc ks r⟩, .func (.func np) #[] #[], a3] w k := by
  refine hW (write_i (st := runS wstp ([], false) ws r) hkd rfl (ld_aggT hT (rc_length hr)) ?_ (fun w1 _ k1 hk1 => hmay w1 k1 hk1) (fun w1 g h hE B H hg hh hgh k1 hk1 => ?_) fun w' hE => ?_)
  · rw [runS_w_len ws r _ (by rw [hw, hr])]; simp; omega
  · rw [callv_0]
    refine hP (wform h) (A := []) (C := []) H (by simpa using B) (by simpa using hgh) hr hin (show ([] : List Nat).length ≤ 900000 by simp) fun w' fp' hE' H' hfp' _ => ?_
    exact hk1 w' fp' hE' H' fun y hy => by have := hfp' y hy; simpa using this
  · have := hk w' hE
    have e : writeR kind ws m r = (if m r = true ∧ (runS wstp ([], false) ws r).2 = false then sealMk kind (runS wstp ([], false) ws r).1 else none) := by
      unfold writeR
      rw [runS_w_bad]
      cases ho : okNs ws r with
      | false => simp
      | true => simp [runS_w_ok ws r _ ho]
    rw [← e]
    exact this
/-- A list of records is written. -/
theorem write_list {TL TE : TypeId} {n nl np nP : FuncId} {ks : List IntKind} {ws : List Nat} {kind : Nat} {v a3 : Value} {rs : List (List Int)} {m : List (List Int) → Bool} {k : Value → World → Prop} (hW : ∀ {a0 a1 a2 a3 : Value} {w : World} {k : Value → World → Prop}, G_write TL a0 a1 a2 a3 w k → wCall P n [a0, a1, a2, a3] w k)
    (E : ElT TL TE ks) (hL : ListC nl TL TE) (hP : PassC np ks ws) (hpL : ∀ {a0 a1 : Value} {w : World} {k : Value → World → Prop}, (wCall P nl [a0, a1, (.func (.func np) #[] #[])] w fun _ w => k (.tuple #[]) w) → wCall P nP [a0, a1] w k)
    (hw : ws.length = ks.length) (hws : ws.sum ≤ 100) (S : SlB w TE ks.length v (rcs ks rs)) (hlen : lenR ks rs) (hin : ∀ r ∈ rs, inR ks r) (hn : rs.length ≤ 1000) (hkd : kind < 256)
    (hmay : ∀ (w1 : World) (k1 : Value → World → Prop), SlB w1 TE ks.length v (rcs ks rs) → (∀ w', Ex [] w1 w' → k1 (.bool (m rs)) w') → wCallV P a3 [v] w1 k1)
    (hk : ∀ w', Ex [] w w' → k (wrV (writeL kind ws m rs)) w') : wCall P n [.int .u8 (kind : Int), v, .func (.func nP) #[] #[], a3] w k := by
  have hvc : v.cells = ⟨[v]⟩ := by
    rcases S with ⟨rfl, _⟩ | ⟨b, A, C, n, c, rfl, _⟩ <;> rfl
  have hmul : rs.length * ws.sum ≤ 1000 * 100 := Nat.mul_le_mul hn hws
  refine hW (write_i (st := runRS wstp ws ([], false) rs) hkd hvc (ld_oneT E.o) ?_ (fun w1 hE k1 hk1 => hmay w1 k1 (S.ex0 hE) hk1) (fun w1 g h hE B H hg hh hgh k1 hk1 => ?_) fun w' hE => ?_)
  · rw [runRS_w_len hw rs _ hlen]; simp; omega
  · rw [callv_0]
    refine hpL ?_
    refine list_wr E hL hP H B (lo := 0) rfl (by simpa using hgh) (S.ex0 hE) (fun g' hg' hm => ?_) hlen hw hin hn (by simp; omega) fun w' fp' hE' H' hfp' => ?_
    · have := S.bd g' hg'
      simp at hm
      omega
    · exact hk1 w' fp' (hE'.mono (by simp +contextual)) H' fun y hy => by have := hfp' y hy; simpa using this
  · have := hk w' hE
    have e : writeL kind ws m rs = (if m rs = true ∧ (runRS wstp ws ([], false) rs).2 = false then sealMk kind (runRS wstp ws ([], false) rs).1 else none) := by
      unfold writeL
      rw [runRS_w_bad]
      cases ho : okR ws rs with
      | false => simp
      | true => simp [runRS_w_ok ws rs _ ho]
    rw [← e]
    exact this
end
end Go.Dn
end
section
/-! Records and lists of records are read. -/
set_option maxRecDepth 10000
set_option linter.unusedVariables false
set_option linter.unusedSimpArgs false
namespace Go.Dn
open Go
def G_readS (TX : TypeId) (a0 a1 a2 a3 : Value) (w : World) (k : Value → World → Prop) : Prop :=
  wBox P T_api_Sector a1 w fun t5 w =>
  wAlloc P TX w fun t8 w =>
  wAlloc P TX w fun t10 w =>
  wAlloc P TX w fun t11 w =>
  wLoad P T_api_Sector t5 w fun t17 w =>
  wCall P n_seal_Open [t17] w fun t18 w =>
  wExtract P t18 0 w fun t19 w =>
  wExtract P t18 1 w fun t20 w =>
  wExtract P t18 2 w fun t21 w =>
  wBin P .neq T_api_Errno t21 (.int .i64 0) w fun t23 w =>
  wGrp t23 false (fun k27 =>
    wBin P .neq T_uint8 t19 a0 w fun t27 w =>
    k27 t27 w) w fun _ t27 w =>
  wPick t23 (.bool true) t27 w fun t28 w =>
  wIf t28 (
    wLoad P TX t11 w fun t29 w =>
    wStore P TX t8 t29 w fun w =>
    wRes P TX t8 w fun r8 =>
    k (.tuple #[r8, (.int .i64 21)]) w) (
    wBuild P T_codec_reader [(0, t20)] w fun t31 w =>
    wBox P T_codec_reader t31 w fun t32 w =>
    wIface P T_pcodec_reader t32 w fun t35 w =>
    wCallV P a2 [t35, t10] w fun _ w =>
    wNil P t32 w fun t38 w =>
    wFieldA P T_codec_reader t38 2 w fun t39 w =>
    wLoad P T_bool t39 w fun t40 w =>
    wGrp t40 false (fun k48 =>
      wNil P t32 w fun t43 w =>
      wFieldA P T_codec_reader t43 1 w fun t44 w =>
      wLoad P T_int t44 w fun t45 w =>
      wLen P .len #[T_Luint8] [t20] w fun t47 w =>
      wBin P .neq T_int t45 t47 w fun t48 w =>
      k48 t48 w) w fun _ t48 w =>
    wPick t40 (.bool true) t48 w fun t49 w =>
    wGrp t49 false (fun k54 =>
      wLoad P TX t10 w fun t52 w =>
      wCallV P a3 [t52] w fun t53 w =>
      wUn P .not t53 w fun t54 w =>
      k54 t54 w) w fun _ t54 w =>
    wPick t49 (.bool true) t54 w fun t55 w =>
    wIf t55 (
      wLoad P TX t11 w fun t56 w =>
      wStore P TX t8 t56 w fun w =>
      wRes P TX t8 w fun r8 =>
      k (.tuple #[r8, (.int .i64 21)]) w) (
      wLoad P TX t10 w fun t57 w =>
      wStore P TX t8 t57 w fun w =>
      wRes P TX t8 w fun r8 =>
      k (.tuple #[r8, (.int .i64 0)]) w))
def G_readL (TX : TypeId) (a0 a1 a2 a3 : Value) (w : World) (k : Value → World → Prop) : Prop :=
  wBox P T_api_Sector a1 w fun t5 w =>
  wAlloc P TX w fun t10 w =>
  wLoad P T_api_Sector t5 w fun t17 w =>
  wCall P n_seal_Open [t17] w fun t18 w =>
  wExtract P t18 0 w fun t19 w =>
  wExtract P t18 1 w fun t20 w =>
  wExtract P t18 2 w fun t21 w =>
  wBin P .neq T_api_Errno t21 (.int .i64 0) w fun t23 w =>
  wGrp t23 false (fun k27 =>
    wBin P .neq T_uint8 t19 a0 w fun t27 w =>
    k27 t27 w) w fun _ t27 w =>
  wPick t23 (.bool true) t27 w fun t28 w =>
  wIf t28 (
    k (.tuple #[(.slice none 0 0), (.int .i64 21)]) w) (
    wBuild P T_codec_reader [(0, t20)] w fun t31 w =>
    wBox P T_codec_reader t31 w fun t32 w =>
    wIface P T_pcodec_reader t32 w fun t35 w =>
    wCallV P a2 [t35, t10] w fun _ w =>
    wNil P t32 w fun t38 w =>
    wFieldA P T_codec_reader t38 2 w fun t39 w =>
    wLoad P T_bool t39 w fun t40 w =>
    wGrp t40 false (fun k48 =>
      wNil P t32 w fun t43 w =>
      wFieldA P T_codec_reader t43 1 w fun t44 w =>
      wLoad P T_int t44 w fun t45 w =>
      wLen P .len #[T_Luint8] [t20] w fun t47 w =>
      wBin P .neq T_int t45 t47 w fun t48 w =>
      k48 t48 w) w fun _ t48 w =>
    wPick t40 (.bool true) t48 w fun t49 w =>
    wGrp t49 false (fun k54 =>
      wLoad P TX t10 w fun t52 w =>
      wCallV P a3 [t52] w fun t53 w =>
      wUn P .not t53 w fun t54 w =>
      k54 t54 w) w fun _ t54 w =>
    wPick t49 (.bool true) t54 w fun t55 w =>
    wIf t55 (
      k (.tuple #[(.slice none 0 0), (.int .i64 21)]) w) (
      wLoad P TX t10 w fun t57 w =>
      k (.tuple #[t57, (.int .i64 0)]) w))
theorem sealOp_len {s : List Nat} {kind : Nat} {body : List Nat} (h : sealOp s = some (kind, body)) : body.length ≤ 120 := (sealOp_some h).2.1
theorem sealOp_lt {s : List Nat} (hb : ∀ b ∈ s, b < 256) {kind : Nat} {body : List Nat} (h : sealOp s = some (kind, body)) : kind < 256 ∧ ∀ b ∈ body, b < 256 := by
  unfold sealOp at h
  split at h
  · cases h
  · split at h
    · injection h with h
      injection h with h1 h2
      subst h1; subst h2
      exact ⟨getD_lt hb 2, bodyS_lt hb⟩
    · cases h
/-- How many records a form that reads goes through. -/
theorem rd_count {ks : List IntKind} {ws : List Nat} (body : List Nat) (hw : ws.length = ks.length) (hpos : 0 < ws.sum) (hl : body.length ≤ 120) :
    ∃ N, N ≤ 121 ∧ (∀ i, i < N → rmore body (runRS (rstp body) ws (0, false) (List.replicate i (zs ks))) = true) ∧ rmore body (runRS (rstp body) ws (0, false) (List.replicate N (zs ks))) = false ∧
      ((recsOf ws body = none ∧ (runRS (rstp body) ws (0, false) (List.replicate N (zs ks))).2 = true) ∨
       (∃ rs, recsOf ws body = some rs ∧ runRS (rstp body) ws (0, false) (List.replicate N (zs ks)) = (body.length, false) ∧ runRV (rstp body) (rval body) ws (0, false) (List.replicate N (zs ks)) = rs)) := by
  have hne : ws ≠ [] := fun h => by rw [h] at hpos; simp at hpos
  have st : ∀ i, i * ws.sum ≤ body.length → runRS (rstp body) ws (0, false) (List.replicate i (zs ks)) = (i * ws.sum, false) ∧ runRV (rstp body) (rval body) ws (0, false) (List.replicate i (zs ks)) = decR ws body i := by
    intro i
    induction i with
    | zero => intro _; exact ⟨by simp [runRS], rfl⟩
    | succ i ih =>
      intro h
      rw [Nat.succ_mul] at h
      obtain ⟨h1, h2⟩ := ih (by omega)
      have hr := runS_r body ws (zs ks) (i * ws.sum, false) (by rw [hw, zs_length])
      refine ⟨?_, ?_⟩
      · rw [List.replicate_succ', runRS_snoc, h1]
        refine Prod.ext ?_ ?_
        · rw [hr.1, Nat.succ_mul]
        · cases hb : (runS (rstp body) (i * ws.sum, false) ws (zs ks)).2 with
          | false => rfl
          | true =>
            rcases hr.2.1 hb with h' | ⟨_, h'⟩
            · cases h'
            · exfalso; simp only at h'; omega
      · rw [List.replicate_succ', runRV_snoc, h1, h2, decR_snoc, runV_r body ws (zs ks) (i * ws.sum, false) (by rw [hw, zs_length]) (by simp only; omega)]
  have hdm := Nat.div_add_mod body.length ws.sum
  have hmod := Nat.mod_lt body.length hpos
  have hq : body.length / ws.sum ≤ body.length := Nat.div_le_self _ _
  have hmul : body.length / ws.sum * ws.sum = ws.sum * (body.length / ws.sum) := Nat.mul_comm _ _
  have more : ∀ i, i * ws.sum < body.length → rmore body (runRS (rstp body) ws (0, false) (List.replicate i (zs ks))) = true := by
    intro i hi
    rw [(st i (by omega)).1]
    simp [rmore, hi]
  by_cases h0 : body.length % ws.sum = 0
  · refine ⟨body.length / ws.sum, by omega, fun i hi => more i ?_, ?_, .inr ⟨decR ws body (body.length / ws.sum), ?_, ?_, ?_⟩⟩
    · have := Nat.mul_le_mul_right ws.sum (show i + 1 ≤ body.length / ws.sum by omega)
      rw [Nat.succ_mul] at this
      omega
    · rw [(st _ (by omega)).1]
      simp [rmore]; omega
    · unfold recsOf; rw [if_pos h0]
    · rw [(st _ (by omega)).1]
      congr 1
      omega
    · exact (st _ (by omega)).2
  · have hs := st (body.length / ws.sum) (by omega)
    have hr := runS_r body ws (zs ks) (body.length / ws.sum * ws.sum, false) (by rw [hw, zs_length])
    have hbad : (runRS (rstp body) ws (0, false) (List.replicate (body.length / ws.sum + 1) (zs ks))).2 = true := by
      rw [List.replicate_succ', runRS_snoc, hs.1]
      exact hr.2.2 (.inr ⟨hne, by simp only; omega⟩)
    refine ⟨body.length / ws.sum + 1, by omega, fun i hi => more i ?_, ?_, .inl ⟨by unfold recsOf; rw [if_neg h0], hbad⟩⟩
    · have := Nat.mul_le_mul_right ws.sum (show i ≤ body.length / ws.sum by omega)
      omega
    · unfold rmore
      rw [hbad]; rfl
section
variable {w : World}
theorem rd_new {bv : Value} {body : List Nat} {K : Value → World → Prop} (hO : Own w 0 T_uint8 1 bv (bvs body)) (hb : ∀ b ∈ body, b < 256) (hl : body.length ≤ 120)
    (hk : ∀ w' h, w.heap.size ≤ h → Ex [] w w' → RdS h body w' (0, false) (h :: bv.ownBlock.toList) → K (ptr h) w') :
    wBuild P T_codec_reader [(0, bv)] w fun t31 w => wBox P T_codec_reader t31 w K := by
  have hbc : bv.cells = ⟨[bv]⟩ := by
    obtain ⟨n, hl, h⟩ := hO
    rcases h with ⟨rfl, _⟩ | ⟨g, cap, cur, rfl, _⟩ <;> rfl
  rw [bl_T_codec_reader (cs := [bv, .int .i64 0, .bool false]) (by rw [fill_cons (off := 0) (size := 1) rfl hbc rfl (by simp)]; exact fill_nil)]
  refine box_i (vs := [bv, .int .i64 0, .bool false]) rfl fun w1 g1 hg1 hE1 B1 => ?_
  refine hk w1 g1 (by omega) hE1 ⟨bv, B1, (hO.ex0 hE1).slg, hb, by omega, fun g hg => ?_, rfl⟩
  have := (hO.blk hg).2.1
  have := B1.lt
  have := hE1.le
  exact ⟨by omega, by omega⟩
/-- A list of records is read. -/
theorem read_list {TL TE : TypeId} {n nl np nP : FuncId} {ks : List IntKind} {ws : List Nat} {kind : Nat} {a3 : Value} {s : List Nat} {m : List (List Int) → Bool} {k : Value → World → Prop} (hW : ∀ {a0 a1 a2 a3 : Value} {w : World} {k : Value → World → Prop}, G_readL TL a0 a1 a2 a3 w k → wCall P n [a0, a1, a2, a3] w k)
    (E : ElT TL TE ks) (hzL : zeroT P TL = some (.slice none 0 0)) (hL : ListC nl TL TE) (hP : PassC np ks ws) (hpL : ∀ {a0 a1 : Value} {w : World} {k : Value → World → Prop}, (wCall P nl [a0, a1, (.func (.func np) #[] #[])] w fun _ w => k (.tuple #[]) w) → wCall P nP [a0, a1] w k)
    (hw : ws.length = ks.length) (hws : 0 < ws.sum ∧ ws.sum ≤ 1000) (hs : s.length = 128) (hb : ∀ b ∈ s, b < 256) (hkd : kind < 256)
    (hmay : ∀ (w1 : World) (rs : List (List Int)) (v : Value) (base : Nat) (k1 : Value → World → Prop), Own w1 base TE ks.length v (rcs ks rs) → lenR ks rs → rs.length ≤ 1000 → (∀ w', Ex [] w1 w' → k1 (.bool (m rs)) w') → wCallV P a3 [v] w1 k1)
    (hbad : readL kind ws m s = none → ∀ w', Ex [] w w' → k (.tuple #[.slice none 0 0, .int .i64 21]) w')
    (hk : ∀ rs, readL kind ws m s = some rs → lenR ks rs → ∀ v w', Ex [] w w' → Own w' w.heap.size TE ks.length v (rcs ks rs) → k (.tuple #[v, .int .i64 0]) w') : wCall P n [.int .u8 (kind : Int), sv s, .func (.func nP) #[] #[], a3] w k := by
  refine hW ?_
  unfold G_readL
  refine box_i (sv_cells s) fun w1 g1 hg1 hE1 B1 => ?_
  refine alloc_i hzL (vs := [.slice none 0 0]) rfl fun w2 g2 hg2 hE2 B2 => ?_
  have l1 := hE1.le
  have l2 := hE2.le
  rw [ld_sector g_T_api_Sector hs (B1.ex hE2 (by simp))]
  refine seal_Open hs hb (fun hno w3 hE3 => ?_) (fun kd body hop bv w3 hE3 hO3 => ?_)
  · rw [ext_0, ext_1, ext_2, bin_neq]
    refine or_i (r := true) (fun h => absurd h (by simp)) ?_
    rw [Bool.or_true, wIf_t]
    exact hbad (by unfold readL; rw [hno]) w3 ((hE1.trans hE2).trans hE3)
  · have l3 := hE3.le
    have E3 : Ex [] w w3 := (hE1.trans hE2).trans hE3
    have hbl := sealOp_len hop
    have hbt := sealOp_lt hb hop
    rw [ext_0, ext_1, ext_2, bin_neq]
    refine or_i (r := decide (((kd : Nat) : Int) ≠ (kind : Int))) (fun _ k' hk' => by rw [bin_neq]; exact hk') ?_
    rw [show decide ((0 : Int) ≠ 0) = false from by decide, Bool.false_or]
    refine wIf_d (fun hne => ?_) (fun heq => ?_)
    · refine hbad ?_ w3 E3
      unfold readL
      rw [hop]
      simp only
      rw [if_neg (by omega)]
    · have hkk : kd = kind := by omega
      subst hkk
      refine rd_new (hO3.base (Nat.zero_le _)) hbt.2 hbl fun w4 h hh hE4 H4 => ?_
      have l4 := hE4.le
      rw [iface_i u_preader, callv_0]
      refine hpL ?_
      obtain ⟨N, hN, hm, hmN, hcase⟩ := rd_count (ks := ks) body hw hws.1 hbl
      have B24 := (B2.ex hE3 (by simp)).ex hE4 (by simp)
      have lt2 := B2.lt
      have hfp : ∀ x ∈ h :: bv.ownBlock.toList, w2.heap.size ≤ x := by
        intro x hx
        rcases List.mem_cons.1 hx with rfl | hx
        · omega
        · exact (hO3.newb x hx).1
      have hmul : N * ws.sum ≤ 121 * 1000 := Nat.mul_le_mul hN hws.2
      refine list_rd E hL hP H4 B24 (lo := 0) rfl (fun hmm => by have := hfp _ hmm; omega) hw (by omega) (by simp only; omega) hm hmN fun w5 v5 fp5 hE5 H5 hfp5 hv5 hO5 B5 => ?_
      have E5 : Ex [] w w5 := (E3.trans hE4).step hE5 fun x hx => by
        rcases List.mem_cons.1 hx with rfl | hx
        · exact .inr (by omega)
        · have := hfp x hx; exact .inr (by omega)
      have B5 : Blk w5 g2 TL [v5] := B5
      obtain ⟨bv', hBr, hSr, _, _, hner, _⟩ := H5
      have hlen : ∀ (K : Value → World → Prop), wLen P .len #[T_Luint8] [bv] w5 K = K (.int .i64 (body.length : Int)) w5 := by
        intro K
        obtain ⟨A, c, e⟩ := hO3.slice (by omega) (n := body.length) (by rw [bvs_length]; omega)
        rw [e, len_s u_T_Luint8]
      simp only [nil_ptr, fA_T_codec_reader_1, fA_T_codec_reader_2, Nat.zero_add]
      rw [ld_one o_T_bool (hBr.cell 2)]
      rcases hcase with ⟨hrec, hbd⟩ | ⟨rs, hrec, hst, hrv⟩
      · rw [hbd]
        refine or_i (r := true) (fun h => by cases h) ?_
        refine or_i (r := true) (fun h => by cases h) ?_
        rw [Bool.or_true, wIf_t]
        exact hbad (by simp [readL, hop, hrec]) w5 E5
      · rw [hst] at hBr ⊢
        rw [hrv] at hO5
        have hlr : lenR ks rs := by rw [← hrv]; exact lenR_runRV hw _ _ fun r hr => by rw [List.mem_replicate] at hr; rw [hr.2, zs_length]
        have hrn : rs.length ≤ 1000 := by rw [← hrv, runRV_length, List.length_replicate]; omega
        refine or_i (r := false) (fun _ k' hk' => ?_) ?_
        · rw [ld_one o_T_int (hBr.cell 1), hlen, bin_neq]
          simpa using hk'
        refine or_w (r := !(m rs)) (fun _ k' hk' => ?_) fun w6 hE6 => ?_
        · rw [ld_one E.o (B5.cell 0)]
          refine hmay w5 rs v5 _ _ hO5 hlr hrn fun w6 hE6 => ?_
          rw [un_not]
          exact hk' w6 hE6
        rw [Bool.false_or]
        refine wIf_i _ (fun hc => ?_) (fun hc => ?_)
        · have hc : m rs = false := by simpa using hc
          exact hbad (by simp [readL, hop, hrec, hc]) w6 (E5.trans hE6)
        · rw [ld_one E.o ((B5.ex hE6 (by simp)).cell 0)]
          have hc : m rs = true := by simpa using hc
          exact hk rs (by simp [readL, hop, hrec, hc]) hlr v5 w6 (E5.trans hE6) ((hO5.ex0 hE6).base (by omega))
end
end Go.Dn
end
section
/-! Records are read; what may be; the inode's pass. -/
set_option maxRecDepth 10000
set_option linter.unusedVariables false
set_option linter.unusedSimpArgs false
namespace Go.Dn
open Go
section
variable {w : World}
theorem st_all {k : World → Prop} {g : Nat} {u t : TypeId} {n : Nat} {cs vs : List Value} (hT : aggT P t n = true) (hl : vs.length = n) (hc : ∀ v ∈ vs, isC v = true) (B : Blk w g u cs) (hn : cs.length = n) (hk : ∀ w', Ex [g] w w' → Blk w' g u vs → k w') : wStore P t (ptr g) (.agg ⟨vs⟩) w k := by
  refine st_agg hT hl hc B (by omega) fun w' hE B' => hk w' hE ?_
  rw [splice_front hl (by omega), List.drop_of_length_le (by omega), List.append_nil] at B'
  exact B'
/-- A record is read. -/
theorem read_rec {TX : TypeId} {n np : FuncId} {ks : List IntKind} {ws : List Nat} {kind : Nat} {a3 : Value} {s : List Nat} {m : List Int → Bool} {k : Value → World → Prop} (hW : ∀ {a0 a1 a2 a3 : Value} {w : World} {k : Value → World → Prop}, G_readS TX a0 a1 a2 a3 w k → wCall P n [a0, a1, a2, a3] w k)
    (hT : aggT P TX ks.length = true) (hz : zeroT P TX = some (.agg ⟨rc ks (zs ks)⟩)) (hinz : inR ks (zs ks)) (hP : PassC np ks ws) (hw : ws.length = ks.length) (hws : 0 < ws.sum ∧ ws.sum ≤ 120) (hs : s.length = 128) (hb : ∀ b ∈ s, b < 256) (hkd : kind < 256)
    (hmay : ∀ (r : List Int) (w1 : World) (k1 : Value → World → Prop), r.length = ks.length → (∀ w', Ex [] w1 w' → k1 (.bool (m r)) w') → wCallV P a3 [.agg ⟨rc ks r⟩] w1 k1)
    (hbad : readR kind ws m s = none → ∀ w', Ex [] w w' → k (.tuple #[.agg ⟨rc ks (zs ks)⟩, .int .i64 21]) w')
    (hk : ∀ r, readR kind ws m s = some r → ∀ w', Ex [] w w' → k (.tuple #[.agg ⟨rc ks r⟩, .int .i64 0]) w') : wCall P n [.int .u8 (kind : Int), sv s, .func (.func np) #[] #[], a3] w k := by
  refine hW ?_
  unfold G_readS
  have hzl : (rc ks (zs ks)).length = ks.length := rc_length (zs_length ks)
  refine box_i (sv_cells s) fun w1 g1 hg1 hE1 B1 => ?_
  refine alloc_i hz (vs := rc ks (zs ks)) rfl fun w2 g2 hg2 hE2 B2 => ?_
  refine alloc_i hz (vs := rc ks (zs ks)) rfl fun w3 g3 hg3 hE3 B3 => ?_
  refine alloc_i hz (vs := rc ks (zs ks)) rfl fun w4 g4 hg4 hE4 B4 => ?_
  have l1 := hE1.le
  have l2 := hE2.le
  have l3 := hE3.le
  have l4 := hE4.le
  have lt1 := B1.lt
  have lt2 := B2.lt
  have lt3 := B3.lt
  have B24 := (B2.ex hE3 (by simp)).ex hE4 (by simp)
  have B34 := B3.ex hE4 (by simp)
  rw [ld_sector g_T_api_Sector hs (((B1.ex hE2 (by simp)).ex hE3 (by simp)).ex hE4 (by simp))]
  have E4 : Ex [] w w4 := ((hE1.trans hE2).trans hE3).trans hE4
  have out : ∀ w5 g r e, Ex [] w w5 → Blk w5 g2 TX (rc ks (zs ks)) → Blk w5 g TX (rc ks r) → r.length = ks.length → (∀ w', Ex [] w w' → k (.tuple #[.agg ⟨rc ks r⟩, .int .i64 e]) w') →
      (wLoad P TX (ptr g) w5 fun t29 w => wStore P TX (ptr g2) t29 w fun w => wRes P TX (ptr g2) w fun r8 => k (.tuple #[r8, (.int .i64 e)]) w) := by
    intro w5 g r e hE5 B5 Bg hr hk'
    rw [ld_aggT hT (rc_length hr) _ _ _ Bg]
    refine st_all hT (rc_length hr) (rc_isC _ _) B5 hzl fun w6 hE6 B6 => ?_
    refine res_agg hT B6.all (rc_length hr) ?_
    exact hk' w6 (hE5.new hE6 (by omega))
  refine seal_Open hs hb (fun hno w5 hE5 => ?_) (fun kd body hop bv w5 hE5 hO5 => ?_)
  · rw [ext_0, ext_1, ext_2, bin_neq]
    refine or_i (r := true) (fun h => absurd h (by simp)) ?_
    rw [Bool.or_true, wIf_t]
    exact out w5 g4 _ _ (E4.trans hE5) (B24.ex hE5 (by simp)) (B4.ex hE5 (by simp)) (zs_length ks) (hbad (by simp [readR, hno]))
  · have l5 := hE5.le
    have E5 : Ex [] w w5 := E4.trans hE5
    have hbl := sealOp_len hop
    have hbt := sealOp_lt hb hop
    have B25 := B24.ex hE5 (by simp)
    have B35 := B34.ex hE5 (by simp)
    have B45 := B4.ex hE5 (by simp)
    rw [ext_0, ext_1, ext_2, bin_neq]
    refine or_i (r := decide (((kd : Nat) : Int) ≠ (kind : Int))) (fun _ k' hk' => by rw [bin_neq]; exact hk') ?_
    rw [show decide ((0 : Int) ≠ 0) = false from by decide, Bool.false_or]
    refine wIf_d (fun hne => ?_) (fun heq => ?_)
    · have hne : kd ≠ kind := by omega
      exact out w5 g4 _ _ E5 B25 B45 (zs_length ks) (hbad (by simp [readR, hop, hne]))
    · have hkk : kd = kind := by omega
      subst hkk
      refine rd_new (hO5.base (Nat.zero_le _)) hbt.2 hbl fun w6 h hh hE6 H6 => ?_
      have l6 := hE6.le
      rw [iface_i u_preader, callv_0]
      have hfp : ∀ x ∈ h :: bv.ownBlock.toList, w4.heap.size ≤ x := by
        intro x hx
        rcases List.mem_cons.1 hx with rfl | hx
        · omega
        · exact (hO5.newb x hx).1
      refine hP (rform h body) (A := []) (C := []) H6 (by simpa using B35.ex hE6 (by simp)) (fun hmm => by have := hfp _ hmm; omega) (zs_length ks) hinz (show (0 : Nat) ≤ 900000 by omega) fun w7 fp7 hE7 H7 hfp7 B7 => ?_
      have l7 := hE7.le
      have lt4 := B4.lt
      have off : ∀ x, x < w4.heap.size → x ≠ g3 → x ∉ (g3 :: h :: bv.ownBlock.toList) := by
        intro x hx hne hmm
        rcases List.mem_cons.1 hmm with hmm | hmm
        · exact hne hmm
        · have := hfp x hmm; omega
      have E7 : Ex [] w w7 := (E5.trans hE6).step hE7 fun x hx => by
        rcases List.mem_cons.1 hx with rfl | hx
        · exact .inr (by omega)
        · have := hfp x hx; exact .inr (by omega)
      have hE7' : ∀ x, x < w4.heap.size → x ≠ g3 → ∀ {u cs}, Blk w6 x u cs → Blk w7 x u cs := fun x hx hne u cs B => B.ex hE7 (off x hx hne)
      have B27 := hE7' g2 (by omega) (by omega) (B25.ex hE6 (by simp))
      have B47 := hE7' g4 (by omega) (by omega) (B45.ex hE6 (by simp))
      have B7 : Blk w7 g3 TX (rc ks (runV (rstp body) (rval body) (0, false) ws (zs ks))) := by simp only [List.nil_append, List.append_nil] at B7; exact B7
      obtain ⟨bv', hBr, hSr, _, _, hner, _⟩ := H7
      have hlen : ∀ (K : Value → World → Prop), wLen P .len #[T_Luint8] [bv] w7 K = K (.int .i64 (body.length : Int)) w7 := by
        intro K
        obtain ⟨A, c, e⟩ := hO5.slice (by omega) (n := body.length) (by rw [bvs_length]; omega)
        rw [e, len_s u_T_Luint8]
      have hwz : ws.length = (zs ks).length := by rw [hw, zs_length]
      have hst := runS_r body ws (zs ks) (0, false) hwz
      simp only [Nat.zero_add] at hst
      have hBr : Blk w7 h T_codec_reader [bv', .int .i64 ((runS (rstp body) (0, false) ws (zs ks)).1 : Int), .bool (runS (rstp body) (0, false) ws (zs ks)).2] := hBr
      rw [hst.1] at hBr
      simp only [nil_ptr, fA_T_codec_reader_1, fA_T_codec_reader_2, Nat.zero_add]
      rw [ld_one o_T_bool (hBr.cell 2)]
      have hwne : ws ≠ [] := fun h => by rw [h] at hws; simp at hws
      have hbd : (runS (rstp body) (0, false) ws (zs ks)).2 = decide (body.length < ws.sum) := by
        rw [Bool.eq_iff_iff, hst.2, decide_eq_true_eq]
        simp [hwne]
      rw [hbd]
      refine or_i (r := decide ((ws.sum : Int) ≠ (body.length : Int))) (fun _ k' hk' => ?_) ?_
      · rw [ld_one o_T_int (hBr.cell 1), hlen, bin_neq]
        exact hk'
      have hcond : (decide (body.length < ws.sum) || decide ((ws.sum : Int) ≠ (body.length : Int))) = decide (body.length ≠ ws.sum) := by
        rw [Bool.eq_iff_iff]; simp; omega
      rw [hcond]
      by_cases heq : body.length = ws.sum
      · rw [decide_eq_false (by simpa using heq)]
        have hrv : runV (rstp body) (rval body) (0, false) ws (zs ks) = decF ws body := by
          have := runV_r body ws (zs ks) (0, false) hwz (by simp only; omega)
          simpa using this
        rw [hrv] at B7
        have hdl : (decF ws body).length = ks.length := by rw [decF_length, hw]
        refine or_w (r := !(m (decF ws body))) (fun _ k' hk' => ?_) fun w8 hE8 => ?_
        · rw [ld_aggT hT (rc_length hdl) _ _ _ B7]
          refine hmay _ w7 _ hdl fun w8 hE8 => ?_
          rw [un_not]
          exact hk' w8 hE8
        rw [Bool.false_or]
        refine wIf_i _ (fun hc => ?_) (fun hc => ?_)
        · have hc : m (decF ws body) = false := by simpa using hc
          exact out w8 g4 _ _ (E7.trans hE8) (B27.ex hE8 (by simp)) (B47.ex hE8 (by simp)) (zs_length ks) (hbad (by simp [readR, hop, hc]))
        · have hc : m (decF ws body) = true := by simpa using hc
          exact out w8 g3 _ _ (E7.trans hE8) (B27.ex hE8 (by simp)) (B7.ex hE8 (by simp)) hdl (hk _ (by simp [readR, hop, hc, heq]))
      · rw [decide_eq_true (by simpa using heq)]
        refine or_i (r := true) (fun h => by cases h) ?_
        rw [Bool.or_true, wIf_t]
        exact out w7 g4 _ _ E7 B27 B47 (zs_length ks) (hbad (by simp [readR, hop, heq]))
theorem codec_among {n a b : Int} {k : Value → World → Prop} (hk : k (.bool (decide (a ≤ n) && decide (n ≤ b))) w) : wCall P n_codec_among [.int .i64 n, .int .i64 a, .int .i64 b] w k := by
  refine call_codec_among _ _ _ ?_
  unfold F_codec_among
  simp only [bin_geq, bin_leq, and_p]
  exact hk
theorem rc_get {ks : List IntKind} {r : List Int} {j : Nat} (hr : r.length = ks.length) (hk : ks[j]? = some .i64) : (rc ks r)[j]? = some (.int .i64 (r.getD j 0)) := by
  have h1 := (List.getElem?_eq_some_iff.1 hk).1
  have h2 := (List.getElem?_eq_some_iff.1 hk).2
  unfold rc
  rw [List.getElem?_eq_getElem (by simp; omega), List.getElem_zipWith, h2, List.getD_eq_getElem?_getD, List.getElem?_eq_getElem (by omega)]
  rfl
/-- May a record be? Its j-th number is among two. -/
def mayB (j : Nat) (a b : Int) (r : List Int) : Bool := decide (a ≤ r.getD j 0) && decide (r.getD j 0 ≤ b)
theorem may_field {TX : TypeId} {ks : List IntKind} {j i : Nat} {a b : Int} {r : List Int} {k : Value → World → Prop} (hr : r.length = ks.length) (hkj : ks[j]? = some .i64) (hf : fldT P TX i = some j) (hk : ∀ w', Ex [] w w' → k (.bool (mayB j a b r)) w') :
    wBox P TX (.agg ⟨rc ks r⟩) w fun t1 w => wFieldA P TX t1 i w fun t3 w => wLoad P T_int t3 w fun t4 w => wCall P n_codec_among [t4, .int .i64 a, .int .i64 b] w fun t5 w => k t5 w := by
  refine box_i (vs := rc ks r) rfl fun w1 g1 hg1 hE1 B1 => ?_
  rw [fieldA_i hf, Nat.zero_add, ld_one o_T_int ((B1.cell j).trans (rc_get hr hkj))]
  exact codec_among (hk w1 hE1)
def G_each (TL TE TF : TypeId) (a0 a1 a2 : Value) (w : World) (k : Value → World → Prop) : Prop :=
  wJ0 (fun k1 =>
    wLen P .len #[TL] [a0] w fun t8 w =>
    wL1 (.int .i64 0) w (fun _ v9 w k2 =>
      wBin P .lss T_int v9 t8 w fun t10 w =>
      wIf t10 (
        wIndexA P TL a0 v9 w fun t11 w =>
        wLoad P TE t11 w fun t12 w =>
        wAlloc P TE w fun t6 w =>
        wStore P TE t6 t12 w fun w =>
        wLoad P TF a1 w fun t13 w =>
        wLoad P TE t6 w fun t14 w =>
        wCallV P t13 [t14] w fun t15 w =>
        wUn P .not t15 w fun t16 w =>
        wIf t16 (
          k (.bool false) w) (
          wBin P .add T_int v9 (.int .i64 1) w fun t17 w =>
          k2 t17 w)) (
        k1 w))) fun _ w =>
  wLen P .len #[TL] [a0] w fun t19 w =>
  wLoad P T_int a2 w fun t20 w =>
  wBin P .leq T_int t19 t20 w fun t21 w =>
  k t21 w
theorem rcs_elem {ks : List IntKind} {rs : List (List Int)} (hlen : lenR ks rs) {i : Nat} (h : i < rs.length) : ((rcs ks rs).drop (i * ks.length)).take ks.length = rc ks rs[i] := by
  have htl : lenR ks (rs.take i) := fun r hr => hlen r (List.mem_of_mem_take hr)
  have e : rcs ks rs = rcs ks (rs.take i) ++ (rc ks rs[i] ++ rcs ks (rs.drop (i + 1))) := by
    conv => lhs; rw [← List.take_append_drop i rs, List.drop_eq_getElem_cons h, rcs_append, rcs_cons]
  rw [e, List.drop_left' (by rw [rcs_length htl, List.length_take, Nat.min_eq_left (by omega)]), List.take_left' (rc_length (hlen _ (List.getElem_mem h)))]
theorem each_i {TL TE TF : TypeId} {ks : List IntKind} {v fv : Value} {g2 g3 : Nat} {most : Int} {rs : List (List Int)} {p : List Int → Bool} {k : Value → World → Prop} (E : ElT TL TE ks) (hoF : oneT P TF = true) (S : SlG w ks.length v (rcs ks rs)) (hlen : lenR ks rs) (hn : rs.length ≤ 1000000)
    (B3 : Blk w g3 TF [fv]) (B2 : Blk w g2 T_int [.int .i64 most]) (hp : ∀ r ∈ rs, ∀ (w1 : World) (k1 : Value → World → Prop), (∀ w', Ex [] w1 w' → k1 (.bool (p r)) w') → wCallV P fv [.agg ⟨rc ks r⟩] w1 k1)
    (hk : ∀ w', Ex [] w w' → k (.bool (rs.all p && decide ((rs.length : Int) ≤ most))) w') : G_each TL TE TF v (ptr g3) (ptr g2) w k := by
  unfold G_each
  refine j0_of (fun w' => Ex [] w w' ∧ rs.all p = true) (fun k1 hk1 => ?_) ?_
  · rw [S.len_i E.u E.pos (rcs_length hlen)]
    refine loop_up rs.length (fun i x w' => x = .int .i64 (i : Int) ∧ Ex [] w w' ∧ (rs.take i).all p = true) ⟨rfl, Ex.refl _ _, by simp⟩ ?_
    rintro i J x w1 k2 hi ⟨rfl, hE1, hall⟩ hk2
    rw [bin_lss]
    refine wIf_d (fun hlt => ?_) (fun hge => ?_)
    · have hlt : i < rs.length := by omega
      have hrl := hlen _ (List.getElem_mem hlt)
      refine (S.ex0 hE1).ix E.s E.pos (rcs_length hlen) (by omega) (by omega) fun b o hcs => ?_
      rw [Int.toNat_natCast, rcs_elem hlen hlt] at hcs
      rw [ld_agg E.g hcs (rc_length hrl)]
      refine alloc_i E.z (vs := rc ks (zs ks)) rfl fun w2 g6 hg6 hE2 B6 => ?_
      refine st_all E.g (rc_length hrl) (rc_isC _ _) B6 (rc_length (zs_length ks)) fun w3 hE3 B63 => ?_
      have l1 := hE1.le
      have E3 : Ex [] w1 w3 := hE2.new hE3 (by omega)
      rw [ld_one hoF (((B3.ex hE1 (by simp)).ex E3 (by simp)).cell 0), ld_aggT E.g (rc_length hrl) _ _ _ B63]
      refine hp _ (List.getElem_mem hlt) w3 _ fun w4 hE4 => ?_
      rw [un_not]
      have E4 := (hE1.trans E3).trans hE4
      refine wIf_i _ (fun hc => ?_) (fun hc => ?_)
      · have hc : p rs[i] = false := by simpa using hc
        have := hk w4 E4
        have hf : rs.all p = false := by
          rw [List.all_eq_false]
          exact ⟨rs[i], List.getElem_mem hlt, by simp [hc]⟩
        rw [hf, Bool.false_and] at this
        exact this
      · have hc : p rs[i] = true := by simpa using hc
        rw [bin_add (by omega)]
        refine hk2 _ _ (by omega) ⟨by simp, E4, ?_⟩
        rw [takeR hlt, List.all_append, hall]
        simp [hc]
    · obtain rfl : i = rs.length := by omega
      rw [List.take_length] at hall
      exact hk1 w1 ⟨hE1, hall⟩
  · rintro J w1 ⟨hE1, hall⟩
    rw [(S.ex0 hE1).len_i E.u E.pos (rcs_length hlen), ld_one o_T_int ((B2.ex hE1 (by simp)).cell 0), bin_leq]
    have := hk w1 hE1
    rw [hall, Bool.true_and] at this
    exact this
def LInode1 : List (IntKind × Nat × Nat) := [(.u32, 2, 0), (.u32, 4, 1), (.i64, 1, 2), (.i64, 4, 3), (.u32, 4, 4)]
def LInode2 : List (IntKind × Nat × Nat) := [(.i64, 4, 6), (.i64, 4, 7)]
theorem ok_LInode1 : fldOk T_codec_Inode 0 LInode1 := by unfold LInode1 fldOk; repeat' first | exact trivial | (refine ⟨by kernel_rfl, by (unfold widOk; decide), ?_⟩; unfold fldOk)
theorem ok_LInode2 : fldOk T_codec_Inode 13 LInode2 := by unfold LInode2 fldOk; repeat' first | exact trivial | (refine ⟨by kernel_rfl, by (unfold widOk; decide), ?_⟩; unfold fldOk)
def kInode : List IntKind := [.u32, .u32, .i64, .i64, .u32, .i64, .i64, .i64, .i64, .i64, .i64, .i64, .i64, .i64, .i64]
def wInode : List Nat := [2, 4, 1, 4, 4, 4, 4, 4, 4, 4, 4, 4, 4, 4, 4]
end
end Go.Dn
end
section
/-! The inode's pass; Write and Read of inodes, headers, slots, uses, records. -/
set_option maxRecDepth 10000
set_option linter.unusedVariables false
set_option linter.unusedSimpArgs false
namespace Go.Dn
open Go
def im (l : List Int) : List Value := l.map (Value.int .i64)
theorem rc_rep (n : Nat) (l : List Int) (h : l.length = n) : rc (List.replicate n .i64) l = im l := by
  subst h
  unfold rc im
  induction l with
  | nil => rfl
  | cons x l ih => simp only [List.length_cons, List.replicate_succ, List.zipWith_cons_cons, List.map_cons, ih]
theorem inR_split : ∀ (k1 k2 : List IntKind) (v1 v2 : List Int), v1.length = k1.length → inR (k1 ++ k2) (v1 ++ v2) → inR k1 v1 ∧ inR k2 v2
  | [], _, [], _, _, h => ⟨trivial, h⟩
  | k :: k1, k2, v :: v1, v2, hl, h => by
    obtain ⟨h1, h2⟩ := inR_split k1 k2 v1 v2 (by simpa using hl) h.2
    exact ⟨⟨h.1, h1⟩, h2⟩
  | [], _, _ :: _, _, hl, _ => by simp at hl
  | _ :: _, _, [], _, hl, _ => by simp at hl
theorem inR_rep : ∀ (n : Nat) (l : List Int), l.length = n → inR (List.replicate n .i64) l → ∀ x ∈ l, inR1 .i64 x
  | 0, [], _, _ => by simp
  | n + 1, v :: l, hl, h => by
    intro x hx
    rcases List.mem_cons.1 hx with rfl | hx
    · exact h.1
    · exact inR_rep n l (by simpa using hl) h.2 x hx
  | 0, _ :: _, hl, _ => by simp at hl
  | _ + 1, [], hl, _ => by simp at hl
theorem rc_append (k1 k2 : List IntKind) (v1 v2 : List Int) (h : v1.length = k1.length) : rc (k1 ++ k2) (v1 ++ v2) = rc k1 v1 ++ rc k2 v2 := by
  unfold rc
  rw [List.zipWith_append h.symm]
def P_inode (f a1 : Value) (w : World) (k : Value → World → Prop) : Prop :=
  passT f a1 T_codec_Inode LInode1 w fun w =>
  wJ0 (fun k1 =>
    wL1 (.int .i64 0) w (fun _ v45 w k2 =>
      wBin P .lss T_int v45 (.int .i64 8) w fun t46 w =>
      wIf t46 (
        wDraw w fun w =>
        wNil P a1 w fun t51 w =>
        wFieldA P T_codec_Inode t51 5 w fun t52 w =>
        wIndexA P T_A8int t52 v45 w fun t53 w =>
        wFunc P (.method (mname .i64)) [f] [] w fun t54 w =>
        wNil P t54 w fun _ w =>
        wInvoke P f (mname .i64) [(.int .i64 ((4 : Nat) : Int)), t53] w fun _ w =>
        wBin P .add T_int v45 (.int .i64 1) w fun t58 w =>
        k2 t58 w) (
        k1 w))) fun _ w =>
  passT f a1 T_codec_Inode LInode2 w fun w => k (.tuple #[]) w
theorem pass_Inode : PassC n_codec_passInode kInode wInode := by
  intro f F w s fp b t A C vs k H B hb hl hr hsz hk
  refine call_codec_passInode _ _ ?_
  show P_inode f (.pointer (some ⟨b, A.length, none⟩)) w k
  unfold P_inode
  have hkI : kInode = kindsOf LInode1 ++ (List.replicate 8 .i64 ++ kindsOf LInode2) := rfl
  have hwI : wInode = widsOf LInode1 ++ (List.replicate 8 4 ++ widsOf LInode2) := rfl
  have hl15 : vs.length = 15 := hl
  obtain ⟨v1, v2, v3, rfl, h1, h2, h3⟩ : ∃ v1 v2 v3, vs = v1 ++ (v2 ++ v3) ∧ v1.length = 5 ∧ v2.length = 8 ∧ v3.length = 2 := by
    refine ⟨vs.take 5, (vs.drop 5).take 8, (vs.drop 5).drop 8, ?_, by rw [List.length_take]; omega, by rw [List.length_take, List.length_drop]; omega, by rw [List.length_drop, List.length_drop]; omega⟩
    rw [List.take_append_drop, List.take_append_drop]
  rw [hkI] at B hr hk
  rw [hwI] at hk
  obtain ⟨hr1, hr23⟩ := inR_split _ _ _ _ h1 hr
  obtain ⟨hr2, hr3⟩ := inR_split _ _ _ _ (by simpa using h2) hr23
  rw [rc_append _ _ _ _ h1, rc_append _ _ _ _ (by simpa using h2), rc_rep 8 v2 h2] at B
  rw [runS_append _ _ _ _ _ _ (show (widsOf LInode1).length = v1.length from h1.symm), runS_append _ _ _ _ _ _ (show (List.replicate 8 4).length = v2.length from by rw [h2]; rfl),
    runV_append _ _ _ _ _ _ _ (show (widsOf LInode1).length = v1.length from h1.symm), runV_append _ _ _ _ _ _ _ (show (List.replicate 8 4).length = v2.length from by rw [h2]; rfl)] at hk
  refine passT_i F LInode1 0 A (im v2 ++ rc (kindsOf LInode2) v3 ++ C) v1 s fp w H (by simpa using B) hb rfl h1 hr1 ok_LInode1 (by have : (widsOf LInode1).sum = 15 := rfl; omega) fun w1 fp1 hE1 H1 hfp1 B1 => ?_
  generalize hs1 : runS F.stp s (widsOf LInode1) v1 = s1 at *
  generalize hx1 : runV F.stp F.val s (widsOf LInode1) v1 = x1 at *
  have hx1l : x1.length = 5 := by rw [← hx1, runV_length _ _ _ _ _ (show (widsOf LInode1).length = v1.length from h1.symm), h1]
  have hsz1 : F.sz s1 = F.sz s + 15 := by rw [← hs1, F_sz F _ _ _ (show (widsOf LInode1).length = v1.length from h1.symm)]; rfl
  have hbl : b < w.heap.size := B.lt
  have l1 := hE1.le
  have hfpE : ∀ {fpa : List Nat}, (∀ x ∈ fpa, x ∈ fp ∨ w.heap.size ≤ x) → b ∉ fpa := fun h hm => (h b hm).elim hb fun h => by omega
  have hstepE : ∀ {wa wb : World} {fpa : List Nat}, (∀ x ∈ fpa, x ∈ fp ∨ w.heap.size ≤ x) → Ex (b :: fp) w wa → Ex (b :: fpa) wa wb → Ex (b :: fp) w wb := fun h hE hE' => hE.step hE' fun x hx => by
    rcases List.mem_cons.1 hx with rfl | hx
    · exact .inl (by simp)
    · exact (h x hx).imp (by simp +contextual) id
  refine j0_of (fun w' => ∃ fp', Ex (b :: fp) w w' ∧ F.S w' (runS F.stp s1 (List.replicate 8 4) v2) fp' ∧ (∀ x ∈ fp', x ∈ fp ∨ w.heap.size ≤ x) ∧ Blk w' b t (A ++ rc (kindsOf LInode1) x1 ++ im (runV F.stp F.val s1 (List.replicate 8 4) v2) ++ (rc (kindsOf LInode2) v3 ++ C))) (fun k1 hk1 => ?_) ?_
  · refine loop_up 8 (fun i x w' => x = .int .i64 (i : Int) ∧ ∃ fp' m0 m1, v2 = m0 ++ m1 ∧ m0.length = i ∧ Ex (b :: fp) w w' ∧ F.S w' (runS F.stp s1 (List.replicate i 4) m0) fp' ∧ (∀ x ∈ fp', x ∈ fp ∨ w.heap.size ≤ x) ∧ Blk w' b t (A ++ rc (kindsOf LInode1) x1 ++ im (runV F.stp F.val s1 (List.replicate i 4) m0) ++ (im m1 ++ rc (kindsOf LInode2) v3 ++ C)))
      ⟨rfl, fp1, [], v2, rfl, rfl, hE1, H1, hfp1, by simpa [runV, im] using B1⟩ ?_
    rintro i J x w2 k2 hi ⟨rfl, fp2, m0, m1, hv2, hm0, hE2, H2, hfp2, B2⟩ hk2
    have l2 := hE2.le
    rw [bin_lss]
    refine wIf_d (fun hlt => ?_) (fun hge => ?_)
    · cases m1 with
      | nil => have := congrArg List.length hv2; simp at this; omega
      | cons n m1 =>
        have hrn : inR1 .i64 n := inR_rep 8 v2 h2 hr2 n (by rw [hv2]; simp)
        have hvl : (runV F.stp F.val s1 (List.replicate i 4) m0).length = i := by rw [runV_length _ _ _ _ _ (by simp [hm0]), hm0]
        have hszi : F.sz (runS F.stp s1 (List.replicate i 4) m0) = F.sz s + 15 + i * 4 := by rw [F_sz F _ _ _ (by simp [hm0]), hsz1]; simp
        refine draw_i fun w3 hE3 _ => ?_
        have l3 := hE3.le
        rw [nil_ptr, fA_T_codec_Inode_5, indexA_i a_T_A8int (by omega) (by omega)]
        refine F.asked hrn ?_
        have hA : (A ++ rc (kindsOf LInode1) x1 ++ im (runV F.stp F.val s1 (List.replicate i 4) m0)).length = A.length + 5 + (i : Int).toNat * 1 := by
          simp only [List.length_append, im, List.length_map, hvl]
          rw [rc_length (show x1.length = (kindsOf LInode1).length from hx1l)]
          simp [kindsOf, LInode1]
        have e : A ++ rc (kindsOf LInode1) x1 ++ im (runV F.stp F.val s1 (List.replicate i 4) m0) ++ (im (n :: m1) ++ rc (kindsOf LInode2) v3 ++ C) = (A ++ rc (kindsOf LInode1) x1 ++ im (runV F.stp F.val s1 (List.replicate i 4) m0)) ++ .int .i64 n :: (im m1 ++ rc (kindsOf LInode2) v3 ++ C) := by simp [im]
        rw [e] at B2
        refine F.go (F.ex H2 hE3 (by simp)) (B2.ex hE3 (by simp)) (hfpE hfp2) (get_mid hA) hrn (by unfold widOk; decide) (by omega) fun w4 fp4 hE4 H4 hfp4 B4 => ?_
        have hfp4' : ∀ x ∈ fp4, x ∈ fp ∨ w.heap.size ≤ x := fun x hx => (hfp4 x hx).elim (hfp2 x) fun h => .inr (by omega)
        rw [set_mid hA] at B4
        rw [bin_add (by omega)]
        refine hk2 _ _ (by omega) ⟨by simp, fp4, m0 ++ [n], m1, by simp [hv2], by simp [hm0], hstepE hfp2 (hE2.trans hE3.nil) hE4, ?_, hfp4', ?_⟩
        · rw [List.replicate_succ', runS_append _ _ _ _ _ _ (by simp [hm0])]
          exact H4
        · rw [List.replicate_succ', runV_append _ _ _ _ _ _ _ (by simp [hm0])]
          have : im (runV F.stp F.val s1 (List.replicate i 4) m0 ++ runV F.stp F.val (runS F.stp s1 (List.replicate i 4) m0) [4] [n]) = im (runV F.stp F.val s1 (List.replicate i 4) m0) ++ [.int .i64 (F.val (runS F.stp s1 (List.replicate i 4) m0) 4 n)] := by simp [im, runV]
          rw [this]
          simpa using B4
    · obtain rfl : i = 8 := by omega
      have hm1 : m1 = [] := List.eq_nil_of_length_eq_zero (by have := congrArg List.length hv2; simp at this; omega)
      subst hm1
      rw [List.append_nil] at hv2
      subst hv2
      exact hk1 w2 ⟨fp2, hE2, H2, hfp2, by simpa [im] using B2⟩
  rintro J w2 ⟨fp2, hE2, H2, hfp2, B2⟩
  have l2 := hE2.le
  generalize hs2 : runS F.stp s1 (List.replicate 8 4) v2 = s2 at *
  generalize hx2 : runV F.stp F.val s1 (List.replicate 8 4) v2 = x2 at *
  have hx2l : x2.length = 8 := by rw [← hx2, runV_length _ _ _ _ _ (by rw [h2]; rfl), h2]
  have hsz2 : F.sz s2 = F.sz s + 15 + 32 := by rw [← hs2, F_sz F _ _ _ (by rw [h2]; rfl), hsz1]; rfl
  refine passT_i F LInode2 13 (A ++ rc (kindsOf LInode1) x1 ++ im x2) C v3 s2 fp2 w2 H2 (by simpa using B2) (hfpE hfp2) ?_ h3 hr3 ok_LInode2 (by have : (widsOf LInode2).sum = 8 := rfl; omega) fun w3 fp3 hE3 H3 hfp3 B3 => ?_
  · simp only [List.length_append, im, List.length_map, hx2l]
    rw [rc_length (show x1.length = (kindsOf LInode1).length from hx1l)]
    simp [kindsOf, LInode1]
  · refine hk w3 fp3 (hstepE hfp2 hE2 hE3) H3 (fun x hx => (hfp3 x hx).elim (hfp2 x) fun h => .inr (by omega)) ?_
    rw [rc_append _ _ _ _ hx1l, rc_append _ _ _ _ (by simpa using hx2l), rc_rep 8 x2 hx2l]
    simpa using B3
end Go.Dn
end
section
/-! Contracts of codec's public functions: inodes, headers, slots, uses, records; printed by mkcodec.py. -/
set_option maxRecDepth 10000
set_option linter.unusedVariables false
set_option linter.unusedSimpArgs false
namespace Go.Dn
open Go
def mayL (p : List Int → Bool) (most : Nat) (rs : List (List Int)) : Bool := rs.all p && decide ((rs.length : Int) ≤ (most : Int))
def kHeader : List IntKind := [.u64, .u64, .i64, .i64, .i64, .u32]
def wHeader : List Nat := [8, 8, 2, 2, 2, 4]
def wSlot : List Nat := [4, 4, 2, 1]
def wUse : List Nat := [2, 1, 4]
def wRecord : List Nat := [2, 4, 2, 1]
def wdEntry : List Nat := [1, 2, 4, 2]
section
variable {w : World}
theorem wrV_len {o : Option (List Nat)} (h : ∀ s, o = some s → s.length = 128) : (o.getD zeroS).length = 128 := by
  cases o with
  | none => exact zeroS_length
  | some s => exact h s rfl
theorem writeR_len {kind : Nat} {ws : List Nat} {m : List Int → Bool} {r : List Int} : ∀ s, writeR kind ws m r = some s → s.length = 128 := by
  intro s h
  unfold writeR at h
  split at h
  · exact sealMk_len h
  · cases h
theorem writeL_len {kind : Nat} {ws : List Nat} {m : List (List Int) → Bool} {rs : List (List Int)} : ∀ s, writeL kind ws m rs = some s → s.length = 128 := by
  intro s h
  unfold writeL at h
  split at h
  · exact sealMk_len h
  · cases h
/-- The end of a writing function. -/
theorem wr_end {o : Option (List Nat)} {g : Nat} {k : Value → World → Prop} (h : ∀ s, o = some s → s.length = 128) (B : Blk w g T_api_Sector (List.replicate 128 (.int .u8 0))) (hk : ∀ w', Ex [g] w w' → k (wrV o) w') :
    wExtract P (wrV o) 0 w fun t6 w => wExtract P (wrV o) 1 w fun t7 w => wStore P T_api_Sector (ptr g) t6 w fun w => wRes P T_api_Sector (ptr g) w fun r2 => k (.tuple #[r2, t7]) w := by
  unfold wrV
  rw [ext_0, ext_1]
  refine st_sector g_T_api_Sector (wrV_len h) B List.length_replicate fun w1 hE1 B1 => ?_
  refine res_sector g_T_api_Sector (wrV_len h) B1 ?_
  exact hk w1 hE1

theorem may_Inode {r : List Int} {k : Value → World → Prop} (hr : r.length = kInode.length) (hk : ∀ w', Ex [] w w' → k (.bool ((mayB 2 1 2) r)) w') : wCallV P (.func (.func n_codec_mayInode) #[] #[]) [.agg ⟨rc kInode r⟩] w k := by
  rw [callv_0]
  refine call_codec_mayInode _ ?_
  exact may_field (j := 2) hr rfl (show fldT P T_codec_Inode 2 = some 2 by kernel_rfl) hk
theorem z_Inode : zeroT P T_codec_Inode = some (.agg ⟨rc kInode (zs kInode)⟩) := by kernel_rfl
theorem codec_WriteInode {r : List Int} {k : Value → World → Prop} (hr : r.length = kInode.length) (hin : inR kInode r) (hk : ∀ w', Ex [] w w' → k (wrV (writeR 2 wInode (mayB 2 1 2) r)) w') : wCall P n_codec_WriteInode [.agg ⟨rc kInode r⟩] w k := by
  refine call_codec_WriteInode _ ?_
  unfold F_codec_WriteInode
  refine box_i (vs := rc kInode r) rfl fun w1 g1 hg1 hE1 B1 => ?_
  refine alloc_i z_T_api_Sector (vs := List.replicate 128 (.int .u8 0)) rfl fun w2 g2 hg2 hE2 B2 => ?_
  have l1 := hE1.le
  rw [ld_aggT g_T_codec_Inode (rc_length hr) _ _ _ (B1.ex hE2 (by simp))]
  refine write_rec (ks := kInode) (ws := wInode) (kind := 2) (m := (mayB 2 1 2)) (fun h => call_codec_write_codec_Inode _ _ _ _ h) g_T_codec_Inode pass_Inode rfl (by decide) hr hin (by omega) (fun w1 k1 hk1 => may_Inode hr hk1) fun w3 hE3 => ?_
  refine wr_end writeR_len (B2.ex hE3 (by simp)) fun w4 hE4 => ?_
  exact hk w4 (((hE1.trans hE2).trans hE3).new hE4 (by omega))
theorem codec_ReadInode {s : List Nat} {k : Value → World → Prop} (hs : s.length = 128) (hb : ∀ b ∈ s, b < 256) (hbad : readR 2 wInode (mayB 2 1 2) s = none → ∀ w', Ex [] w w' → k (.tuple #[.agg ⟨rc kInode (zs kInode)⟩, .int .i64 21]) w')
    (hk : ∀ r, readR 2 wInode (mayB 2 1 2) s = some r → ∀ w', Ex [] w w' → k (.tuple #[.agg ⟨rc kInode r⟩, .int .i64 0]) w') : wCall P n_codec_ReadInode [sv s] w k := by
  refine call_codec_ReadInode _ ?_
  unfold F_codec_ReadInode
  refine box_i (sv_cells s) fun w1 g1 hg1 hE1 B1 => ?_
  refine alloc_i z_Inode (vs := rc kInode (zs kInode)) rfl fun w2 g2 hg2 hE2 B2 => ?_
  have l1 := hE1.le
  rw [ld_sector g_T_api_Sector hs (B1.ex hE2 (by simp))]
  have fin : ∀ r e w3, r.length = kInode.length → Ex [] w2 w3 → (∀ w', Ex [] w w' → k (.tuple #[.agg ⟨rc kInode r⟩, .int .i64 e]) w') →
      (wExtract P (.tuple #[.agg ⟨rc kInode r⟩, .int .i64 e]) 0 w3 fun t6 w => wExtract P (.tuple #[.agg ⟨rc kInode r⟩, .int .i64 e]) 1 w fun t7 w => wStore P T_codec_Inode (ptr g2) t6 w fun w => wRes P T_codec_Inode (ptr g2) w fun r2 => k (.tuple #[r2, t7]) w) := by
    intro r e w3 hr hE3 hk'
    rw [ext_0, ext_1]
    refine st_all g_T_codec_Inode (rc_length hr) (rc_isC _ _) (B2.ex hE3 (by simp)) (rc_length (zs_length _)) fun w4 hE4 B4 => ?_
    refine res_agg g_T_codec_Inode B4.all (rc_length hr) ?_
    exact hk' w4 (((hE1.trans hE2).trans hE3).new hE4 (by omega))
  have hlen : ∀ r, readR 2 wInode (mayB 2 1 2) s = some r → r.length = kInode.length := by
    intro r h
    unfold readR at h
    split at h
    · split at h
      · injection h with h; rw [← h, decF_length]; rfl
      · cases h
    · cases h
  exact read_rec (ks := kInode) (ws := wInode) (kind := 2) (m := (mayB 2 1 2)) (fun h => call_codec_read_codec_Inode _ _ _ _ h) g_T_codec_Inode z_Inode (by simp [inR, inR1, kInode, zs]) pass_Inode rfl (by decide) hs hb (by omega) (fun r w1 k1 hr hk1 => may_Inode hr hk1)
    (fun h w3 hE3 => fin _ _ w3 (zs_length _) hE3 (hbad h)) (fun r h w3 hE3 => fin _ _ w3 (hlen r h) hE3 (hk r h))

theorem may_Header {r : List Int} {k : Value → World → Prop} (hr : r.length = kHeader.length) (hk : ∀ w', Ex [] w w' → k (.bool ((fun _ => true) r)) w') : wCallV P (.func (.func n_codec_mayHeader) #[] #[]) [.agg ⟨rc kHeader r⟩] w k := by
  rw [callv_0]
  refine call_codec_mayHeader _ ?_
  unfold F_codec_mayHeader
  exact box_i (vs := rc kHeader r) rfl fun w1 _ _ hE1 _ => hk w1 hE1
theorem z_Header : zeroT P T_codec_Header = some (.agg ⟨rc kHeader (zs kHeader)⟩) := by kernel_rfl
theorem codec_WriteHeader {r : List Int} {k : Value → World → Prop} (hr : r.length = kHeader.length) (hin : inR kHeader r) (hk : ∀ w', Ex [] w w' → k (wrV (writeR 6 wHeader (fun _ => true) r)) w') : wCall P n_codec_WriteHeader [.agg ⟨rc kHeader r⟩] w k := by
  refine call_codec_WriteHeader _ ?_
  unfold F_codec_WriteHeader
  refine box_i (vs := rc kHeader r) rfl fun w1 g1 hg1 hE1 B1 => ?_
  refine alloc_i z_T_api_Sector (vs := List.replicate 128 (.int .u8 0)) rfl fun w2 g2 hg2 hE2 B2 => ?_
  have l1 := hE1.le
  rw [ld_aggT g_T_codec_Header (rc_length hr) _ _ _ (B1.ex hE2 (by simp))]
  refine write_rec (ks := kHeader) (ws := wHeader) (kind := 6) (m := (fun _ => true)) (fun h => call_codec_write_codec_Header _ _ _ _ h) g_T_codec_Header pass_Header rfl (by decide) hr hin (by omega) (fun w1 k1 hk1 => may_Header hr hk1) fun w3 hE3 => ?_
  refine wr_end writeR_len (B2.ex hE3 (by simp)) fun w4 hE4 => ?_
  exact hk w4 (((hE1.trans hE2).trans hE3).new hE4 (by omega))
theorem codec_ReadHeader {s : List Nat} {k : Value → World → Prop} (hs : s.length = 128) (hb : ∀ b ∈ s, b < 256) (hbad : readR 6 wHeader (fun _ => true) s = none → ∀ w', Ex [] w w' → k (.tuple #[.agg ⟨rc kHeader (zs kHeader)⟩, .int .i64 21]) w')
    (hk : ∀ r, readR 6 wHeader (fun _ => true) s = some r → ∀ w', Ex [] w w' → k (.tuple #[.agg ⟨rc kHeader r⟩, .int .i64 0]) w') : wCall P n_codec_ReadHeader [sv s] w k := by
  refine call_codec_ReadHeader _ ?_
  unfold F_codec_ReadHeader
  refine box_i (sv_cells s) fun w1 g1 hg1 hE1 B1 => ?_
  refine alloc_i z_Header (vs := rc kHeader (zs kHeader)) rfl fun w2 g2 hg2 hE2 B2 => ?_
  have l1 := hE1.le
  rw [ld_sector g_T_api_Sector hs (B1.ex hE2 (by simp))]
  have fin : ∀ r e w3, r.length = kHeader.length → Ex [] w2 w3 → (∀ w', Ex [] w w' → k (.tuple #[.agg ⟨rc kHeader r⟩, .int .i64 e]) w') →
      (wExtract P (.tuple #[.agg ⟨rc kHeader r⟩, .int .i64 e]) 0 w3 fun t6 w => wExtract P (.tuple #[.agg ⟨rc kHeader r⟩, .int .i64 e]) 1 w fun t7 w => wStore P T_codec_Header (ptr g2) t6 w fun w => wRes P T_codec_Header (ptr g2) w fun r2 => k (.tuple #[r2, t7]) w) := by
    intro r e w3 hr hE3 hk'
    rw [ext_0, ext_1]
    refine st_all g_T_codec_Header (rc_length hr) (rc_isC _ _) (B2.ex hE3 (by simp)) (rc_length (zs_length _)) fun w4 hE4 B4 => ?_
    refine res_agg g_T_codec_Header B4.all (rc_length hr) ?_
    exact hk' w4 (((hE1.trans hE2).trans hE3).new hE4 (by omega))
  have hlen : ∀ r, readR 6 wHeader (fun _ => true) s = some r → r.length = kHeader.length := by
    intro r h
    unfold readR at h
    split at h
    · split at h
      · injection h with h; rw [← h, decF_length]; rfl
      · cases h
    · cases h
  exact read_rec (ks := kHeader) (ws := wHeader) (kind := 6) (m := (fun _ => true)) (fun h => call_codec_read_codec_Header _ _ _ _ h) g_T_codec_Header z_Header (by simp [inR, inR1, kHeader, zs]) pass_Header rfl (by decide) hs hb (by omega) (fun r w1 k1 hr hk1 => may_Header hr hk1)
    (fun h w3 hE3 => fin _ _ w3 (zs_length _) hE3 (hbad h)) (fun r h w3 hE3 => fin _ _ w3 (hlen r h) hE3 (hk r h))

theorem may_Slots {v : Value} {rs : List (List Int)} {k : Value → World → Prop} (S : SlG w kSlot.length v (rcs kSlot rs)) (hlen : lenR kSlot rs) (hn : rs.length ≤ 1000000) (hk : ∀ w', Ex [] w w' → k (.bool ((mayL (mayB 3 0 2) 10) rs)) w') : wCallV P (.func (.func n_codec_maySlots) #[] #[]) [v] w k := by
  rw [callv_0]
  refine call_codec_maySlots _ ?_
  unfold F_codec_maySlots
  refine call_codec_each_codec_Slot _ _ ?_
  unfold F_codec_each_codec_Slot
  refine box_i (vs := [.int .i64 10]) rfl fun w1 g1 hg1 hE1 B1 => ?_
  refine box_i (vs := [.func (.func n_codec_maySlots_c1) #[] #[]]) rfl fun w2 g2 hg2 hE2 B2 => ?_
  rw [func_eq]
  dsimp only
  rw [callv_eq]
  refine call_codec_each_codec_Slot_c1 _ _ _ ?_
  refine each_i (TF := T_func_codec_Slot__bool) (most := 10) (p := mayB 3 0 2) el_Slot o_T_func_codec_Slot__bool ((S.ex0 hE1).ex0 hE2) hlen hn B2 (B1.ex hE2 (by simp)) (fun r hr w3 k3 hk3 => ?_) fun w3 hE3 => hk w3 ((hE1.trans hE2).trans hE3)
  rw [callv_0]
  refine call_codec_maySlots_c1 _ ?_
  exact may_field (j := 3) (hlen r hr) rfl (show fldT P T_codec_Slot 3 = some 3 by kernel_rfl) hk3
theorem codec_WriteSlots {v : Value} {rs : List (List Int)} {k : Value → World → Prop} (S : SlB w T_codec_Slot kSlot.length v (rcs kSlot rs)) (hlen : lenR kSlot rs) (hin : ∀ r ∈ rs, inR kSlot r) (hn : rs.length ≤ 1000) (hk : ∀ w', Ex [] w w' → k (wrV (writeL 4 wSlot (mayL (mayB 3 0 2) 10) rs)) w') : wCall P n_codec_WriteSlots [v] w k := by
  refine call_codec_WriteSlots _ ?_
  unfold F_codec_WriteSlots
  refine alloc_i z_T_api_Sector (vs := List.replicate 128 (.int .u8 0)) rfl fun w2 g2 hg2 hE2 B2 => ?_
  refine write_list (ks := kSlot) (ws := wSlot) (kind := 4) (m := (mayL (mayB 3 0 2) 10)) (fun h => call_codec_write_LLcodec_Slot _ _ _ _ h) el_Slot lc_Slot pass_Slot (fun h => call_codec_passSlots _ _ h) rfl (by decide) (S.ex0 hE2) hlen hin hn (by omega) (fun w1 k1 hS hk1 => may_Slots hS.slg hlen (by omega) hk1) fun w3 hE3 => ?_
  refine wr_end writeL_len (B2.ex hE3 (by simp)) fun w4 hE4 => ?_
  exact hk w4 ((hE2.trans hE3).new hE4 (by omega))
theorem codec_ReadSlots {s : List Nat} {k : Value → World → Prop} (hs : s.length = 128) (hb : ∀ b ∈ s, b < 256) (hbad : readL 4 wSlot (mayL (mayB 3 0 2) 10) s = none → ∀ w', Ex [] w w' → k (.tuple #[.slice none 0 0, .int .i64 21]) w')
    (hk : ∀ rs, readL 4 wSlot (mayL (mayB 3 0 2) 10) s = some rs → lenR kSlot rs → ∀ v w', Ex [] w w' → Own w' w.heap.size T_codec_Slot kSlot.length v (rcs kSlot rs) → k (.tuple #[v, .int .i64 0]) w') : wCall P n_codec_ReadSlots [sv s] w k := by
  refine call_codec_ReadSlots _ ?_
  unfold F_codec_ReadSlots
  refine box_i (sv_cells s) fun w1 g1 hg1 hE1 B1 => ?_
  have l1 := hE1.le
  rw [ld_sector g_T_api_Sector hs B1]
  refine read_list (ks := kSlot) (ws := wSlot) (kind := 4) (m := (mayL (mayB 3 0 2) 10)) (fun h => call_codec_read_LLcodec_Slot _ _ _ _ h) el_Slot z_T_Lcodec_Slot lc_Slot pass_Slot (fun h => call_codec_passSlots _ _ h) rfl (by decide) hs hb (by omega) (fun w1 rs v base k1 hO hlen hn hk1 => may_Slots hO.slg hlen (by omega) hk1)
    (fun h w3 hE3 => ?_) (fun rs h hl v w3 hE3 hO3 => ?_)
  · rw [ext_0, ext_1]; exact hbad h w3 (hE1.trans hE3)
  · rw [ext_0, ext_1]; exact hk rs h hl v w3 (hE1.trans hE3) (hO3.base (by omega))

theorem may_Uses {v : Value} {rs : List (List Int)} {k : Value → World → Prop} (S : SlG w kUse.length v (rcs kUse rs)) (hlen : lenR kUse rs) (hn : rs.length ≤ 1000000) (hk : ∀ w', Ex [] w w' → k (.bool ((mayL (mayB 1 0 3) 15) rs)) w') : wCallV P (.func (.func n_codec_mayUses) #[] #[]) [v] w k := by
  rw [callv_0]
  refine call_codec_mayUses _ ?_
  unfold F_codec_mayUses
  refine call_codec_each_codec_Use _ _ ?_
  unfold F_codec_each_codec_Use
  refine box_i (vs := [.int .i64 15]) rfl fun w1 g1 hg1 hE1 B1 => ?_
  refine box_i (vs := [.func (.func n_codec_mayUses_c1) #[] #[]]) rfl fun w2 g2 hg2 hE2 B2 => ?_
  rw [func_eq]
  dsimp only
  rw [callv_eq]
  refine call_codec_each_codec_Use_c1 _ _ _ ?_
  refine each_i (TF := T_func_codec_Use__bool) (most := 15) (p := mayB 1 0 3) el_Use o_T_func_codec_Use__bool ((S.ex0 hE1).ex0 hE2) hlen hn B2 (B1.ex hE2 (by simp)) (fun r hr w3 k3 hk3 => ?_) fun w3 hE3 => hk w3 ((hE1.trans hE2).trans hE3)
  rw [callv_0]
  refine call_codec_mayUses_c1 _ ?_
  exact may_field (j := 1) (hlen r hr) rfl (show fldT P T_codec_Use 1 = some 1 by kernel_rfl) hk3
theorem codec_WriteUses {v : Value} {rs : List (List Int)} {k : Value → World → Prop} (S : SlB w T_codec_Use kUse.length v (rcs kUse rs)) (hlen : lenR kUse rs) (hin : ∀ r ∈ rs, inR kUse r) (hn : rs.length ≤ 1000) (hk : ∀ w', Ex [] w w' → k (wrV (writeL 5 wUse (mayL (mayB 1 0 3) 15) rs)) w') : wCall P n_codec_WriteUses [v] w k := by
  refine call_codec_WriteUses _ ?_
  unfold F_codec_WriteUses
  refine alloc_i z_T_api_Sector (vs := List.replicate 128 (.int .u8 0)) rfl fun w2 g2 hg2 hE2 B2 => ?_
  refine write_list (ks := kUse) (ws := wUse) (kind := 5) (m := (mayL (mayB 1 0 3) 15)) (fun h => call_codec_write_LLcodec_Use _ _ _ _ h) el_Use lc_Use pass_Use (fun h => call_codec_passUses _ _ h) rfl (by decide) (S.ex0 hE2) hlen hin hn (by omega) (fun w1 k1 hS hk1 => may_Uses hS.slg hlen (by omega) hk1) fun w3 hE3 => ?_
  refine wr_end writeL_len (B2.ex hE3 (by simp)) fun w4 hE4 => ?_
  exact hk w4 ((hE2.trans hE3).new hE4 (by omega))
theorem codec_ReadUses {s : List Nat} {k : Value → World → Prop} (hs : s.length = 128) (hb : ∀ b ∈ s, b < 256) (hbad : readL 5 wUse (mayL (mayB 1 0 3) 15) s = none → ∀ w', Ex [] w w' → k (.tuple #[.slice none 0 0, .int .i64 21]) w')
    (hk : ∀ rs, readL 5 wUse (mayL (mayB 1 0 3) 15) s = some rs → lenR kUse rs → ∀ v w', Ex [] w w' → Own w' w.heap.size T_codec_Use kUse.length v (rcs kUse rs) → k (.tuple #[v, .int .i64 0]) w') : wCall P n_codec_ReadUses [sv s] w k := by
  refine call_codec_ReadUses _ ?_
  unfold F_codec_ReadUses
  refine box_i (sv_cells s) fun w1 g1 hg1 hE1 B1 => ?_
  have l1 := hE1.le
  rw [ld_sector g_T_api_Sector hs B1]
  refine read_list (ks := kUse) (ws := wUse) (kind := 5) (m := (mayL (mayB 1 0 3) 15)) (fun h => call_codec_read_LLcodec_Use _ _ _ _ h) el_Use z_T_Lcodec_Use lc_Use pass_Use (fun h => call_codec_passUses _ _ h) rfl (by decide) hs hb (by omega) (fun w1 rs v base k1 hO hlen hn hk1 => may_Uses hO.slg hlen (by omega) hk1)
    (fun h w3 hE3 => ?_) (fun rs h hl v w3 hE3 hO3 => ?_)
  · rw [ext_0, ext_1]; exact hbad h w3 (hE1.trans hE3)
  · rw [ext_0, ext_1]; exact hk rs h hl v w3 (hE1.trans hE3) (hO3.base (by omega))

theorem may_Records {v : Value} {rs : List (List Int)} {k : Value → World → Prop} (S : SlG w kRecord.length v (rcs kRecord rs)) (hlen : lenR kRecord rs) (hn : rs.length ≤ 1000000) (hk : ∀ w', Ex [] w w' → k (.bool ((mayL (mayB 3 0 2) 13) rs)) w') : wCallV P (.func (.func n_codec_mayRecords) #[] #[]) [v] w k := by
  rw [callv_0]
  refine call_codec_mayRecords _ ?_
  unfold F_codec_mayRecords
  refine call_codec_each_codec_Record _ _ ?_
  unfold F_codec_each_codec_Record
  refine box_i (vs := [.int .i64 13]) rfl fun w1 g1 hg1 hE1 B1 => ?_
  refine box_i (vs := [.func (.func n_codec_mayRecords_c1) #[] #[]]) rfl fun w2 g2 hg2 hE2 B2 => ?_
  rw [func_eq]
  dsimp only
  rw [callv_eq]
  refine call_codec_each_codec_Record_c1 _ _ _ ?_
  refine each_i (TF := T_func_codec_Record__bool) (most := 13) (p := mayB 3 0 2) el_Record o_T_func_codec_Record__bool ((S.ex0 hE1).ex0 hE2) hlen hn B2 (B1.ex hE2 (by simp)) (fun r hr w3 k3 hk3 => ?_) fun w3 hE3 => hk w3 ((hE1.trans hE2).trans hE3)
  rw [callv_0]
  refine call_codec_mayRecords_c1 _ ?_
  exact may_field (j := 3) (hlen r hr) rfl (show fldT P T_codec_Record 3 = some 3 by kernel_rfl) hk3
theorem codec_WriteRecords {v : Value} {rs : List (List Int)} {k : Value → World → Prop} (S : SlB w T_codec_Record kRecord.length v (rcs kRecord rs)) (hlen : lenR kRecord rs) (hin : ∀ r ∈ rs, inR kRecord r) (hn : rs.length ≤ 1000) (hk : ∀ w', Ex [] w w' → k (wrV (writeL 7 wRecord (mayL (mayB 3 0 2) 13) rs)) w') : wCall P n_codec_WriteRecords [v] w k := by
  refine call_codec_WriteRecords _ ?_
  unfold F_codec_WriteRecords
  refine alloc_i z_T_api_Sector (vs := List.replicate 128 (.int .u8 0)) rfl fun w2 g2 hg2 hE2 B2 => ?_
  refine write_list (ks := kRecord) (ws := wRecord) (kind := 7) (m := (mayL (mayB 3 0 2) 13)) (fun h => call_codec_write_LLcodec_Record _ _ _ _ h) el_Record lc_Record pass_Record (fun h => call_codec_passRecords _ _ h) rfl (by decide) (S.ex0 hE2) hlen hin hn (by omega) (fun w1 k1 hS hk1 => may_Records hS.slg hlen (by omega) hk1) fun w3 hE3 => ?_
  refine wr_end writeL_len (B2.ex hE3 (by simp)) fun w4 hE4 => ?_
  exact hk w4 ((hE2.trans hE3).new hE4 (by omega))
theorem codec_ReadRecords {s : List Nat} {k : Value → World → Prop} (hs : s.length = 128) (hb : ∀ b ∈ s, b < 256) (hbad : readL 7 wRecord (mayL (mayB 3 0 2) 13) s = none → ∀ w', Ex [] w w' → k (.tuple #[.slice none 0 0, .int .i64 21]) w')
    (hk : ∀ rs, readL 7 wRecord (mayL (mayB 3 0 2) 13) s = some rs → lenR kRecord rs → ∀ v w', Ex [] w w' → Own w' w.heap.size T_codec_Record kRecord.length v (rcs kRecord rs) → k (.tuple #[v, .int .i64 0]) w') : wCall P n_codec_ReadRecords [sv s] w k := by
  refine call_codec_ReadRecords _ ?_
  unfold F_codec_ReadRecords
  refine box_i (sv_cells s) fun w1 g1 hg1 hE1 B1 => ?_
  have l1 := hE1.le
  rw [ld_sector g_T_api_Sector hs B1]
  refine read_list (ks := kRecord) (ws := wRecord) (kind := 7) (m := (mayL (mayB 3 0 2) 13)) (fun h => call_codec_read_LLcodec_Record _ _ _ _ h) el_Record z_T_Lcodec_Record lc_Record pass_Record (fun h => call_codec_passRecords _ _ h) rfl (by decide) hs hb (by omega) (fun w1 rs v base k1 hO hlen hn hk1 => may_Records hO.slg hlen (by omega) hk1)
    (fun h w3 hE3 => ?_) (fun rs h hl v w3 hE3 hO3 => ?_)
  · rw [ext_0, ext_1]; exact hbad h w3 (hE1.trans hE3)
  · rw [ext_0, ext_1]; exact hk rs h hl v w3 (hE1.trans hE3) (hO3.base (by omega))

end
end Go.Dn
end
section
/-! Contracts of the reference of layer 5: Sealed, Opened. -/
set_option maxRecDepth 10000
set_option linter.unusedVariables false
set_option linter.unusedSimpArgs false
namespace Go.Dn
open Go
/-- What a function of the references hands back. -/
def wrB (o : Option (List Nat)) : Value := .tuple #[sv (o.getD zeroS), .bool o.isSome]
def fcs (fs : List (Nat × Int)) : List Value := fs.flatMap fun f => [.int .i64 (f.1 : Int), .int .i64 f.2]
def encP (fs : List (Nat × Int)) : List Nat := fs.flatMap fun f => low f.2.toNat f.1
def okP (fs : List (Nat × Int)) : Bool := fs.all fun f => okN f.1 f.2
theorem fcs_append (a b : List (Nat × Int)) : fcs (a ++ b) = fcs a ++ fcs b := by simp [fcs]
theorem fcs_length (fs : List (Nat × Int)) : (fcs fs).length = fs.length * 2 := by
  induction fs with
  | nil => rfl
  | cons f fs ih => show ([_, _] ++ fcs fs).length = _; rw [List.length_append, ih]; simp; omega
theorem fcs_isC (fs : List (Nat × Int)) : ∀ v ∈ fcs fs, isC v = true := by
  intro v hv
  obtain ⟨f, _, h⟩ := List.mem_flatMap.1 hv
  simp only [List.mem_cons, List.not_mem_nil, or_false] at h
  rcases h with rfl | rfl <;> rfl
theorem fcs_at {fs : List (Nat × Int)} {i : Nat} (h : i < fs.length) : ((fcs fs).drop (i * 2)).take 2 = [.int .i64 (fs[i].1 : Int), .int .i64 fs[i].2] := by
  have e : fcs fs = fcs (fs.take i) ++ ([.int .i64 (fs[i].1 : Int), .int .i64 fs[i].2] ++ fcs (fs.drop (i + 1))) := by
    conv => lhs; rw [← List.take_append_drop i fs, List.drop_eq_getElem_cons h, fcs_append]
    rfl
  rw [e, List.drop_left' (by rw [fcs_length, List.length_take, Nat.min_eq_left (by omega)])]
  rfl
theorem encP_append (a b : List (Nat × Int)) : encP (a ++ b) = encP a ++ encP b := by simp [encP]
theorem encP_zip : ∀ (ws : List Nat) (ns : List Int), encP (ws.zip ns) = encF ws ns
  | [], _ => rfl
  | _ :: _, [] => rfl
  | wd :: ws, n :: ns => by show low n.toNat wd ++ encP (ws.zip ns) = _; rw [encP_zip ws ns]; rfl
theorem okP_zip : ∀ (ws : List Nat) (ns : List Int), okP (ws.zip ns) = okNs ws ns
  | [], _ => rfl
  | _ :: _, [] => rfl
  | wd :: ws, n :: ns => by show (okN wd n && okP (ws.zip ns)) = _; rw [okP_zip ws ns]; rfl
def zipR (ws : List Nat) (rs : List (List Int)) : List (Nat × Int) := rs.flatMap fun r => ws.zip r
theorem encP_zipR (ws : List Nat) (rs : List (List Int)) : encP (zipR ws rs) = encR ws rs := by
  induction rs with
  | nil => rfl
  | cons r rs ih => show encP (ws.zip r ++ zipR ws rs) = encF ws r ++ encR ws rs; rw [encP_append, encP_zip, ih]
theorem okP_zipR (ws : List Nat) (rs : List (List Int)) : okP (zipR ws rs) = okR ws rs := by
  induction rs with
  | nil => rfl
  | cons r rs ih =>
    show okP (ws.zip r ++ zipR ws rs) = (okNs ws r && okR ws rs)
    rw [← ih, ← okP_zip]
    simp [okP]
theorem encP_take {fs : List (Nat × Int)} {i : Nat} (h : i < fs.length) : encP (fs.take (i + 1)) = encP (fs.take i) ++ low fs[i].2.toNat fs[i].1 := by
  rw [List.take_succ_eq_append_getElem h, encP_append]
  simp [encP]
theorem encP_lt (fs : List (Nat × Int)) : ∀ b ∈ encP fs, b < 256 := by
  intro b hb
  obtain ⟨f, _, h⟩ := List.mem_flatMap.1 hb
  exact low_lt _ _ b h
theorem encP_length {fs : List (Nat × Int)} (h : ∀ f ∈ fs, f.1 ≤ 8) : (encP fs).length ≤ fs.length * 8 := by
  induction fs with
  | nil => simp [encP]
  | cons f fs ih =>
    show (low f.2.toNat f.1 ++ encP fs).length ≤ _
    have := ih fun x hx => h x (List.mem_cons_of_mem _ hx)
    have := h f (List.mem_cons_self ..)
    rw [List.length_append, low_length, List.length_cons]; omega
section
variable {w : World}
theorem wrB_len {o : Option (List Nat)} (h : ∀ s, o = some s → s.length = 128) : (o.getD zeroS).length = 128 := by
  cases o with
  | none => exact zeroS_length
  | some s => exact h s rfl
theorem wrB_end {o : Option (List Nat)} {g : Nat} {k : Value → World → Prop} (h : ∀ s, o = some s → s.length = 128) (B : Blk w g T_A128uint8 (List.replicate 128 (.int .u8 0))) (hk : ∀ w', Ex [g] w w' → k (wrB o) w') :
    wExtract P (wrB o) 0 w fun t6 w => wExtract P (wrB o) 1 w fun t7 w => wStore P T_A128uint8 (ptr g) t6 w fun w => wRes P T_A128uint8 (ptr g) w fun r2 => k (.tuple #[r2, t7]) w := by
  unfold wrB
  rw [ext_0, ext_1]
  refine st_sector g_T_A128uint8 (wrB_len h) B List.length_replicate fun w1 hE1 B1 => ?_
  refine res_sector g_T_A128uint8 (wrB_len h) B1 ?_
  exact hk w1 hE1
theorem wrB_none {g : Nat} {k : Value → World → Prop} (B : Blk w g T_A128uint8 (List.replicate 128 (.int .u8 0))) (hk : ∀ w', Ex [g] w w' → k (wrB none) w') :
    wBuild P T_A128uint8 [] w fun t12 w => wStore P T_A128uint8 (ptr g) t12 w fun w => wRes P T_A128uint8 (ptr g) w fun r2 => k (.tuple #[r2, (.bool false)]) w := by
  rw [bl_zero_128]
  refine st_sector g_T_A128uint8 zeroS_length B List.length_replicate fun w1 hE1 B1 => ?_
  refine res_sector g_T_A128uint8 zeroS_length B1 ?_
  exact hk w1 hE1
theorem ref02_MakeB {kind : Nat} {v : Value} {body : List Nat} {k : Value → World → Prop} (S : SlG w 1 v (bvs body)) (hkd : kind < 256) (hb : ∀ b ∈ body, b < 256) (hl : body.length ≤ 1000000) (hk : ∀ w', Ex [] w w' → k (wrB (sealMk kind body)) w') :
    wCall P n_ref02_Make [.int .u8 (kind : Int), v] w k := by
  refine ref02_Make S hkd hb hl (fun hc w' hE => ?_) (fun h0 h1 w' hE => ?_)
  · have := hk w' hE
    unfold wrB sealMk at this
    rw [if_pos hc] at this
    exact this
  · have := hk w' hE
    unfold wrB sealMk at this
    rw [if_neg (by omega)] at this
    exact this
theorem conv_u64 {n : Int} (h : 0 ≤ n) (h1 : n ≤ 9223372036854775807) {K : Value → World → Prop} : wConv P T_int64 T_uint64 (.int .i64 n) w K = K (.int .u64 ((n.toNat : Nat) : Int)) w := by
  rw [conv_i i_T_int64 i_T_uint64, IntWalk.u64_in _ (by omega)]
  congr 2
  omega
theorem ref05_Sealed {kind : Nat} {v : Value} {fs : List (Nat × Int)} {k : Value → World → Prop} (S : SlG w 2 v (fcs fs)) (hkd : kind < 256) (hf : ∀ f ∈ fs, 1 ≤ f.1 ∧ f.1 ≤ 8 ∧ -9223372036854775808 ≤ f.2 ∧ f.2 ≤ 9223372036854775807) (hn : fs.length ≤ 10000)
    (hk : ∀ w', Ex [] w w' → k (wrB (if okP fs = true then sealMk kind (encP fs) else none)) w') : wCall P n_ref05_Sealed [.int .u8 (kind : Int), v] w k := by
  refine call_ref05_Sealed _ _ ?_
  unfold F_ref05_Sealed
  refine alloc_i z_T_A128uint8 (vs := List.replicate 128 (.int .u8 0)) rfl fun w1 g1 hg1 hE1 B1 => ?_
  have l1 := hE1.le
  refine j1_of (fun u w' => Ex [] w1 w' ∧ okP fs = true ∧ Own w' w1.heap.size T_uint8 1 u (bvs (encP fs))) (fun k1 hk1 => ?_) ?_
  · refine loop_up2 fs.length (fun i u x w' => x = .int .i64 (i : Int) ∧ Ex [] w1 w' ∧ okP (fs.take i) = true ∧ Own w' w1.heap.size T_uint8 1 u (bvs (encP (fs.take i)))) ⟨rfl, Ex.refl _ _, rfl, Own.nil _ _ _ _⟩ ?_
    rintro i J u x w2 k2 hi ⟨rfl, hE2, hok, hO⟩ hk2
    have S2 := (S.ex0 hE1).ex0 hE2
    have l2 := hE2.le
    rw [S2.len_i u_T_Lref05_Field (by omega) (fcs_length fs), bin_lss]
    refine wIf_d (fun hlt => ?_) (fun hge => ?_)
    · have hlt : i < fs.length := by omega
      obtain ⟨hw1, hw8, hn1, hn2⟩ := hf _ (List.getElem_mem hlt)
      generalize hfi : fs[i] = f at *
      have hel : ((fcs fs).drop (i * 2)).take 2 = [.int .i64 (f.1 : Int), .int .i64 f.2] := by rw [fcs_at hlt, hfi]
      refine draw_i fun w3 hE3 _ => ?_
      have S3 := S2.ex0 hE3
      have E3 := hE2.trans hE3
      have l3 := hE3.le
      have bad : ∀ wa, Ex [] w1 wa → (okN f.1 f.2 = false) → (wBuild P T_A128uint8 [] wa fun t35 w => wStore P T_A128uint8 (ptr g1) t35 w fun w => wRes P T_A128uint8 (ptr g1) w fun r4 => k (.tuple #[r4, (.bool false)]) w) := by
        intro wa hEa hno
        refine wrB_none (B1.ex hEa (by simp)) fun w' hE' => ?_
        have := hk w' ((hE1.trans hEa).new hE' (by omega))
        have hfl : okP fs = false := by
          unfold okP
          rw [List.all_eq_false]
          exact ⟨fs[i], List.getElem_mem hlt, by rw [hfi]; simp [hno]⟩
        rw [if_neg (by simp [hfl])] at this
        exact this
      refine S3.ix s_T_Lref05_Field (by omega) (fcs_length fs) (by omega) (by omega) fun b o hcs => ?_
      rw [Int.toNat_natCast, hel] at hcs
      have c1 := hcs 1 _ rfl
      rw [fA_T_ref05_Field_1, ld_one o_T_int64 c1, bin_lss]
      refine or_i (r := !(decide (f.2.toNat < 256 ^ f.1))) (fun hb k' hk' => ?_) ?_
      · have h0 : 0 ≤ f.2 := by simpa using hb
        refine S3.ix s_T_Lref05_Field (by omega) (fcs_length fs) (by omega) (by omega) fun b o hcs => ?_
        rw [Int.toNat_natCast, hel] at hcs
        have c0 : w3.cell? ⟨b, o, none⟩ = some (.int .i64 (f.1 : Int)) := hcs 0 _ rfl
        rw [fA_T_ref05_Field_0, ld_one o_T_int c0]
        refine S3.ix s_T_Lref05_Field (by omega) (fcs_length fs) (by omega) (by omega) fun b o hcs => ?_
        rw [Int.toNat_natCast, hel] at hcs
        have c1 := hcs 1 _ rfl
        rw [fA_T_ref05_Field_1, ld_one o_T_int64 c1, conv_u64 h0 hn2]
        refine ref01_Has (by omega) ?_
        rw [un_not]
        have e : (!decide (1 ≤ (f.1 : Int) ∧ (f.1 : Int) ≤ 8 ∧ f.2.toNat < 256 ^ (f.1 : Int).toNat)) = !decide (f.2.toNat < 256 ^ f.1) := by
          congr 1
          rw [Int.toNat_natCast, decide_eq_decide]
          constructor
          · exact fun h => h.2.2
          · exact fun h => ⟨by omega, by omega, h⟩
        rw [e]
        exact hk'
      refine wIf_i _ (fun hc => ?_) (fun hc => ?_)
      · refine bad w3 E3 ?_
        unfold okN
        by_cases h0 : f.2 < 0
        · rw [decide_eq_false (by omega), Bool.false_and]
        · rw [decide_eq_false h0, Bool.false_or] at hc
          rw [show decide (f.2.toNat < 256 ^ f.1) = false by simpa using hc, Bool.and_false]
      · simp only [Bool.or_eq_false_iff, decide_eq_false_iff_not, Bool.not_eq_false', decide_eq_true_eq] at hc
        have h0 : 0 ≤ f.2 := by omega
        have hokf : okN f.1 f.2 = true := by unfold okN; rw [decide_eq_true h0, decide_eq_true hc.2]; rfl
        refine draw_i fun w4 hE4 _ => ?_
        have S4 := S3.ex0 hE4
        have E4 := E3.trans hE4
        have l4 := hE4.le
        refine S4.ix s_T_Lref05_Field (by omega) (fcs_length fs) (by omega) (by omega) fun b o hcs => ?_
        rw [Int.toNat_natCast, hel] at hcs
        have c1 := hcs 1 _ rfl
        rw [fA_T_ref05_Field_1, ld_one o_T_int64 c1, conv_u64 h0 hn2]
        refine S4.ix s_T_Lref05_Field (by omega) (fcs_length fs) (by omega) (by omega) fun b o hcs => ?_
        rw [Int.toNat_natCast, hel] at hcs
        have c0 : w4.cell? ⟨b, o, none⟩ = some (.int .i64 (f.1 : Int)) := hcs 0 _ rfl
        rw [fA_T_ref05_Field_0, ld_one o_T_int c0]
        refine ref01_Low (by omega) (by omega) fun v5 w5 hE5 hO5 => ?_
        have l5 := hE5.le
        have hel2 : (encP (fs.take i)).length ≤ 80000 := by
          have := encP_length (fs := fs.take i) fun f hf' => (hf f (List.mem_of_mem_take hf')).2.1
          rw [List.length_take] at this
          omega
        refine app_T_Luint8 (n := (encP (fs.take i)).length) (m := f.1) (((hO.ex0 hE3).ex0 hE4).ex0 hE5) hO5.slg (by rw [bvs_length]; omega) (by rw [bvs_length, low_length]; omega) (bvs_isC _) (by omega) (by omega) fun v6 w6 hO6 hE6 _ => ?_
        rw [bin_add (by omega)]
        refine hk2 _ _ _ (by omega) ⟨by simp, (E4.trans hE5).step hE6 fun y hy => .inr (hO.newb y hy).1, ?_, ?_⟩
        · rw [List.take_succ_eq_append_getElem hlt, hfi]
          unfold okP at hok ⊢
          rw [List.all_append, hok]
          simp [hokf]
        · rw [encP_take hlt, hfi, bvs_append]
          exact hO6
    · obtain rfl : i = fs.length := by omega
      rw [List.take_length] at hok hO
      exact hk1 _ _ ⟨hE2, hok, hO⟩
  · rintro J u w2 ⟨hE2, hok, hO⟩
    have hel2 : (encP fs).length ≤ 80000 := by
      have := encP_length (fs := fs) fun f hf' => (hf f hf').2.1
      omega
    refine ref02_MakeB hO.slg hkd (encP_lt fs) (by omega) fun w3 hE3 => ?_
    refine wrB_end (fun s h => sealMk_len h) ((B1.ex hE2 (by simp)).ex hE3 (by simp)) fun w4 hE4 => ?_
    have := hk w4 (((hE1.trans hE2).trans hE3).new hE4 (by omega))
    rw [if_pos hok] at this
    exact this
end
end Go.Dn
end
section
/-! Contracts of the reference of layer 5: Opened. -/
set_option maxRecDepth 10000
set_option linter.unusedVariables false
set_option linter.unusedSimpArgs false
namespace Go.Dn
open Go
theorem decF_append : ∀ (w0 w1 : List Nat) (b : List Nat), decF (w0 ++ w1) b = decF w0 b ++ decF w1 (b.drop w0.sum)
  | [], w1, b => by simp [decF]
  | wd :: w0, w1, b => by
    simp only [List.cons_append, decF, List.sum_cons]
    rw [decF_append w0 w1, List.drop_drop]
theorem im_length (l : List Int) : (im l).length = l.length := by simp [im]
theorem im_append (a b : List Int) : im (a ++ b) = im a ++ im b := by simp [im]
theorem im_get {l : List Int} {i : Nat} {n : Int} (h : l[i]? = some n) : (im l)[i]? = some (.int .i64 n) := by simp [im, h]
theorem im_isC (l : List Int) : ∀ v ∈ im l, isC v = true := by
  intro v hv
  obtain ⟨n, _, rfl⟩ := List.mem_map.1 hv
  rfl
section
variable {w : World}
theorem push_i64 {base n : Nat} {v : Value} {xs : List Int} {b : Int} {K : Value → World → Prop} (ho : Own w base T_int64 1 v (im xs)) (hn : xs.length = n) (hb : n ≤ 1000000) (hba : base ≤ w.heap.size)
    (hk : ∀ v' w', Own w' base T_int64 1 v' (im (xs ++ [b])) → Ex v.ownBlock.toList w w' → K v' w') :
    wBuildS P T_Lint64 1 [(0, .int .i64 b)] w fun t w => wBuiltin P .append #[T_Lint64, T_Lint64] [v, t] w K := by
  refine buildS_1 u_T_Lint64 (sizeOf_one o_T_int64) z_T_int64 (by omega) rfl rfl rfl fun w1 g1 hg1 hE1 B1 => ?_
  have hle := hE1.le
  refine app_T_Lint64 (n := n) (m := 1) (ho.ex0 hE1) (SlG.of_cs B1.all (by simp) (Nat.le_refl _)) (by rw [im_length]; omega) (by simp) (by intro u hu; simp at hu; subst hu; rfl) (by omega) (by omega) fun v' w2 hO hE hv => ?_
  exact hk v' w2 (by rw [im_append]; exact hO) (hE1.nil.trans hE)
def openL (kind : Nat) (ws : List Nat) (s : List Nat) : Option (List (List Int)) :=
  match sealOp s with
  | some (k, body) => if k = kind then recsOf ws body else none
  | none => none
theorem ref05_Opened {kind : Nat} {v : Value} {ws : List Nat} {s : List Nat} {k : Value → World → Prop} (S : SlG w 1 v (ivs ws)) (hkd : kind < 256) (hs : s.length = 128) (hb : ∀ b ∈ s, b < 256) (hws : ∀ wd ∈ ws, 1 ≤ wd ∧ wd ≤ 4) (hne : ws ≠ []) (hwl : ws.length ≤ 100)
    (hbad : openL kind ws s = none → ∀ w', Ex [] w w' → k (.tuple #[.slice none 0 0, .bool false]) w')
    (hk : ∀ rs, openL kind ws s = some rs → rs.length ≤ 120 → ∀ v w', Ex [] w w' → Own w' w.heap.size T_int64 1 v (im rs.flatten) → k (.tuple #[v, .bool true]) w') : wCall P n_ref05_Opened [.int .u8 (kind : Int), sv s, v] w k := by
  refine call_ref05_Opened _ _ _ ?_
  unfold F_ref05_Opened
  refine box_i (sv_cells s) fun w1 g1 hg1 hE1 B1 => ?_
  have l1 := hE1.le
  rw [ld_sector g_T_A128uint8 hs B1]
  have hpos : 0 < ws.sum := by
    cases ws with
    | nil => exact absurd rfl hne
    | cons wd ws => have := (hws wd (List.mem_cons_self ..)).1; simp; omega
  refine ref02_Open hs hb (fun hno w2 hE2 => ?_) (fun kd body hop bv w2 hE2 hO2 => ?_)
  · rw [ext_0, ext_1, ext_2, un_not]
    refine or_i (r := true) (fun h => absurd h (by simp)) ?_
    rw [Bool.or_true, wIf_t]
    exact hbad (by simp [openL, hno]) w2 (hE1.trans hE2)
  · have l2 := hE2.le
    have E2 := hE1.trans hE2
    have hbl := sealOp_len hop
    have hbt := sealOp_lt hb hop
    rw [ext_0, ext_1, ext_2, un_not]
    refine or_i (r := decide (((kd : Nat) : Int) ≠ (kind : Int))) (fun _ k' hk' => by rw [bin_neq]; exact hk') ?_
    rw [show (!true) = false from rfl, Bool.false_or]
    refine wIf_d (fun hne' => ?_) (fun heq => ?_)
    · have hne' : kd ≠ kind := by omega
      exact hbad (by simp [openL, hop, hne']) w2 E2
    · have hkk : kd = kind := by omega
      subst hkk
      have S2 := S.ex0 E2
      obtain ⟨A, c, rfl⟩ := hO2.slice (by omega) (n := body.length) (by rw [bvs_length]; omega)
      have hdm := Nat.div_add_mod body.length ws.sum
      refine loop_m2 (n := body.length) (fun n u x w' => Ex [] w2 w' ∧ ∃ j, n = body.length - j * ws.sum ∧ j * ws.sum ≤ body.length ∧ x = .int .i64 ((j * ws.sum : Nat) : Int) ∧ Own w' w2.heap.size T_int64 1 u (im (decR ws body j).flatten)) ⟨Ex.refl _ _, 0, by simp, by simp, by simp, Own.nil _ _ _ _⟩ ?_
      rintro n J u x w3 k2 ⟨hE3, j, rfl, hj, rfl, hO3⟩ hk2
      have l3 := hE3.le
      have hjb : j ≤ j * ws.sum := Nat.le_mul_of_pos_right j hpos
      have hdl : (decR ws body j).flatten.length = j * ws.length := by
        have : ∀ (n : Nat) (b : List Nat), (decR ws b n).flatten.length = n * ws.length := by
          intro n
          induction n with
          | zero => intro b; simp [decR]
          | succ n ih => intro b; simp only [decR, List.flatten_cons, List.length_append, decF_length, ih, Nat.succ_mul]; omega
        exact this j body
      rw [len_s u_T_Luint8, bin_lss]
      refine wIf_d (fun hlt => ?_) (fun hge => ?_)
      · have hjl : j * ws.length ≤ 120 * 100 := Nat.mul_le_mul (by omega) hwl
        refine loop_m3 (n := ws.length) (fun n u x y w' => Ex [] w2 w' ∧ ∃ p0 p1, ws = p0 ++ p1 ∧ n = p1.length ∧ y = .int .i64 (p0.length : Int) ∧ x = .int .i64 ((j * ws.sum + p0.sum : Nat) : Int) ∧ j * ws.sum + p0.sum ≤ body.length ∧ Own w' w2.heap.size T_int64 1 u (im ((decR ws body j).flatten ++ decF p0 (body.drop (j * ws.sum)))))
          ⟨hE3, [], ws, rfl, rfl, rfl, by simp, by simpa using hj, by simpa [decF] using hO3⟩ ?_
        rintro n J u x y w4 k4 ⟨hE4, p0, p1, hpe, rfl, rfl, rfl, hle, hO4⟩ hk4
        have l4 := hE4.le
        have hpl : ws.length = p0.length + p1.length := by rw [hpe]; simp
        have hps : ws.sum = p0.sum + p1.sum := by rw [hpe]; simp
        have S4 := S2.ex0 hE4
        rw [S4.len_i u_T_Lint (by omega) (n := ws.length) (by rw [ivs_length]; omega), bin_lss]
        refine wIf_d (fun hl => ?_) (fun hg => ?_)
        · cases p1 with
          | nil => exfalso; simp at hpl; omega
          | cons wd p1 =>
            obtain ⟨hw1, hw4⟩ := hws wd (by rw [hpe]; simp)
            have hget : (ivs ws)[((p0.length : Nat) : Int).toNat]? = some (.int .i64 (wd : Int)) := by
              rw [Int.toNat_natCast]; exact ivs_get (by rw [hpe]; exact get_mid rfl)
            refine S4.ix1 s_T_Lint (by omega) hget fun a ha => ?_
            rw [ld_one o_T_int ha, bin_add (by omega), len_s u_T_Luint8, bin_gtr]
            simp only [List.sum_cons] at hps
            refine wIf_d (fun hgt => ?_) (fun hle2 => ?_)
            · refine hbad ?_ w4 (E2.trans hE4)
              have hnm : body.length % ws.sum ≠ 0 := by
                intro h0
                rw [h0, Nat.add_zero, Nat.mul_comm] at hdm
                generalize hq : body.length / ws.sum = q at hdm
                have h1 : j < q := by
                  rcases Nat.lt_or_ge j q with h | h
                  · exact h
                  · have := Nat.mul_le_mul_right ws.sum h; omega
                have h2 := Nat.mul_le_mul_right ws.sum (show j + 1 ≤ q from h1)
                rw [Nat.succ_mul] at h2
                omega
              simp [openL, hop, recsOf, hnm]
            · refine S4.ix1 s_T_Lint (by omega) hget fun a ha => ?_
              rw [ld_one o_T_int ha, bin_add (by omega), sliceS_lohi s_T_Luint8 (by omega) (by omega) (by
                obtain ⟨m, hml, hm⟩ := hO2
                rcases hm with ⟨h, _⟩ | ⟨g, cap, cur, h, _, _, hnc, _⟩
                · injection h with _ h2 h3; omega
                · injection h with _ h2 h3; omega)]
              have hsub := SlG.cut (i := j * ws.sum + p0.sum) (j := j * ws.sum + p0.sum + wd) ((hO2.slg).ex0 hE4) (by omega) (by omega)
              rw [Nat.mul_one, Nat.mul_one] at hsub
              have ebv : ((bvs body).drop (j * ws.sum + p0.sum)).take (j * ws.sum + p0.sum + wd - (j * ws.sum + p0.sum)) = bvs ((body.drop (j * ws.sum + p0.sum)).take wd) := by
                unfold bvs
                rw [← List.map_drop, ← List.map_take]
                congr 2
                omega
              rw [ebv] at hsub
              have hslen : ((body.drop (j * ws.sum + p0.sum)).take wd).length = wd := by rw [List.length_take, List.length_drop]; omega
              have hsb : ∀ b ∈ (body.drop (j * ws.sum + p0.sum)).take wd, b < 256 := fun b hb' => hbt.2 b (List.mem_of_mem_drop (List.mem_of_mem_take hb'))
              have hnl := numOf_lt _ hsb
              rw [hslen] at hnl
              have hp4 := pow256_4 hw4
              refine ref01_Num (bs := (body.drop (j * ws.sum + p0.sum)).take wd) ?_ hsb (by omega) ?_
              · have e1 : ((j * ws.sum + p0.sum : Nat) : Int).toNat = j * ws.sum + p0.sum := by omega
                have e2 : (((j * ws.sum + p0.sum : Nat) : Int) + (wd : Int)).toNat = j * ws.sum + p0.sum + wd := by omega
                rw [e1, e2]
                simpa using hsub
              rw [conv_i i_T_uint64 i_T_int64, IntWalk.i64_in _ (by omega)]
              have hcl : ((decR ws body j).flatten ++ decF p0 (body.drop (j * ws.sum))).length = j * ws.length + p0.length := by rw [List.length_append, hdl, decF_length]
              refine push_i64 hO4 hcl (by omega) (by omega) fun u' w5 hO5 hE5 => ?_
              have E5 : Ex [] w2 w5 := hE4.step hE5 fun y hy => .inr (hO4.newb y hy).1
              refine (S2.ex0 E5).ix1 s_T_Lint (by omega) hget fun a ha => ?_
              rw [ld_one o_T_int ha, bin_add (by omega), bin_add (by omega)]
              refine hk4 p1.length _ _ _ _ (by simp) ⟨E5, p0 ++ [wd], p1, by rw [hpe]; simp, rfl, by simp, by congr 1; simp; omega, by simp; omega, ?_⟩
              rw [decF_append]
              simp only [decF]
              rw [List.drop_drop, ← List.append_assoc]
              exact hO5
        · have hp1 : p1 = [] := List.eq_nil_of_length_eq_zero (by omega)
          subst hp1
          rw [List.append_nil] at hpe
          subst hpe
          refine hk2 (body.length - (j + 1) * ws.sum) _ _ _ (by rw [Nat.succ_mul]; omega) ⟨hE4, j + 1, rfl, by rw [Nat.succ_mul]; omega, by rw [Nat.succ_mul], ?_⟩
          rw [decR_snoc, List.flatten_append]
          simpa using hO4
      · have hjl : j * ws.sum = body.length := by omega
        have hm0 : body.length % ws.sum = 0 := by rw [← hjl]; exact Nat.mul_mod_left _ _
        have hq : body.length / ws.sum = j := by rw [← hjl]; exact Nat.mul_div_cancel _ hpos
        refine hk (decR ws body j) ?_ (by rw [decR_length]; omega) u w3 (E2.trans hE3) (hO3.base (by omega))
        simp [openL, hop, recsOf, hm0, hq]
end
end Go.Dn
end
section
/-! Contracts of the reference of layer 5: lists of slots, uses, records; printed by mkref05.py. -/
set_option maxRecDepth 10000
set_option linter.unusedVariables false
set_option linter.unusedSimpArgs false
namespace Go.Dn
open Go
theorem fill_recs {size : Nat} : ∀ (xs : List (List Value)) (cs : List Value) (i : Nat), (i + xs.length) * size = cs.length → (∀ x ∈ xs, x.length = size) →
    Instr.fill (fun i => some (i * size, size)) ⟨cs⟩ ((xs.zipIdx i).map fun p => (p.2, Value.agg ⟨p.1⟩)) = some ⟨cs.take (i * size) ++ xs.flatten⟩
  | [], cs, i, h, _ => by
    simp only [List.length_nil, Nat.add_zero] at h
    simp [List.take_of_length_le (show cs.length ≤ i * size by omega), Instr.fill]
  | x :: xs, cs, i, h, hx => by
    have hxl := hx x (List.mem_cons_self ..)
    simp only [List.zipIdx_cons, List.map_cons]
    simp only [List.length_cons] at h
    have hm : (i + (xs.length + 1)) * size = i * size + size + xs.length * size := by rw [Nat.add_mul, Nat.add_mul, Nat.one_mul]; omega
    have hsl : (splice cs (i * size) x).length = cs.length := splice_length (by omega)
    rw [fill_cons (vs := x) (off := i * size) (size := size) rfl rfl hxl (by omega), fill_recs xs _ (i + 1) (by rw [hsl, ← h]; congr 1; omega) fun y hy => hx y (List.mem_cons_of_mem _ hy)]
    congr 2
    unfold splice
    have e : (cs.take (i * size) ++ x).length = (i + 1) * size := by rw [List.length_append, List.length_take, hxl, Nat.succ_mul]; omega
    rw [List.take_append_of_le_length (by omega), List.take_of_length_le (by omega)]
    simp
section
variable {w : World} {K : Value → World → Prop}
/-- A slice literal of structs. -/
theorem buildS_recs {t e : TypeId} {z : Value} {n size : Nat} {xs : List (List Value)} {ps : List (Nat × Value)} (hps : ps = xs.zipIdx.map fun p => (p.2, Value.agg ⟨p.1⟩)) (hu : P.underlying t = some (.slice e)) (hsz : ∀ w, (sizeOf e).run P w = .ok size w) (hz : zeroT P e = some z)
    (hl : xs.length = n) (hn : n * size ≤ 16777216) (hx : ∀ x ∈ xs, x.length = size) (hk : ∀ w' g, g = w.heap.size → Ex [] w w' → Blk w' g e xs.flatten → K (.slice (some ⟨g, 0, none⟩) n n) w') : wBuildS P t n ps w K := by
  subst hps
  refine buildS_i hu hsz hz hn (cs := xs.flatten) ?_ hk
  generalize hc : (if n * size = 0 then #[] else (Array.range (n * size)).map (z.cells[· % z.cells.size]!)) = c
  have hcl : c.size = n * size := by
    rw [← hc]
    split
    · rename_i h; simp [h]
    · simp
  have := fill_recs (size := size) xs c.toList 0 (by simp [hl, hcl]) hx
  simpa using this
theorem bl_field {a b : Int} : wBuild P T_ref05_Field [(0, .int .i64 a), (1, .int .i64 b)] w K = K (.agg ⟨[.int .i64 a, .int .i64 b]⟩) w :=
  bl_T_ref05_Field (by rw [fill_cons (off := 0) (size := 1) rfl rfl rfl (by simp), fill_cons (off := 1) (size := 1) rfl rfl rfl (by simp [splice])]; rfl)
theorem conv_32_i64 {n : Int} (h : 0 ≤ n ∧ n < 4294967296) : wConv P T_uint32 T_int64 (.int .u32 n) w K = K (.int .i64 n) w := by
  rw [conv_i i_T_uint32 i_T_int64, IntWalk.i64_in _ (by omega)]
theorem conv_i64_32 {n : Int} (h : 0 ≤ n ∧ n < 4294967296) : wConv P T_int64 T_uint32 (.int .i64 n) w K = K (.int .u32 n) w := by
  rw [conv_i i_T_int64 i_T_uint32, IntWalk.u32_in _ (by omega)]
end
theorem flat_get {m : Nat} : ∀ (rs : List (List Int)) (j t : Nat) (r : List Int), (∀ r ∈ rs, r.length = m) → rs[j]? = some r → t < m → rs.flatten[j * m + t]? = r[t]?
  | [], j, t, r, _, h, _ => by simp at h
  | x :: rs, 0, t, r, hl, h, ht => by
    simp at h
    subst h
    have := hl x (List.mem_cons_self ..)
    rw [List.flatten_cons, Nat.zero_mul, Nat.zero_add, List.getElem?_append_left (by omega)]
  | x :: rs, j + 1, t, r, hl, h, ht => by
    have hx := hl x (List.mem_cons_self ..)
    rw [List.flatten_cons, List.getElem?_append_right (by rw [Nat.succ_mul]; omega), hx, show (j + 1) * m + t - m = j * m + t by rw [Nat.succ_mul]; omega]
    exact flat_get rs j t r (fun y hy => hl y (List.mem_cons_of_mem _ hy)) (by simpa using h) ht
theorem flat_length {m : Nat} : ∀ (rs : List (List Int)), (∀ r ∈ rs, r.length = m) → rs.flatten.length = rs.length * m
  | [], _ => by simp
  | x :: rs, h => by
    rw [List.flatten_cons, List.length_append, h x (List.mem_cons_self ..), flat_length rs fun y hy => h y (List.mem_cons_of_mem _ hy), List.length_cons, Nat.succ_mul]
    omega
theorem decR_ok (ws : List Nat) : ∀ (n : Nat) (b : List Nat), (∀ x ∈ b, x < 256) → n * ws.sum ≤ b.length → okR ws (decR ws b n) = true
  | 0, _, _, _ => rfl
  | n + 1, b, hb, hl => by
    rw [Nat.succ_mul] at hl
    show (okNs ws (decF ws b) && okR ws (decR ws (b.drop ws.sum) n)) = true
    rw [okFs_decF ws b hb (by omega), decR_ok ws n _ (fun x hx => hb x (List.mem_of_mem_drop hx)) (by rw [List.length_drop]; omega)]
    rfl
theorem recsOf_ok {ws body : List Nat} {rs : List (List Int)} (h : recsOf ws body = some rs) (hb : ∀ x ∈ body, x < 256) : wid ws rs ∧ okR ws rs = true := by
  unfold recsOf at h
  split at h
  · injection h with h
    subst h
    refine ⟨decR_wid ws _ _, decR_ok ws _ _ hb ?_⟩
    have := Nat.div_add_mod body.length ws.sum
    rw [Nat.mul_comm] at this
    omega
  · cases h
theorem openL_ok {kind : Nat} {ws s : List Nat} {rs : List (List Int)} (h : openL kind ws s = some rs) (hb : ∀ x ∈ s, x < 256) : wid ws rs ∧ okR ws rs = true := by
  unfold openL at h
  split at h
  · rename_i k body hop
    split at h
    · exact recsOf_ok h (sealOp_lt hb hop).2
    · cases h
  · cases h
theorem readL_open (kind : Nat) (ws : List Nat) (m : List (List Int) → Bool) (s : List Nat) : readL kind ws m s = match openL kind ws s with | some rs => if m rs = true then some rs else none | none => none := by
  unfold readL openL
  cases h : sealOp s with
  | none => rfl
  | some p =>
    obtain ⟨k, body⟩ := p
    simp only
    split <;> rfl
theorem inR_i64 : ∀ (ks : List IntKind) (r : List Int), (∀ k ∈ ks, k = .i64 ∨ k = .u32) → r.length = ks.length → inR ks r → ∀ n ∈ r, -9223372036854775808 ≤ n ∧ n ≤ 9223372036854775807
  | [], [], _, _, _ => by simp
  | k :: ks, n :: r, hk, hl, h => by
    intro x hx
    rcases List.mem_cons.1 hx with rfl | hx
    · rcases hk k (List.mem_cons_self ..) with rfl | rfl
      · exact h.1
      · have := h.1; unfold inR1 at this; omega
    · exact inR_i64 ks r (fun k hk' => hk k (List.mem_cons_of_mem _ hk')) (by simpa using hl) h.2 x hx
  | [], _ :: _, _, hl, _ => by simp at hl
  | _ :: _, [], _, hl, _ => by simp at hl
theorem zipR_ok {ks : List IntKind} {ws : List Nat} {rs : List (List Int)} (hk : ∀ k ∈ ks, k = .i64 ∨ k = .u32) (hw : ∀ wd ∈ ws, 1 ≤ wd ∧ wd ≤ 4) (hl : lenR ks rs) (hin : ∀ r ∈ rs, inR ks r) : ∀ f ∈ zipR ws rs, 1 ≤ f.1 ∧ f.1 ≤ 8 ∧ -9223372036854775808 ≤ f.2 ∧ f.2 ≤ 9223372036854775807 := by
  intro f hf
  obtain ⟨r, hr, h⟩ := List.mem_flatMap.1 hf
  have h1 := hw _ (List.of_mem_zip h).1
  have h2 := inR_i64 ks r hk (hl r hr) (hin r hr) _ (List.of_mem_zip h).2
  exact ⟨h1.1, by omega, h2.1, h2.2⟩
theorem zipR_length {ks : List IntKind} {ws : List Nat} (hw : ws.length = ks.length) : ∀ (rs : List (List Int)), lenR ks rs → (zipR ws rs).length = rs.length * ws.length
  | [], _ => by simp [zipR]
  | r :: rs, h => by
    show (ws.zip r ++ zipR ws rs).length = _
    rw [List.length_append, List.length_zip, h r (List.mem_cons_self ..), hw, zipR_length hw rs fun x hx => h x (List.mem_cons_of_mem _ hx), List.length_cons, Nat.succ_mul, hw]
    omega
theorem okN_rng {wd : Nat} {n : Int} (h : okN wd n = true) (hw : wd ≤ 4) : 0 ≤ n ∧ n < 4294967296 := by
  unfold okN at h
  simp only [Bool.and_eq_true, decide_eq_true_eq] at h
  have := pow256_4 hw
  omega
section
variable {w : World}

theorem el_rSlot : ElT T_Lref05_Slot T_ref05_Slot kSlot :=
  ⟨u_T_Lref05_Slot, s_T_Lref05_Slot, o_T_Lref05_Slot, g_T_ref05_Slot, z_T_ref05_Slot, fun w => sizeOf_agg g_T_ref05_Slot w, by decide, by decide, by simp [inR, inR1, kSlot, zs], fun ho hy hn hm hc hb hba hk => app_T_Lref05_Slot ho hy hn hm hc (by omega) hba hk⟩
theorem ref05_WriteSlots {v : Value} {rs : List (List Int)} {k : Value → World → Prop} (S : SlG w 4 v (rcs kSlot rs)) (hlen : lenR kSlot rs) (hin : ∀ r ∈ rs, inR kSlot r) (hn : rs.length ≤ 1000) (hk : ∀ w', Ex [] w w' → k (wrB (writeL 4 wSlot (mayL (mayB 3 0 2) 10) rs)) w') : wCall P n_ref05_WriteSlots [v] w k := by
  refine call_ref05_WriteSlots _ ?_
  unfold F_ref05_WriteSlots
  refine alloc_i z_T_A128uint8 (vs := List.replicate 128 (.int .u8 0)) rfl fun w1 g1 hg1 hE1 B1 => ?_
  have l1 := hE1.le
  have bad : ∀ wa, Ex [] w1 wa → ((mayL (mayB 3 0 2) 10) rs = false) → (wBuild P T_A128uint8 [] wa fun t35 w => wStore P T_A128uint8 (ptr g1) t35 w fun w => wRes P T_A128uint8 (ptr g1) w fun r4 => k (.tuple #[r4, (.bool false)]) w) := by
    intro wa hEa hno
    refine wrB_none (B1.ex hEa (by simp)) fun w' hE' => ?_
    have := hk w' ((hE1.trans hEa).new hE' (by omega))
    unfold writeL at this
    rw [if_neg (by simp [hno])] at this
    exact this
  refine j1_of (fun u w' => Ex [] w1 w' ∧ rs.all (mayB 3 0 2) = true ∧ Own w' w1.heap.size T_ref05_Field 2 u (fcs (zipR wSlot rs))) (fun k1 hk1 => ?_) ?_
  · refine loop_up2 rs.length (fun i u x w' => x = .int .i64 (i : Int) ∧ Ex [] w1 w' ∧ (rs.take i).all (mayB 3 0 2) = true ∧ Own w' w1.heap.size T_ref05_Field 2 u (fcs (zipR wSlot (rs.take i)))) ⟨rfl, Ex.refl _ _, rfl, Own.nil _ _ _ _⟩ ?_
    rintro i J u x w2 k2 hi ⟨rfl, hE2, hall, hO⟩ hk2
    have S2 := (S.ex0 hE1).ex0 hE2
    have l2 := hE2.le
    rw [S2.len_i u_T_Lref05_Slot (by omega) (rcs_length hlen), bin_lss]
    refine wIf_d (fun hlt => ?_) (fun hge => ?_)
    · have hlt : i < rs.length := by omega
      have hrl : rs[i].length = 4 := hlen _ (List.getElem_mem hlt)
      have hinr := hin _ (List.getElem_mem hlt)
      refine S2.ix s_T_Lref05_Slot (by omega) (rcs_length hlen) (by omega) (by omega) fun b o hcs => ?_
      rw [Int.toNat_natCast] at hcs
      have hcs := (rcs_elem (ks := kSlot) hlen hlt) ▸ hcs
      rw [ld_agg g_T_ref05_Slot hcs (rc_length hrl)]
      refine alloc_i z_T_ref05_Slot (vs := rc kSlot (zs kSlot)) rfl fun w3 g6 hg6 hE3 B6 => ?_
      refine st_all g_T_ref05_Slot (rc_length hrl) (rc_isC _ _) B6 (rc_length (zs_length kSlot)) fun w4 hE4 B6 => ?_
      have E4 : Ex [] w1 w4 := hE2.trans (hE3.new hE4 (by omega))
      have l4 := E4.le
      obtain ⟨a, b, c, d, hrr⟩ : ∃ a b c d, rs[i] = [a, b, c, d] := by
        match h : rs[i], hrl with
        | [a, b, c, d], _ => exact ⟨_, _, _, _, rfl⟩
      have hmr : mayB 3 0 2 rs[i] = (decide (0 ≤ d) && decide (d ≤ 2)) := by rw [hrr]; rfl
      rw [hrr] at B6 hinr
      have B6 : Blk w4 g6 T_ref05_Slot [.int .i64 a, .int .u32 b, .int .i64 c, .int .i64 d] := B6
      have hin1 : 0 ≤ b ∧ b < 4294967296 := hinr.2.1
      rw [fA_T_ref05_Slot_3, ld_one o_T_int (B6.cell 3 : _ = some (.int .i64 d)), bin_lss]
      refine or_i (r := decide ((2 : Int) < d)) (fun _ k' hk' => ?_) ?_
      · rw [fA_T_ref05_Slot_3, ld_one o_T_int (B6.cell 3 : _ = some (.int .i64 d)), bin_gtr]
        exact hk'
      refine wIf_i _ (fun hc => ?_) (fun hc => ?_)
      · refine bad w4 E4 ?_
        have hf : rs.all (mayB 3 0 2) = false := by
          rw [List.all_eq_false]
          refine ⟨rs[i], List.getElem_mem hlt, ?_⟩
          rw [hmr]
          simp only [Bool.or_eq_true, decide_eq_true_eq] at hc
          simp only [Bool.and_eq_true, decide_eq_true_eq]
          omega
        unfold mayL
        rw [hf, Bool.false_and]
      · have hmt : mayB 3 0 2 rs[i] = true := by
          rw [hmr]
          simp only [Bool.or_eq_false_iff, decide_eq_false_iff_not] at hc
          simp only [Bool.and_eq_true, decide_eq_true_eq]
          omega
        rw [fA_T_ref05_Slot_0, ld_one o_T_int (B6.cell 0 : _ = some (.int .i64 a)), bl_field, fA_T_ref05_Slot_1, ld_one o_T_uint32 (B6.cell 1 : _ = some (.int .u32 b)), conv_32_i64 hin1, bl_field, fA_T_ref05_Slot_2, ld_one o_T_int (B6.cell 2 : _ = some (.int .i64 c)), bl_field, fA_T_ref05_Slot_3, ld_one o_T_int (B6.cell 3 : _ = some (.int .i64 d)), bl_field]
        refine buildS_recs (size := 2) (n := 4) (xs := [[.int .i64 4, .int .i64 a], [.int .i64 4, .int .i64 b], [.int .i64 2, .int .i64 c], [.int .i64 1, .int .i64 d]]) rfl u_T_Lref05_Field (fun w => sizeOf_agg g_T_ref05_Field w) z_T_ref05_Field rfl (by omega) (by simp) fun w5 g7 hg7 hE5 B7 => ?_
        have l5 := hE5.le
        have htl : lenR kSlot (rs.take i) := fun r hr => hlen r (List.mem_of_mem_take hr)
        have hzl : (zipR wSlot (rs.take i)).length = i * 4 := by rw [zipR_length (ks := kSlot) rfl _ htl, List.length_take, Nat.min_eq_left (by omega)]; rfl
        have hO4 := (hO.ex0 (hE3.new hE4 (by omega))).ex0 hE5
        refine app_T_Lref05_Field (n := i * 4) (m := 4) hO4 (SlG.of_cs B7.all rfl (Nat.le_refl _)) (by rw [fcs_length, hzl]) rfl (fcs_isC [(4, a), (4, b), (2, c), (1, d)]) (by omega) (by omega) fun v6 w6 hO6 hE6 _ => ?_
        rw [bin_add (by omega)]
        refine hk2 _ _ _ (by omega) ⟨by simp, (E4.trans hE5).step hE6 fun y hy => .inr (hO.newb y hy).1, ?_, ?_⟩
        · rw [takeR hlt, List.all_append, hall]
          simp [hmt]
        · have : fcs (zipR wSlot (rs.take (i + 1))) = fcs (zipR wSlot (rs.take i)) ++ fcs [(4, a), (4, b), (2, c), (1, d)] := by
            rw [takeR hlt, hrr, ← fcs_append]
            congr 1
            simp [zipR, wSlot]
          rw [this]
          exact hO6
    · obtain rfl : i = rs.length := by omega
      rw [List.take_length] at hall hO
      exact hk1 _ _ ⟨hE2, hall, hO⟩
  · rintro J u w2 ⟨hE2, hall, hO⟩
    rw [((S.ex0 hE1).ex0 hE2).len_i u_T_Lref05_Slot (by omega) (rcs_length hlen), bin_gtr]
    refine wIf_d (fun hgt => ?_) (fun hle => ?_)
    · refine bad w2 hE2 ?_
      unfold mayL
      rw [decide_eq_false (by omega), Bool.and_false]
    · have hm : (mayL (mayB 3 0 2) 10) rs = true := by
        unfold mayL
        rw [hall, decide_eq_true (by omega)]
        rfl
      have hzl : (zipR wSlot rs).length = rs.length * 4 := zipR_length (ks := kSlot) rfl _ hlen
      refine ref05_Sealed (kind := 4) hO.slg (by omega) (zipR_ok (ks := kSlot) (by decide) (by decide) hlen hin) (by omega) fun w3 hE3 => ?_
      have hs128 : ∀ s, (if okP (zipR wSlot rs) = true then sealMk 4 (encP (zipR wSlot rs)) else none) = some s → s.length = 128 := by
        intro s h
        split at h
        · exact sealMk_len h
        · cases h
      refine wrB_end hs128 ((B1.ex hE2 (by simp)).ex hE3 (by simp)) fun w4 hE4 => ?_
      have := hk w4 (((hE1.trans hE2).trans hE3).new hE4 (by omega))
      unfold writeL at this
      rw [okP_zipR, encP_zipR]
      simpa [hm] using this

theorem ref05_ReadSlots {s : List Nat} {k : Value → World → Prop} (hs : s.length = 128) (hb : ∀ b ∈ s, b < 256) (hbad : readL 4 wSlot (mayL (mayB 3 0 2) 10) s = none → ∀ w', Ex [] w w' → k (.tuple #[.slice none 0 0, .bool false]) w')
    (hk : ∀ rs, readL 4 wSlot (mayL (mayB 3 0 2) 10) s = some rs → lenR kSlot rs → ∀ v w', Ex [] w w' → Own w' w.heap.size T_ref05_Slot 4 v (rcs kSlot rs) → k (.tuple #[v, .bool true]) w') : wCall P n_ref05_ReadSlots [sv s] w k := by
  refine call_ref05_ReadSlots _ ?_
  unfold F_ref05_ReadSlots
  refine box_i (sv_cells s) fun w1 g1 hg1 hE1 B1 => ?_
  have l1 := hE1.le
  rw [ld_sector g_T_A128uint8 hs B1]
  refine buildS_ones (xs := ivs wSlot) rfl u_T_Lint o_T_int z_T_int rfl rfl (by omega) (fun x hx => by obtain ⟨n, _, rfl⟩ := List.mem_map.1 hx; rfl) fun w2 g2 hg2 hE2 B2 => ?_
  have l2 := hE2.le
  have E2 := hE1.trans hE2
  refine ref05_Opened (kind := 4) (ws := wSlot) (SlG.of_cs B2.all rfl (Nat.le_refl _)) (by omega) hs hb (by decide) (by decide) (by decide) (fun hno w3 hE3 => ?_) (fun rs hop hrn v12 w3 hE3 hO3 => ?_)
  · rw [ext_0, ext_1]
    refine j2_of (fun a b w' => w3 = w' ∧ a = .bool false ∧ b = .slice none 0 0) (fun k1 hk1 => ?_) ?_
    · refine loop_up3 0 (fun i a b c w' => w3 = w' ∧ a = .bool false ∧ b = .slice none 0 0 ∧ c = .int .i64 0) ⟨rfl, rfl, rfl, rfl⟩ ?_
      rintro i J a b c w4 k2 hi ⟨rfl, rfl, rfl, rfl⟩ _
      rw [bin_add (by omega), len_s u_T_Lint64, bin_lss, wIf_df (by omega)]
      exact hk1 _ _ _ ⟨rfl, rfl, rfl⟩
    · rintro J a b w4 ⟨rfl, rfl, rfl⟩
      rw [un_not]
      refine or_i (r := true) (fun h => absurd h (by simp)) ?_
      rw [Bool.or_true, wIf_t]
      exact hbad (by rw [readL_open, hno]) w3 (E2.trans hE3)
  · rw [ext_0, ext_1]
    have l3 := hE3.le
    have E3 := E2.trans hE3
    obtain ⟨hwid, hokR⟩ := openL_ok hop hb
    have hlen : lenR kSlot rs := fun r hr => (hwid r hr).symm
    have hfl : rs.flatten.length = rs.length * 4 := flat_length rs fun r hr => (hwid r hr).symm
    refine j2_of (fun a b w' => Ex [] w3 w' ∧ a = .bool (rs.all (mayB 3 0 2)) ∧ Own w' w3.heap.size T_ref05_Slot 4 b (rcs kSlot rs)) (fun k1 hk1 => ?_) ?_
    · refine loop_up3 rs.length (fun i a b c w' => c = .int .i64 ((i * 4 : Nat) : Int) ∧ Ex [] w3 w' ∧ a = .bool ((rs.take i).all (mayB 3 0 2)) ∧ Own w' w3.heap.size T_ref05_Slot 4 b (rcs kSlot (rs.take i))) ⟨rfl, Ex.refl _ _, rfl, Own.nil _ _ _ _⟩ ?_
      rintro i J a b c w4 k2 hi ⟨rfl, hE4, rfl, hO4⟩ hk2
      have l4 := hE4.le
      rw [bin_add (by omega), (hO3.slg.ex0 hE4).len_i u_T_Lint64 (by omega) (n := rs.length * 4) (by rw [im_length, hfl, Nat.mul_one]), bin_lss]
      refine wIf_d (fun hlt => ?_) (fun hge => ?_)
      · have hlt : i < rs.length := by omega
        have hrl : rs[i].length = 4 := hlen _ (List.getElem_mem hlt)
        have hokr : okNs wSlot rs[i] = true := by
          unfold okR at hokR
          exact List.all_eq_true.1 hokR _ (List.getElem_mem hlt)
        obtain ⟨a, b, c, d, hrr⟩ : ∃ a b c d, rs[i] = [a, b, c, d] := by
          match h : rs[i], hrl with
          | [a, b, c, d], _ => exact ⟨_, _, _, _, rfl⟩
        rw [hrr] at hokr
        have hokr : okN 4 a = true ∧ okN 4 b = true ∧ okN 2 c = true ∧ okN 1 d = true := by simpa [okNs, wSlot, and_assoc] using hokr
        obtain ⟨hok0, hok1, hok2, hok3⟩ := hokr
        have hr0 : 0 ≤ a ∧ a < 4294967296 := okN_rng hok0 (by omega)
        have hr1 : 0 ≤ b ∧ b < 4294967296 := okN_rng hok1 (by omega)
        have hr2 : 0 ≤ c ∧ c < 4294967296 := okN_rng hok2 (by omega)
        have hr3 : 0 ≤ d ∧ d < 4294967296 := okN_rng hok3 (by omega)
        have hmr : mayB 3 0 2 rs[i] = decide (d ≤ 2) := by
          rw [hrr]
          show (decide (0 ≤ d) && decide (d ≤ 2)) = _
          rw [decide_eq_true (by omega), Bool.true_and]
        have hix : ∀ {wa : World} (t : Nat) (x : Int), t < 4 → [a, b, c, d][t]? = some x → ∀ (z : Int), z = ((i * 4 + t : Nat) : Int) → Ex [] w3 wa → ∀ (K : Value → World → Prop), (∀ a, wa.cell? a = some (.int .i64 x) → K (.pointer (some a)) wa) → wIndexA P T_Lint64 v12 (.int .i64 z) wa K := by
          intro wa t x ht hx z hz hEa K hK
          subst hz
          refine (hO3.slg.ex0 hEa).ix1 s_T_Lint64 (by omega) (x := .int .i64 x) ?_ hK
          rw [Int.toNat_natCast]
          refine im_get ?_
          rw [flat_get (m := 4) rs i t rs[i] (fun r hr => (hwid r hr).symm) (List.getElem?_eq_getElem hlt) ht, hrr]
          exact hx
        refine draw_i fun w5 hE5 _ => ?_
        have E5 := hE4.trans hE5
        have l5 := E5.le
        refine hix 0 a (by omega) rfl _ (by omega) E5 _ fun a0 ha0 => ?_
        rw [ld_one o_T_int64 ha0]
        rw [bin_add (by omega)]
        refine hix 1 b (by omega) rfl _ (by omega) E5 _ fun a1 ha1 => ?_
        rw [ld_one o_T_int64 ha1, conv_i64_32 hr1]
        rw [bin_add (by omega)]
        refine hix 2 c (by omega) rfl _ (by omega) E5 _ fun a2 ha2 => ?_
        rw [ld_one o_T_int64 ha2]
        rw [bin_add (by omega)]
        refine hix 3 d (by omega) rfl _ (by omega) E5 _ fun a3 ha3 => ?_
        rw [ld_one o_T_int64 ha3]
        rw [bl_T_ref05_Slot (cs := rc kSlot [a, b, c, d]) (by rw [fill_cons (off := 0) (size := 1) rfl rfl rfl (by simp [splice]), fill_cons (off := 1) (size := 1) rfl rfl rfl (by simp [splice]), fill_cons (off := 2) (size := 1) rfl rfl rfl (by simp [splice]), fill_cons (off := 3) (size := 1) rfl rfl rfl (by simp [splice])]; rfl)]
        refine buildS_1 (xs := rc kSlot [a, b, c, d]) (size := 4) u_T_Lref05_Slot (fun w => sizeOf_agg g_T_ref05_Slot w) z_T_ref05_Slot (by omega) rfl rfl rfl fun w6 g6 hg6 hE6 B6 => ?_
        have l6 := hE6.le
        have htl : lenR kSlot (rs.take i) := fun r hr => hlen r (List.mem_of_mem_take hr)
        refine app_T_Lref05_Slot (n := i) (m := 1) ((hO4.ex0 hE5).ex0 hE6) (SlG.of_cs B6.all rfl (Nat.le_refl _)) (by rw [rcs_length htl, List.length_take, Nat.min_eq_left (by omega)]; rfl) rfl (rc_isC _ _) (by omega) (by omega) fun b' w7 hO7 hE7 _ => ?_
        have E7 : Ex [] w3 w7 := (E5.trans hE6).step hE7 fun y hy => .inr (hO4.newb y hy).1
        have fin : ∀ wa, Ex [] w7 wa → k2 (.bool ((rs.take i).all (mayB 3 0 2) && decide (d ≤ 2))) b' (.int .i64 (((i * 4 : Nat) : Int) + 4)) wa := by
          intro wa hEa
          refine hk2 _ _ _ _ (by omega) ⟨by congr 1; omega, E7.trans hEa, ?_, ?_⟩
          · rw [takeR hlt, List.all_append, ← hmr]; simp
          · rw [takeR hlt, rcs_append, rcs_one, hrr]; exact hO7.ex0 hEa
        refine and_i (r := decide (d ≤ 2)) (fun _ k' hk' => ?_) ?_
        · rw [bin_add (by omega)]
          refine hix 3 d (by omega) rfl _ (by omega) E7 _ fun a ha => ?_
          rw [ld_one o_T_int64 ha, bin_leq]
          exact hk'
        rw [bin_add (by omega)]
        exact fin w7 (Ex.refl _ _)
      · obtain rfl : i = rs.length := by omega
        rw [List.take_length] at hO4 ⊢
        exact hk1 _ _ _ ⟨hE4, rfl, hO4⟩
    · rintro J a b w4 ⟨hE4, rfl, hO4⟩
      have l4 := hE4.le
      rw [un_not]
      refine or_i (r := decide ((10 : Int) < rs.length)) (fun _ k' hk' => ?_) ?_
      · rw [hO4.slg.len_i u_T_Lref05_Slot (by omega) (rcs_length hlen), bin_gtr]
        exact hk'
      refine wIf_i _ (fun hc => ?_) (fun hc => ?_)
      · have hm : (mayL (mayB 3 0 2) 10) rs = false := by
          unfold mayL
          cases ha : rs.all (mayB 3 0 2) with
          | false => rfl
          | true => rw [ha] at hc; simp at hc; simp; omega
        exact hbad (by rw [readL_open, hop]; simp [hm]) w4 (E3.trans hE4)
      · have hm : (mayL (mayB 3 0 2) 10) rs = true := by
          unfold mayL
          cases ha : rs.all (mayB 3 0 2) with
          | false => rw [ha] at hc; simp at hc
          | true => rw [ha] at hc; simp at hc; simp; omega
        exact hk rs (by rw [readL_open, hop]; simp [hm]) hlen b w4 (E3.trans hE4) (hO4.base (by omega))

theorem el_rUse : ElT T_Lref05_Use T_ref05_Use kUse :=
  ⟨u_T_Lref05_Use, s_T_Lref05_Use, o_T_Lref05_Use, g_T_ref05_Use, z_T_ref05_Use, fun w => sizeOf_agg g_T_ref05_Use w, by decide, by decide, by simp [inR, inR1, kUse, zs], fun ho hy hn hm hc hb hba hk => app_T_Lref05_Use ho hy hn hm hc (by omega) hba hk⟩
theorem ref05_WriteUses {v : Value} {rs : List (List Int)} {k : Value → World → Prop} (S : SlG w 3 v (rcs kUse rs)) (hlen : lenR kUse rs) (hin : ∀ r ∈ rs, inR kUse r) (hn : rs.length ≤ 1000) (hk : ∀ w', Ex [] w w' → k (wrB (writeL 5 wUse (mayL (mayB 1 0 3) 15) rs)) w') : wCall P n_ref05_WriteUses [v] w k := by
  refine call_ref05_WriteUses _ ?_
  unfold F_ref05_WriteUses
  refine alloc_i z_T_A128uint8 (vs := List.replicate 128 (.int .u8 0)) rfl fun w1 g1 hg1 hE1 B1 => ?_
  have l1 := hE1.le
  have bad : ∀ wa, Ex [] w1 wa → ((mayL (mayB 1 0 3) 15) rs = false) → (wBuild P T_A128uint8 [] wa fun t35 w => wStore P T_A128uint8 (ptr g1) t35 w fun w => wRes P T_A128uint8 (ptr g1) w fun r4 => k (.tuple #[r4, (.bool false)]) w) := by
    intro wa hEa hno
    refine wrB_none (B1.ex hEa (by simp)) fun w' hE' => ?_
    have := hk w' ((hE1.trans hEa).new hE' (by omega))
    unfold writeL at this
    rw [if_neg (by simp [hno])] at this
    exact this
  refine j1_of (fun u w' => Ex [] w1 w' ∧ rs.all (mayB 1 0 3) = true ∧ Own w' w1.heap.size T_ref05_Field 2 u (fcs (zipR wUse rs))) (fun k1 hk1 => ?_) ?_
  · refine loop_up2 rs.length (fun i u x w' => x = .int .i64 (i : Int) ∧ Ex [] w1 w' ∧ (rs.take i).all (mayB 1 0 3) = true ∧ Own w' w1.heap.size T_ref05_Field 2 u (fcs (zipR wUse (rs.take i)))) ⟨rfl, Ex.refl _ _, rfl, Own.nil _ _ _ _⟩ ?_
    rintro i J u x w2 k2 hi ⟨rfl, hE2, hall, hO⟩ hk2
    have S2 := (S.ex0 hE1).ex0 hE2
    have l2 := hE2.le
    rw [S2.len_i u_T_Lref05_Use (by omega) (rcs_length hlen), bin_lss]
    refine wIf_d (fun hlt => ?_) (fun hge => ?_)
    · have hlt : i < rs.length := by omega
      have hrl : rs[i].length = 3 := hlen _ (List.getElem_mem hlt)
      have hinr := hin _ (List.getElem_mem hlt)
      refine S2.ix s_T_Lref05_Use (by omega) (rcs_length hlen) (by omega) (by omega) fun b o hcs => ?_
      rw [Int.toNat_natCast] at hcs
      have hcs := (rcs_elem (ks := kUse) hlen hlt) ▸ hcs
      rw [ld_agg g_T_ref05_Use hcs (rc_length hrl)]
      refine alloc_i z_T_ref05_Use (vs := rc kUse (zs kUse)) rfl fun w3 g6 hg6 hE3 B6 => ?_
      refine st_all g_T_ref05_Use (rc_length hrl) (rc_isC _ _) B6 (rc_length (zs_length kUse)) fun w4 hE4 B6 => ?_
      have E4 : Ex [] w1 w4 := hE2.trans (hE3.new hE4 (by omega))
      have l4 := E4.le
      obtain ⟨a, b, c, hrr⟩ : ∃ a b c, rs[i] = [a, b, c] := by
        match h : rs[i], hrl with
        | [a, b, c], _ => exact ⟨_, _, _, rfl⟩
      have hmr : mayB 1 0 3 rs[i] = (decide (0 ≤ b) && decide (b ≤ 3)) := by rw [hrr]; rfl
      rw [hrr] at B6 hinr
      have B6 : Blk w4 g6 T_ref05_Use [.int .i64 a, .int .i64 b, .int .u32 c] := B6
      have hin2 : 0 ≤ c ∧ c < 4294967296 := hinr.2.2.1
      rw [fA_T_ref05_Use_1, ld_one o_T_int (B6.cell 1 : _ = some (.int .i64 b)), bin_lss]
      refine or_i (r := decide ((3 : Int) < b)) (fun _ k' hk' => ?_) ?_
      · rw [fA_T_ref05_Use_1, ld_one o_T_int (B6.cell 1 : _ = some (.int .i64 b)), bin_gtr]
        exact hk'
      refine wIf_i _ (fun hc => ?_) (fun hc => ?_)
      · refine bad w4 E4 ?_
        have hf : rs.all (mayB 1 0 3) = false := by
          rw [List.all_eq_false]
          refine ⟨rs[i], List.getElem_mem hlt, ?_⟩
          rw [hmr]
          simp only [Bool.or_eq_true, decide_eq_true_eq] at hc
          simp only [Bool.and_eq_true, decide_eq_true_eq]
          omega
        unfold mayL
        rw [hf, Bool.false_and]
      · have hmt : mayB 1 0 3 rs[i] = true := by
          rw [hmr]
          simp only [Bool.or_eq_false_iff, decide_eq_false_iff_not] at hc
          simp only [Bool.and_eq_true, decide_eq_true_eq]
          omega
        rw [fA_T_ref05_Use_0, ld_one o_T_int (B6.cell 0 : _ = some (.int .i64 a)), bl_field, fA_T_ref05_Use_1, ld_one o_T_int (B6.cell 1 : _ = some (.int .i64 b)), bl_field, fA_T_ref05_Use_2, ld_one o_T_uint32 (B6.cell 2 : _ = some (.int .u32 c)), conv_32_i64 hin2, bl_field]
        refine buildS_recs (size := 2) (n := 3) (xs := [[.int .i64 2, .int .i64 a], [.int .i64 1, .int .i64 b], [.int .i64 4, .int .i64 c]]) rfl u_T_Lref05_Field (fun w => sizeOf_agg g_T_ref05_Field w) z_T_ref05_Field rfl (by omega) (by simp) fun w5 g7 hg7 hE5 B7 => ?_
        have l5 := hE5.le
        have htl : lenR kUse (rs.take i) := fun r hr => hlen r (List.mem_of_mem_take hr)
        have hzl : (zipR wUse (rs.take i)).length = i * 3 := by rw [zipR_length (ks := kUse) rfl _ htl, List.length_take, Nat.min_eq_left (by omega)]; rfl
        have hO4 := (hO.ex0 (hE3.new hE4 (by omega))).ex0 hE5
        refine app_T_Lref05_Field (n := i * 3) (m := 3) hO4 (SlG.of_cs B7.all rfl (Nat.le_refl _)) (by rw [fcs_length, hzl]) rfl (fcs_isC [(2, a), (1, b), (4, c)]) (by omega) (by omega) fun v6 w6 hO6 hE6 _ => ?_
        rw [bin_add (by omega)]
        refine hk2 _ _ _ (by omega) ⟨by simp, (E4.trans hE5).step hE6 fun y hy => .inr (hO.newb y hy).1, ?_, ?_⟩
        · rw [takeR hlt, List.all_append, hall]
          simp [hmt]
        · have : fcs (zipR wUse (rs.take (i + 1))) = fcs (zipR wUse (rs.take i)) ++ fcs [(2, a), (1, b), (4, c)] := by
            rw [takeR hlt, hrr, ← fcs_append]
            congr 1
            simp [zipR, wUse]
          rw [this]
          exact hO6
    · obtain rfl : i = rs.length := by omega
      rw [List.take_length] at hall hO
      exact hk1 _ _ ⟨hE2, hall, hO⟩
  · rintro J u w2 ⟨hE2, hall, hO⟩
    rw [((S.ex0 hE1).ex0 hE2).len_i u_T_Lref05_Use (by omega) (rcs_length hlen), bin_gtr]
    refine wIf_d (fun hgt => ?_) (fun hle => ?_)
    · refine bad w2 hE2 ?_
      unfold mayL
      rw [decide_eq_false (by omega), Bool.and_false]
    · have hm : (mayL (mayB 1 0 3) 15) rs = true := by
        unfold mayL
        rw [hall, decide_eq_true (by omega)]
        rfl
      have hzl : (zipR wUse rs).length = rs.length * 3 := zipR_length (ks := kUse) rfl _ hlen
      refine ref05_Sealed (kind := 5) hO.slg (by omega) (zipR_ok (ks := kUse) (by decide) (by decide) hlen hin) (by omega) fun w3 hE3 => ?_
      have hs128 : ∀ s, (if okP (zipR wUse rs) = true then sealMk 5 (encP (zipR wUse rs)) else none) = some s → s.length = 128 := by
        intro s h
        split at h
        · exact sealMk_len h
        · cases h
      refine wrB_end hs128 ((B1.ex hE2 (by simp)).ex hE3 (by simp)) fun w4 hE4 => ?_
      have := hk w4 (((hE1.trans hE2).trans hE3).new hE4 (by omega))
      unfold writeL at this
      rw [okP_zipR, encP_zipR]
      simpa [hm] using this

theorem ref05_ReadUses {s : List Nat} {k : Value → World → Prop} (hs : s.length = 128) (hb : ∀ b ∈ s, b < 256) (hbad : readL 5 wUse (mayL (mayB 1 0 3) 15) s = none → ∀ w', Ex [] w w' → k (.tuple #[.slice none 0 0, .bool false]) w')
    (hk : ∀ rs, readL 5 wUse (mayL (mayB 1 0 3) 15) s = some rs → lenR kUse rs → ∀ v w', Ex [] w w' → Own w' w.heap.size T_ref05_Use 3 v (rcs kUse rs) → k (.tuple #[v, .bool true]) w') : wCall P n_ref05_ReadUses [sv s] w k := by
  refine call_ref05_ReadUses _ ?_
  unfold F_ref05_ReadUses
  refine box_i (sv_cells s) fun w1 g1 hg1 hE1 B1 => ?_
  have l1 := hE1.le
  rw [ld_sector g_T_A128uint8 hs B1]
  refine buildS_ones (xs := ivs wUse) rfl u_T_Lint o_T_int z_T_int rfl rfl (by omega) (fun x hx => by obtain ⟨n, _, rfl⟩ := List.mem_map.1 hx; rfl) fun w2 g2 hg2 hE2 B2 => ?_
  have l2 := hE2.le
  have E2 := hE1.trans hE2
  refine ref05_Opened (kind := 5) (ws := wUse) (SlG.of_cs B2.all rfl (Nat.le_refl _)) (by omega) hs hb (by decide) (by decide) (by decide) (fun hno w3 hE3 => ?_) (fun rs hop hrn v12 w3 hE3 hO3 => ?_)
  · rw [ext_0, ext_1]
    refine j2_of (fun a b w' => w3 = w' ∧ a = .bool false ∧ b = .slice none 0 0) (fun k1 hk1 => ?_) ?_
    · refine loop_up3 0 (fun i a b c w' => w3 = w' ∧ a = .bool false ∧ b = .slice none 0 0 ∧ c = .int .i64 0) ⟨rfl, rfl, rfl, rfl⟩ ?_
      rintro i J a b c w4 k2 hi ⟨rfl, rfl, rfl, rfl⟩ _
      rw [bin_add (by omega), len_s u_T_Lint64, bin_lss, wIf_df (by omega)]
      exact hk1 _ _ _ ⟨rfl, rfl, rfl⟩
    · rintro J a b w4 ⟨rfl, rfl, rfl⟩
      rw [un_not]
      refine or_i (r := true) (fun h => absurd h (by simp)) ?_
      rw [Bool.or_true, wIf_t]
      exact hbad (by rw [readL_open, hno]) w3 (E2.trans hE3)
  · rw [ext_0, ext_1]
    have l3 := hE3.le
    have E3 := E2.trans hE3
    obtain ⟨hwid, hokR⟩ := openL_ok hop hb
    have hlen : lenR kUse rs := fun r hr => (hwid r hr).symm
    have hfl : rs.flatten.length = rs.length * 3 := flat_length rs fun r hr => (hwid r hr).symm
    refine j2_of (fun a b w' => Ex [] w3 w' ∧ a = .bool (rs.all (mayB 1 0 3)) ∧ Own w' w3.heap.size T_ref05_Use 3 b (rcs kUse rs)) (fun k1 hk1 => ?_) ?_
    · refine loop_up3 rs.length (fun i a b c w' => c = .int .i64 ((i * 3 : Nat) : Int) ∧ Ex [] w3 w' ∧ a = .bool ((rs.take i).all (mayB 1 0 3)) ∧ Own w' w3.heap.size T_ref05_Use 3 b (rcs kUse (rs.take i))) ⟨rfl, Ex.refl _ _, rfl, Own.nil _ _ _ _⟩ ?_
      rintro i J a b c w4 k2 hi ⟨rfl, hE4, rfl, hO4⟩ hk2
      have l4 := hE4.le
      rw [bin_add (by omega), (hO3.slg.ex0 hE4).len_i u_T_Lint64 (by omega) (n := rs.length * 3) (by rw [im_length, hfl, Nat.mul_one]), bin_lss]
      refine wIf_d (fun hlt => ?_) (fun hge => ?_)
      · have hlt : i < rs.length := by omega
        have hrl : rs[i].length = 3 := hlen _ (List.getElem_mem hlt)
        have hokr : okNs wUse rs[i] = true := by
          unfold okR at hokR
          exact List.all_eq_true.1 hokR _ (List.getElem_mem hlt)
        obtain ⟨a, b, c, hrr⟩ : ∃ a b c, rs[i] = [a, b, c] := by
          match h : rs[i], hrl with
          | [a, b, c], _ => exact ⟨_, _, _, rfl⟩
        rw [hrr] at hokr
        have hokr : okN 2 a = true ∧ okN 1 b = true ∧ okN 4 c = true := by simpa [okNs, wUse, and_assoc] using hokr
        obtain ⟨hok0, hok1, hok2⟩ := hokr
        have hr0 : 0 ≤ a ∧ a < 4294967296 := okN_rng hok0 (by omega)
        have hr1 : 0 ≤ b ∧ b < 4294967296 := okN_rng hok1 (by omega)
        have hr2 : 0 ≤ c ∧ c < 4294967296 := okN_rng hok2 (by omega)
        have hmr : mayB 1 0 3 rs[i] = decide (b ≤ 3) := by
          rw [hrr]
          show (decide (0 ≤ b) && decide (b ≤ 3)) = _
          rw [decide_eq_true (by omega), Bool.true_and]
        have hix : ∀ {wa : World} (t : Nat) (x : Int), t < 3 → [a, b, c][t]? = some x → ∀ (z : Int), z = ((i * 3 + t : Nat) : Int) → Ex [] w3 wa → ∀ (K : Value → World → Prop), (∀ a, wa.cell? a = some (.int .i64 x) → K (.pointer (some a)) wa) → wIndexA P T_Lint64 v12 (.int .i64 z) wa K := by
          intro wa t x ht hx z hz hEa K hK
          subst hz
          refine (hO3.slg.ex0 hEa).ix1 s_T_Lint64 (by omega) (x := .int .i64 x) ?_ hK
          rw [Int.toNat_natCast]
          refine im_get ?_
          rw [flat_get (m := 3) rs i t rs[i] (fun r hr => (hwid r hr).symm) (List.getElem?_eq_getElem hlt) ht, hrr]
          exact hx
        refine draw_i fun w5 hE5 _ => ?_
        have E5 := hE4.trans hE5
        have l5 := E5.le
        refine hix 0 a (by omega) rfl _ (by omega) E5 _ fun a0 ha0 => ?_
        rw [ld_one o_T_int64 ha0]
        rw [bin_add (by omega)]
        refine hix 1 b (by omega) rfl _ (by omega) E5 _ fun a1 ha1 => ?_
        rw [ld_one o_T_int64 ha1]
        rw [bin_add (by omega)]
        refine hix 2 c (by omega) rfl _ (by omega) E5 _ fun a2 ha2 => ?_
        rw [ld_one o_T_int64 ha2, conv_i64_32 hr2]
        rw [bl_T_ref05_Use (cs := rc kUse [a, b, c]) (by rw [fill_cons (off := 0) (size := 1) rfl rfl rfl (by simp [splice]), fill_cons (off := 1) (size := 1) rfl rfl rfl (by simp [splice]), fill_cons (off := 2) (size := 1) rfl rfl rfl (by simp [splice])]; rfl)]
        refine buildS_1 (xs := rc kUse [a, b, c]) (size := 3) u_T_Lref05_Use (fun w => sizeOf_agg g_T_ref05_Use w) z_T_ref05_Use (by omega) rfl rfl rfl fun w6 g6 hg6 hE6 B6 => ?_
        have l6 := hE6.le
        have htl : lenR kUse (rs.take i) := fun r hr => hlen r (List.mem_of_mem_take hr)
        refine app_T_Lref05_Use (n := i) (m := 1) ((hO4.ex0 hE5).ex0 hE6) (SlG.of_cs B6.all rfl (Nat.le_refl _)) (by rw [rcs_length htl, List.length_take, Nat.min_eq_left (by omega)]; rfl) rfl (rc_isC _ _) (by omega) (by omega) fun b' w7 hO7 hE7 _ => ?_
        have E7 : Ex [] w3 w7 := (E5.trans hE6).step hE7 fun y hy => .inr (hO4.newb y hy).1
        have fin : ∀ wa, Ex [] w7 wa → k2 (.bool ((rs.take i).all (mayB 1 0 3) && decide (b ≤ 3))) b' (.int .i64 (((i * 3 : Nat) : Int) + 3)) wa := by
          intro wa hEa
          refine hk2 _ _ _ _ (by omega) ⟨by congr 1; omega, E7.trans hEa, ?_, ?_⟩
          · rw [takeR hlt, List.all_append, ← hmr]; simp
          · rw [takeR hlt, rcs_append, rcs_one, hrr]; exact hO7.ex0 hEa
        refine and_i (r := decide (b ≤ 3)) (fun _ k' hk' => ?_) ?_
        · rw [bin_add (by omega)]
          refine hix 1 b (by omega) rfl _ (by omega) E7 _ fun a ha => ?_
          rw [ld_one o_T_int64 ha, bin_leq]
          exact hk'
        rw [bin_add (by omega)]
        exact fin w7 (Ex.refl _ _)
      · obtain rfl : i = rs.length := by omega
        rw [List.take_length] at hO4 ⊢
        exact hk1 _ _ _ ⟨hE4, rfl, hO4⟩
    · rintro J a b w4 ⟨hE4, rfl, hO4⟩
      have l4 := hE4.le
      rw [un_not]
      refine or_i (r := decide ((15 : Int) < rs.length)) (fun _ k' hk' => ?_) ?_
      · rw [hO4.slg.len_i u_T_Lref05_Use (by omega) (rcs_length hlen), bin_gtr]
        exact hk'
      refine wIf_i _ (fun hc => ?_) (fun hc => ?_)
      · have hm : (mayL (mayB 1 0 3) 15) rs = false := by
          unfold mayL
          cases ha : rs.all (mayB 1 0 3) with
          | false => rfl
          | true => rw [ha] at hc; simp at hc; simp; omega
        exact hbad (by rw [readL_open, hop]; simp [hm]) w4 (E3.trans hE4)
      · have hm : (mayL (mayB 1 0 3) 15) rs = true := by
          unfold mayL
          cases ha : rs.all (mayB 1 0 3) with
          | false => rw [ha] at hc; simp at hc
          | true => rw [ha] at hc; simp at hc; simp; omega
        exact hk rs (by rw [readL_open, hop]; simp [hm]) hlen b w4 (E3.trans hE4) (hO4.base (by omega))

theorem el_rRecord : ElT T_Lref05_Record T_ref05_Record kRecord :=
  ⟨u_T_Lref05_Record, s_T_Lref05_Record, o_T_Lref05_Record, g_T_ref05_Record, z_T_ref05_Record, fun w => sizeOf_agg g_T_ref05_Record w, by decide, by decide, by simp [inR, inR1, kRecord, zs], fun ho hy hn hm hc hb hba hk => app_T_Lref05_Record ho hy hn hm hc (by omega) hba hk⟩
theorem ref05_WriteRecords {v : Value} {rs : List (List Int)} {k : Value → World → Prop} (S : SlG w 4 v (rcs kRecord rs)) (hlen : lenR kRecord rs) (hin : ∀ r ∈ rs, inR kRecord r) (hn : rs.length ≤ 1000) (hk : ∀ w', Ex [] w w' → k (wrB (writeL 7 wRecord (mayL (mayB 3 0 2) 13) rs)) w') : wCall P n_ref05_WriteRecords [v] w k := by
  refine call_ref05_WriteRecords _ ?_
  unfold F_ref05_WriteRecords
  refine alloc_i z_T_A128uint8 (vs := List.replicate 128 (.int .u8 0)) rfl fun w1 g1 hg1 hE1 B1 => ?_
  have l1 := hE1.le
  have bad : ∀ wa, Ex [] w1 wa → ((mayL (mayB 3 0 2) 13) rs = false) → (wBuild P T_A128uint8 [] wa fun t35 w => wStore P T_A128uint8 (ptr g1) t35 w fun w => wRes P T_A128uint8 (ptr g1) w fun r4 => k (.tuple #[r4, (.bool false)]) w) := by
    intro wa hEa hno
    refine wrB_none (B1.ex hEa (by simp)) fun w' hE' => ?_
    have := hk w' ((hE1.trans hEa).new hE' (by omega))
    unfold writeL at this
    rw [if_neg (by simp [hno])] at this
    exact this
  refine j1_of (fun u w' => Ex [] w1 w' ∧ rs.all (mayB 3 0 2) = true ∧ Own w' w1.heap.size T_ref05_Field 2 u (fcs (zipR wRecord rs))) (fun k1 hk1 => ?_) ?_
  · refine loop_up2 rs.length (fun i u x w' => x = .int .i64 (i : Int) ∧ Ex [] w1 w' ∧ (rs.take i).all (mayB 3 0 2) = true ∧ Own w' w1.heap.size T_ref05_Field 2 u (fcs (zipR wRecord (rs.take i)))) ⟨rfl, Ex.refl _ _, rfl, Own.nil _ _ _ _⟩ ?_
    rintro i J u x w2 k2 hi ⟨rfl, hE2, hall, hO⟩ hk2
    have S2 := (S.ex0 hE1).ex0 hE2
    have l2 := hE2.le
    rw [S2.len_i u_T_Lref05_Record (by omega) (rcs_length hlen), bin_lss]
    refine wIf_d (fun hlt => ?_) (fun hge => ?_)
    · have hlt : i < rs.length := by omega
      have hrl : rs[i].length = 4 := hlen _ (List.getElem_mem hlt)
      have hinr := hin _ (List.getElem_mem hlt)
      refine S2.ix s_T_Lref05_Record (by omega) (rcs_length hlen) (by omega) (by omega) fun b o hcs => ?_
      rw [Int.toNat_natCast] at hcs
      have hcs := (rcs_elem (ks := kRecord) hlen hlt) ▸ hcs
      rw [ld_agg g_T_ref05_Record hcs (rc_length hrl)]
      refine alloc_i z_T_ref05_Record (vs := rc kRecord (zs kRecord)) rfl fun w3 g6 hg6 hE3 B6 => ?_
      refine st_all g_T_ref05_Record (rc_length hrl) (rc_isC _ _) B6 (rc_length (zs_length kRecord)) fun w4 hE4 B6 => ?_
      have E4 : Ex [] w1 w4 := hE2.trans (hE3.new hE4 (by omega))
      have l4 := E4.le
      obtain ⟨a, b, c, d, hrr⟩ : ∃ a b c d, rs[i] = [a, b, c, d] := by
        match h : rs[i], hrl with
        | [a, b, c, d], _ => exact ⟨_, _, _, _, rfl⟩
      have hmr : mayB 3 0 2 rs[i] = (decide (0 ≤ d) && decide (d ≤ 2)) := by rw [hrr]; rfl
      rw [hrr] at B6 hinr
      have B6 : Blk w4 g6 T_ref05_Record [.int .u32 a, .int .u32 b, .int .i64 c, .int .i64 d] := B6
      have hin0 : 0 ≤ a ∧ a < 4294967296 := hinr.1
      have hin1 : 0 ≤ b ∧ b < 4294967296 := hinr.2.1
      rw [fA_T_ref05_Record_3, ld_one o_T_int (B6.cell 3 : _ = some (.int .i64 d)), bin_lss]
      refine or_i (r := decide ((2 : Int) < d)) (fun _ k' hk' => ?_) ?_
      · rw [fA_T_ref05_Record_3, ld_one o_T_int (B6.cell 3 : _ = some (.int .i64 d)), bin_gtr]
        exact hk'
      refine wIf_i _ (fun hc => ?_) (fun hc => ?_)
      · refine bad w4 E4 ?_
        have hf : rs.all (mayB 3 0 2) = false := by
          rw [List.all_eq_false]
          refine ⟨rs[i], List.getElem_mem hlt, ?_⟩
          rw [hmr]
          simp only [Bool.or_eq_true, decide_eq_true_eq] at hc
          simp only [Bool.and_eq_true, decide_eq_true_eq]
          omega
        unfold mayL
        rw [hf, Bool.false_and]
      · have hmt : mayB 3 0 2 rs[i] = true := by
          rw [hmr]
          simp only [Bool.or_eq_false_iff, decide_eq_false_iff_not] at hc
          simp only [Bool.and_eq_true, decide_eq_true_eq]
          omega
        rw [fA_T_ref05_Record_0, ld_one o_T_uint32 (B6.cell 0 : _ = some (.int .u32 a)), conv_32_i64 hin0, bl_field, fA_T_ref05_Record_1, ld_one o_T_uint32 (B6.cell 1 : _ = some (.int .u32 b)), conv_32_i64 hin1, bl_field, fA_T_ref05_Record_2, ld_one o_T_int (B6.cell 2 : _ = some (.int .i64 c)), bl_field, fA_T_ref05_Record_3, ld_one o_T_int (B6.cell 3 : _ = some (.int .i64 d)), bl_field]
        refine buildS_recs (size := 2) (n := 4) (xs := [[.int .i64 2, .int .i64 a], [.int .i64 4, .int .i64 b], [.int .i64 2, .int .i64 c], [.int .i64 1, .int .i64 d]]) rfl u_T_Lref05_Field (fun w => sizeOf_agg g_T_ref05_Field w) z_T_ref05_Field rfl (by omega) (by simp) fun w5 g7 hg7 hE5 B7 => ?_
        have l5 := hE5.le
        have htl : lenR kRecord (rs.take i) := fun r hr => hlen r (List.mem_of_mem_take hr)
        have hzl : (zipR wRecord (rs.take i)).length = i * 4 := by rw [zipR_length (ks := kRecord) rfl _ htl, List.length_take, Nat.min_eq_left (by omega)]; rfl
        have hO4 := (hO.ex0 (hE3.new hE4 (by omega))).ex0 hE5
        refine app_T_Lref05_Field (n := i * 4) (m := 4) hO4 (SlG.of_cs B7.all rfl (Nat.le_refl _)) (by rw [fcs_length, hzl]) rfl (fcs_isC [(2, a), (4, b), (2, c), (1, d)]) (by omega) (by omega) fun v6 w6 hO6 hE6 _ => ?_
        rw [bin_add (by omega)]
        refine hk2 _ _ _ (by omega) ⟨by simp, (E4.trans hE5).step hE6 fun y hy => .inr (hO.newb y hy).1, ?_, ?_⟩
        · rw [takeR hlt, List.all_append, hall]
          simp [hmt]
        · have : fcs (zipR wRecord (rs.take (i + 1))) = fcs (zipR wRecord (rs.take i)) ++ fcs [(2, a), (4, b), (2, c), (1, d)] := by
            rw [takeR hlt, hrr, ← fcs_append]
            congr 1
            simp [zipR, wRecord]
          rw [this]
          exact hO6
    · obtain rfl : i = rs.length := by omega
      rw [List.take_length] at hall hO
      exact hk1 _ _ ⟨hE2, hall, hO⟩
  · rintro J u w2 ⟨hE2, hall, hO⟩
    rw [((S.ex0 hE1).ex0 hE2).len_i u_T_Lref05_Record (by omega) (rcs_length hlen), bin_gtr]
    refine wIf_d (fun hgt => ?_) (fun hle => ?_)
    · refine bad w2 hE2 ?_
      unfold mayL
      rw [decide_eq_false (by omega), Bool.and_false]
    · have hm : (mayL (mayB 3 0 2) 13) rs = true := by
        unfold mayL
        rw [hall, decide_eq_true (by omega)]
        rfl
      have hzl : (zipR wRecord rs).length = rs.length * 4 := zipR_length (ks := kRecord) rfl _ hlen
      refine ref05_Sealed (kind := 7) hO.slg (by omega) (zipR_ok (ks := kRecord) (by decide) (by decide) hlen hin) (by omega) fun w3 hE3 => ?_
      have hs128 : ∀ s, (if okP (zipR wRecord rs) = true then sealMk 7 (encP (zipR wRecord rs)) else none) = some s → s.length = 128 := by
        intro s h
        split at h
        · exact sealMk_len h
        · cases h
      refine wrB_end hs128 ((B1.ex hE2 (by simp)).ex hE3 (by simp)) fun w4 hE4 => ?_
      have := hk w4 (((hE1.trans hE2).trans hE3).new hE4 (by omega))
      unfold writeL at this
      rw [okP_zipR, encP_zipR]
      simpa [hm] using this

theorem ref05_ReadRecords {s : List Nat} {k : Value → World → Prop} (hs : s.length = 128) (hb : ∀ b ∈ s, b < 256) (hbad : readL 7 wRecord (mayL (mayB 3 0 2) 13) s = none → ∀ w', Ex [] w w' → k (.tuple #[.slice none 0 0, .bool false]) w')
    (hk : ∀ rs, readL 7 wRecord (mayL (mayB 3 0 2) 13) s = some rs → lenR kRecord rs → ∀ v w', Ex [] w w' → Own w' w.heap.size T_ref05_Record 4 v (rcs kRecord rs) → k (.tuple #[v, .bool true]) w') : wCall P n_ref05_ReadRecords [sv s] w k := by
  refine call_ref05_ReadRecords _ ?_
  unfold F_ref05_ReadRecords
  refine box_i (sv_cells s) fun w1 g1 hg1 hE1 B1 => ?_
  have l1 := hE1.le
  rw [ld_sector g_T_A128uint8 hs B1]
  refine buildS_ones (xs := ivs wRecord) rfl u_T_Lint o_T_int z_T_int rfl rfl (by omega) (fun x hx => by obtain ⟨n, _, rfl⟩ := List.mem_map.1 hx; rfl) fun w2 g2 hg2 hE2 B2 => ?_
  have l2 := hE2.le
  have E2 := hE1.trans hE2
  refine ref05_Opened (kind := 7) (ws := wRecord) (SlG.of_cs B2.all rfl (Nat.le_refl _)) (by omega) hs hb (by decide) (by decide) (by decide) (fun hno w3 hE3 => ?_) (fun rs hop hrn v12 w3 hE3 hO3 => ?_)
  · rw [ext_0, ext_1]
    refine j2_of (fun a b w' => w3 = w' ∧ a = .bool false ∧ b = .slice none 0 0) (fun k1 hk1 => ?_) ?_
    · refine loop_up3 0 (fun i a b c w' => w3 = w' ∧ a = .bool false ∧ b = .slice none 0 0 ∧ c = .int .i64 0) ⟨rfl, rfl, rfl, rfl⟩ ?_
      rintro i J a b c w4 k2 hi ⟨rfl, rfl, rfl, rfl⟩ _
      rw [bin_add (by omega), len_s u_T_Lint64, bin_lss, wIf_df (by omega)]
      exact hk1 _ _ _ ⟨rfl, rfl, rfl⟩
    · rintro J a b w4 ⟨rfl, rfl, rfl⟩
      rw [un_not]
      refine or_i (r := true) (fun h => absurd h (by simp)) ?_
      rw [Bool.or_true, wIf_t]
      exact hbad (by rw [readL_open, hno]) w3 (E2.trans hE3)
  · rw [ext_0, ext_1]
    have l3 := hE3.le
    have E3 := E2.trans hE3
    obtain ⟨hwid, hokR⟩ := openL_ok hop hb
    have hlen : lenR kRecord rs := fun r hr => (hwid r hr).symm
    have hfl : rs.flatten.length = rs.length * 4 := flat_length rs fun r hr => (hwid r hr).symm
    refine j2_of (fun a b w' => Ex [] w3 w' ∧ a = .bool (rs.all (mayB 3 0 2)) ∧ Own w' w3.heap.size T_ref05_Record 4 b (rcs kRecord rs)) (fun k1 hk1 => ?_) ?_
    · refine loop_up3 rs.length (fun i a b c w' => c = .int .i64 ((i * 4 : Nat) : Int) ∧ Ex [] w3 w' ∧ a = .bool ((rs.take i).all (mayB 3 0 2)) ∧ Own w' w3.heap.size T_ref05_Record 4 b (rcs kRecord (rs.take i))) ⟨rfl, Ex.refl _ _, rfl, Own.nil _ _ _ _⟩ ?_
      rintro i J a b c w4 k2 hi ⟨rfl, hE4, rfl, hO4⟩ hk2
      have l4 := hE4.le
      rw [bin_add (by omega), (hO3.slg.ex0 hE4).len_i u_T_Lint64 (by omega) (n := rs.length * 4) (by rw [im_length, hfl, Nat.mul_one]), bin_lss]
      refine wIf_d (fun hlt => ?_) (fun hge => ?_)
      · have hlt : i < rs.length := by omega
        have hrl : rs[i].length = 4 := hlen _ (List.getElem_mem hlt)
        have hokr : okNs wRecord rs[i] = true := by
          unfold okR at hokR
          exact List.all_eq_true.1 hokR _ (List.getElem_mem hlt)
        obtain ⟨a, b, c, d, hrr⟩ : ∃ a b c d, rs[i] = [a, b, c, d] := by
          match h : rs[i], hrl with
          | [a, b, c, d], _ => exact ⟨_, _, _, _, rfl⟩
        rw [hrr] at hokr
        have hokr : okN 2 a = true ∧ okN 4 b = true ∧ okN 2 c = true ∧ okN 1 d = true := by simpa [okNs, wRecord, and_assoc] using hokr
        obtain ⟨hok0, hok1, hok2, hok3⟩ := hokr
        have hr0 : 0 ≤ a ∧ a < 4294967296 := okN_rng hok0 (by omega)
        have hr1 : 0 ≤ b ∧ b < 4294967296 := okN_rng hok1 (by omega)
        have hr2 : 0 ≤ c ∧ c < 4294967296 := okN_rng hok2 (by omega)
        have hr3 : 0 ≤ d ∧ d < 4294967296 := okN_rng hok3 (by omega)
        have hmr : mayB 3 0 2 rs[i] = decide (d ≤ 2) := by
          rw [hrr]
          show (decide (0 ≤ d) && decide (d ≤ 2)) = _
          rw [decide_eq_true (by omega), Bool.true_and]
        have hix : ∀ {wa : World} (t : Nat) (x : Int), t < 4 → [a, b, c, d][t]? = some x → ∀ (z : Int), z = ((i * 4 + t : Nat) : Int) → Ex [] w3 wa → ∀ (K : Value → World → Prop), (∀ a, wa.cell? a = some (.int .i64 x) → K (.pointer (some a)) wa) → wIndexA P T_Lint64 v12 (.int .i64 z) wa K := by
          intro wa t x ht hx z hz hEa K hK
          subst hz
          refine (hO3.slg.ex0 hEa).ix1 s_T_Lint64 (by omega) (x := .int .i64 x) ?_ hK
          rw [Int.toNat_natCast]
          refine im_get ?_
          rw [flat_get (m := 4) rs i t rs[i] (fun r hr => (hwid r hr).symm) (List.getElem?_eq_getElem hlt) ht, hrr]
          exact hx
        refine draw_i fun w5 hE5 _ => ?_
        have E5 := hE4.trans hE5
        have l5 := E5.le
        refine hix 0 a (by omega) rfl _ (by omega) E5 _ fun a0 ha0 => ?_
        rw [ld_one o_T_int64 ha0, conv_i64_32 hr0]
        rw [bin_add (by omega)]
        refine hix 1 b (by omega) rfl _ (by omega) E5 _ fun a1 ha1 => ?_
        rw [ld_one o_T_int64 ha1, conv_i64_32 hr1]
        rw [bin_add (by omega)]
        refine hix 2 c (by omega) rfl _ (by omega) E5 _ fun a2 ha2 => ?_
        rw [ld_one o_T_int64 ha2]
        rw [bin_add (by omega)]
        refine hix 3 d (by omega) rfl _ (by omega) E5 _ fun a3 ha3 => ?_
        rw [ld_one o_T_int64 ha3]
        rw [bl_T_ref05_Record (cs := rc kRecord [a, b, c, d]) (by rw [fill_cons (off := 0) (size := 1) rfl rfl rfl (by simp [splice]), fill_cons (off := 1) (size := 1) rfl rfl rfl (by simp [splice]), fill_cons (off := 2) (size := 1) rfl rfl rfl (by simp [splice]), fill_cons (off := 3) (size := 1) rfl rfl rfl (by simp [splice])]; rfl)]
        refine buildS_1 (xs := rc kRecord [a, b, c, d]) (size := 4) u_T_Lref05_Record (fun w => sizeOf_agg g_T_ref05_Record w) z_T_ref05_Record (by omega) rfl rfl rfl fun w6 g6 hg6 hE6 B6 => ?_
        have l6 := hE6.le
        have htl : lenR kRecord (rs.take i) := fun r hr => hlen r (List.mem_of_mem_take hr)
        refine app_T_Lref05_Record (n := i) (m := 1) ((hO4.ex0 hE5).ex0 hE6) (SlG.of_cs B6.all rfl (Nat.le_refl _)) (by rw [rcs_length htl, List.length_take, Nat.min_eq_left (by omega)]; rfl) rfl (rc_isC _ _) (by omega) (by omega) fun b' w7 hO7 hE7 _ => ?_
        have E7 : Ex [] w3 w7 := (E5.trans hE6).step hE7 fun y hy => .inr (hO4.newb y hy).1
        have fin : ∀ wa, Ex [] w7 wa → k2 (.bool ((rs.take i).all (mayB 3 0 2) && decide (d ≤ 2))) b' (.int .i64 (((i * 4 : Nat) : Int) + 4)) wa := by
          intro wa hEa
          refine hk2 _ _ _ _ (by omega) ⟨by congr 1; omega, E7.trans hEa, ?_, ?_⟩
          · rw [takeR hlt, List.all_append, ← hmr]; simp
          · rw [takeR hlt, rcs_append, rcs_one, hrr]; exact hO7.ex0 hEa
        refine and_i (r := decide (d ≤ 2)) (fun _ k' hk' => ?_) ?_
        · rw [bin_add (by omega)]
          refine hix 3 d (by omega) rfl _ (by omega) E7 _ fun a ha => ?_
          rw [ld_one o_T_int64 ha, bin_leq]
          exact hk'
        rw [bin_add (by omega)]
        exact fin w7 (Ex.refl _ _)
      · obtain rfl : i = rs.length := by omega
        rw [List.take_length] at hO4 ⊢
        exact hk1 _ _ _ ⟨hE4, rfl, hO4⟩
    · rintro J a b w4 ⟨hE4, rfl, hO4⟩
      have l4 := hE4.le
      rw [un_not]
      refine or_i (r := decide ((13 : Int) < rs.length)) (fun _ k' hk' => ?_) ?_
      · rw [hO4.slg.len_i u_T_Lref05_Record (by omega) (rcs_length hlen), bin_gtr]
        exact hk'
      refine wIf_i _ (fun hc => ?_) (fun hc => ?_)
      · have hm : (mayL (mayB 3 0 2) 13) rs = false := by
          unfold mayL
          cases ha : rs.all (mayB 3 0 2) with
          | false => rfl
          | true => rw [ha] at hc; simp at hc; simp; omega
        exact hbad (by rw [readL_open, hop]; simp [hm]) w4 (E3.trans hE4)
      · have hm : (mayL (mayB 3 0 2) 13) rs = true := by
          unfold mayL
          cases ha : rs.all (mayB 3 0 2) with
          | false => rw [ha] at hc; simp at hc
          | true => rw [ha] at hc; simp at hc; simp; omega
        exact hk rs (by rw [readL_open, hop]; simp [hm]) hlen b w4 (E3.trans hE4) (hO4.base (by omega))

end
end Go.Dn
end
section
/-! Contracts of the reference of layer 5: inodes. -/
set_option maxRecDepth 10000
set_option linter.unusedVariables false
set_option linter.unusedSimpArgs false
namespace Go.Dn
open Go
theorem Ex.cell {w w' : World} (h : Ex [] w w') {a : Addr} {v : Value} (hc : w.cell? a = some v) : w'.cell? a = some v := by
  have := World.block_lt_of_cell? w _ hc
  rw [World.cell?_of_block (h.block a.block this (by simp))]
  exact hc
theorem readR_open {kind : Nat} {ws : List Nat} {m : List Int → Bool} {s : List Nat} (hpos : 0 < ws.sum) : readR kind ws m s = match openL kind ws s with | some [r] => if m r = true then some r else none | _ => none := by
  unfold readR openL
  cases h : sealOp s with
  | none => rfl
  | some p =>
    obtain ⟨k, body⟩ := p
    simp only
    by_cases hk : k = kind
    · rw [if_pos hk]
      have hdm := Nat.div_add_mod body.length ws.sum
      by_cases hl : body.length = ws.sum
      · have hrec : recsOf ws body = some [decF ws body] := by
          unfold recsOf
          rw [if_pos (by rw [hl]; exact Nat.mod_self _), show body.length / ws.sum = 1 by rw [hl]; exact Nat.div_self hpos]
          rfl
        rw [hrec]
        simp [hk, hl]
      · rw [if_neg (by intro h; exact hl h.2.1)]
        unfold recsOf
        by_cases h0 : body.length % ws.sum = 0
        · rw [if_pos h0]
          have hq : body.length / ws.sum ≠ 1 := by
            intro h1
            rw [h1, h0] at hdm
            omega
          cases hd : decR ws body (body.length / ws.sum) with
          | nil => rfl
          | cons r rs =>
            cases rs with
            | nil =>
              exfalso
              have := decR_length ws (body.length / ws.sum) body
              rw [hd] at this
              simp at this
              omega
            | cons r2 rs => rfl
        · rw [if_neg h0]
    · rw [if_neg (by intro h; exact hk h.1), if_neg hk]
theorem split15 {r : List Int} (h : r.length = 15) : ∃ a0 a1 a2 a3 a4 ds s t, r = [a0, a1, a2, a3, a4] ++ ds ++ [s, t] ∧ ds.length = 8 := by
  match r, h with
  | [a0, a1, a2, a3, a4, d0, d1, d2, d3, d4, d5, d6, d7, s, t], _ => exact ⟨a0, a1, a2, a3, a4, [d0, d1, d2, d3, d4, d5, d6, d7], s, t, rfl, rfl⟩
theorem rc_inode (a0 a1 a2 a3 a4 : Int) (ds : List Int) (s t : Int) (hd : ds.length = 8) : rc kInode ([a0, a1, a2, a3, a4] ++ ds ++ [s, t]) = [.int .u32 a0, .int .u32 a1, .int .i64 a2, .int .i64 a3, .int .u32 a4] ++ im ds ++ [.int .i64 s, .int .i64 t] := by
  match ds, hd with
  | [d0, d1, d2, d3, d4, d5, d6, d7], _ => rfl
theorem zip_inode (a0 a1 a2 a3 a4 : Int) (ds : List Int) (s t : Int) (hd : ds.length = 8) : wInode.zip ([a0, a1, a2, a3, a4] ++ ds ++ [s, t]) = [(2, a0), (4, a1), (1, a2), (4, a3), (4, a4)] ++ ds.map (fun d => (4, d)) ++ [(4, s), (4, t)] := by
  match ds, hd with
  | [d0, d1, d2, d3, d4, d5, d6, d7], _ => rfl
section
variable {w : World}
theorem ref05_InodeFields {r : List Int} {k : Value → World → Prop} (hr : r.length = 15) (hin : inR kInode r) (hk : ∀ v w', Ex [] w w' → Own w' w.heap.size T_ref05_Field 2 v (fcs (wInode.zip r)) → k v w') : wCall P n_ref05_InodeFields [.agg ⟨rc kInode r⟩] w k := by
  refine call_ref05_InodeFields _ ?_
  unfold F_ref05_InodeFields
  refine box_i (vs := rc kInode r) rfl fun w1 g1 hg1 hE1 B1 => ?_
  obtain ⟨a0, a1, a2, a3, a4, ds, s, t, rfl, hd⟩ := split15 hr
  have h0 : 0 ≤ a0 ∧ a0 < 4294967296 := hin.1
  have h1 : 0 ≤ a1 ∧ a1 < 4294967296 := hin.2.1
  have h4 : 0 ≤ a4 ∧ a4 < 4294967296 := hin.2.2.2.2.1
  rw [rc_inode _ _ _ _ _ _ _ _ hd] at B1
  rw [zip_inode _ _ _ _ _ _ _ _ hd] at hk
  have l1 := hE1.le
  have c0 := B1.cell 0
  have c1 := B1.cell 1
  have c2 := B1.cell 2
  have c3 := B1.cell 3
  have c4 := B1.cell 4
  simp only [fA_T_ref05_Inode_0, fA_T_ref05_Inode_1, fA_T_ref05_Inode_2, fA_T_ref05_Inode_3, fA_T_ref05_Inode_4, fA_T_ref05_Inode_5, fA_T_ref05_Inode_6, fA_T_ref05_Inode_7, Nat.zero_add]
  rw [ld_one o_T_uint32 (c0 : _ = some (.int .u32 a0)), conv_32_i64 h0, bl_field, ld_one o_T_uint32 (c1 : _ = some (.int .u32 a1)), conv_32_i64 h1, bl_field, ld_one o_T_int (c2 : _ = some (.int .i64 a2)), bl_field, ld_one o_T_int (c3 : _ = some (.int .i64 a3)), bl_field, ld_one o_T_uint32 (c4 : _ = some (.int .u32 a4)), conv_32_i64 h4, bl_field]
  refine buildS_recs (size := 2) (n := 5) (xs := [[.int .i64 2, .int .i64 a0], [.int .i64 4, .int .i64 a1], [.int .i64 1, .int .i64 a2], [.int .i64 4, .int .i64 a3], [.int .i64 4, .int .i64 a4]]) rfl u_T_Lref05_Field (fun w => sizeOf_agg g_T_ref05_Field w) z_T_ref05_Field rfl (by omega) (by simp) fun w2 g2 hg2 hE2 B2 => ?_
  have l2 := hE2.le
  have hO2 : Own w2 w1.heap.size T_ref05_Field 2 (.slice (some ⟨g2, 0, none⟩) 5 5) (fcs [(2, a0), (4, a1), (1, a2), (4, a3), (4, a4)]) := Own.of_blk B2 rfl (by omega) (by omega)
  have B12 := B1.ex hE2 (by simp)
  refine j1_of (fun v w' => Ex [] w1 w' ∧ Own w' w1.heap.size T_ref05_Field 2 v (fcs ([(2, a0), (4, a1), (1, a2), (4, a3), (4, a4)] ++ ds.map (fun d => (4, d))))) (fun k1 hk1 => ?_) ?_
  · refine loop_up2 8 (fun i v x w' => x = .int .i64 (i : Int) ∧ Ex [] w1 w' ∧ Own w' w1.heap.size T_ref05_Field 2 v (fcs ([(2, a0), (4, a1), (1, a2), (4, a3), (4, a4)] ++ (ds.take i).map (fun d => (4, d))))) ⟨rfl, hE2, by simpa using hO2⟩ ?_
    rintro i J v x w3 k2 hi ⟨rfl, hE3, hO3⟩ hk2
    have l3 := hE3.le
    rw [bin_lss]
    refine wIf_d (fun hlt => ?_) (fun hge => ?_)
    · have hlt : i < ds.length := by omega
      have B3 := B1.ex hE3 (by simp)
      rw [indexA_i a_T_A8int (by omega) (by omega)]
      have hc : w3.cell? ⟨g1, 5 + (i : Int).toNat * 1, none⟩ = some (.int .i64 ds[i]) := by
        rw [B3.cell, show 5 + (i : Int).toNat * 1 = 5 + i by omega, List.append_assoc, List.getElem?_append_right (by simp), List.getElem?_append_left (by simp [im]; omega)]
        simp [im, List.getElem?_eq_getElem hlt]
      rw [ld_one o_T_int hc, bl_field]
      refine buildS_recs (size := 2) (n := 1) (xs := [[.int .i64 4, .int .i64 ds[i]]]) rfl u_T_Lref05_Field (fun w => sizeOf_agg g_T_ref05_Field w) z_T_ref05_Field rfl (by omega) (by simp) fun w4 g4 hg4 hE4 B4 => ?_
      have l4 := hE4.le
      refine app_T_Lref05_Field (n := 5 + i) (m := 1) (hO3.ex0 hE4) (SlG.of_cs B4.all rfl (Nat.le_refl _)) (by rw [fcs_length]; simp; omega) rfl (fcs_isC [(4, ds[i])]) (by omega) (by omega) fun v6 w6 hO6 hE6 _ => ?_
      rw [bin_add (by omega)]
      refine hk2 _ _ _ (by omega) ⟨by simp, (hE3.trans hE4).step hE6 fun y hy => .inr (hO3.newb y hy).1, ?_⟩
      rw [List.take_succ_eq_append_getElem hlt, List.map_append, ← List.append_assoc, fcs_append]
      exact hO6
    · obtain rfl : i = 8 := by omega
      rw [List.take_of_length_le (by omega)] at hO3
      exact hk1 _ _ ⟨hE3, hO3⟩
  rintro J v w3 ⟨hE3, hO3⟩
  have l3 := hE3.le
  have B3 := B1.ex hE3 (by simp)
  have c13 : w3.cell? ⟨g1, 13, none⟩ = some (.int .i64 s) := by rw [B3.cell, List.getElem?_append_right (by simp [im, hd])]; simp [im, hd]
  have c14 : w3.cell? ⟨g1, 14, none⟩ = some (.int .i64 t) := by rw [B3.cell, List.getElem?_append_right (by simp [im, hd])]; simp [im, hd]
  rw [ld_one o_T_int c13, bl_field, ld_one o_T_int c14, bl_field]
  refine buildS_recs (size := 2) (n := 2) (xs := [[.int .i64 4, .int .i64 s], [.int .i64 4, .int .i64 t]]) rfl u_T_Lref05_Field (fun w => sizeOf_agg g_T_ref05_Field w) z_T_ref05_Field rfl (by omega) (by simp) fun w4 g4 hg4 hE4 B4 => ?_
  have l4 := hE4.le
  refine app_T_Lref05_Field (n := 13) (m := 2) (hO3.ex0 hE4) (SlG.of_cs B4.all rfl (Nat.le_refl _)) (by rw [fcs_length]; simp; omega) rfl (fcs_isC [(4, s), (4, t)]) (by omega) (by omega) fun v6 w6 hO6 hE6 _ => ?_
  refine hk v6 w6 (hE1.trans ((hE3.trans hE4).step hE6 fun y hy => .inr (hO3.newb y hy).1)) ?_
  rw [fcs_append _ [(4, s), (4, t)]]
  exact hO6.base (by omega)
theorem ref05_WriteInode {r : List Int} {k : Value → World → Prop} (hr : r.length = 15) (hin : inR kInode r) (hk : ∀ w', Ex [] w w' → k (wrB (writeR 2 wInode (mayB 2 1 2) r)) w') : wCall P n_ref05_WriteInode [.agg ⟨rc kInode r⟩] w k := by
  refine call_ref05_WriteInode _ ?_
  unfold F_ref05_WriteInode
  refine box_i (vs := rc kInode r) rfl fun w1 g1 hg1 hE1 B1 => ?_
  refine alloc_i z_T_A128uint8 (vs := List.replicate 128 (.int .u8 0)) rfl fun w2 g2 hg2 hE2 B2 => ?_
  have l1 := hE1.le
  have B12 := B1.ex hE2 (by simp)
  have hc : w2.cell? ⟨g1, 0 + 2, none⟩ = some (.int .i64 (r.getD 2 0)) := (B12.cell 2).trans (rc_get hr rfl)
  have E2 := hE1.trans hE2
  rw [fA_T_ref05_Inode_2, ld_one o_T_int hc, bin_lss]
  refine or_i (r := decide (2 < r.getD 2 0)) (fun _ k' hk' => by rw [fA_T_ref05_Inode_2, ld_one o_T_int hc, bin_gtr]; exact hk') ?_
  refine wIf_i _ (fun hcc => ?_) (fun hcc => ?_)
  · refine wrB_none B2 fun w3 hE3 => ?_
    have := hk w3 (E2.new hE3 (by omega))
    have hm : mayB 2 1 2 r = false := by
      simp only [Bool.or_eq_true, decide_eq_true_eq] at hcc
      unfold mayB
      rw [Bool.and_eq_false_iff, decide_eq_false_iff_not, decide_eq_false_iff_not]
      omega
    unfold writeR at this
    rw [if_neg (by simp [hm])] at this
    exact this
  · have hm : mayB 2 1 2 r = true := by
      simp only [Bool.or_eq_false_iff, decide_eq_false_iff_not] at hcc
      unfold mayB
      rw [Bool.and_eq_true, decide_eq_true_eq, decide_eq_true_eq]
      omega
    rw [ld_aggT g_T_ref05_Inode (rc_length hr) _ _ _ B12]
    refine ref05_InodeFields hr hin fun v w3 hE3 hO3 => ?_
    have hzl : (wInode.zip r).length = 15 := by rw [List.length_zip, hr]; rfl
    refine ref05_Sealed (kind := 2) hO3.slg (by omega) (fun f hf => ?_) (by omega) fun w4 hE4 => ?_
    · have h1 := (List.of_mem_zip hf).1
      have h2 := inR_i64 kInode r (by decide) hr hin _ (List.of_mem_zip hf).2
      have h3 : ∀ wd ∈ wInode, 1 ≤ wd ∧ wd ≤ 4 := by decide
      have := h3 _ h1
      exact ⟨this.1, by omega, h2.1, h2.2⟩
    · rw [okP_zip, encP_zip]
      have e : (if okNs wInode r = true then sealMk 2 (encF wInode r) else none) = writeR 2 wInode (mayB 2 1 2) r := by
        unfold writeR
        simp [hm]
      rw [e]
      refine wrB_end writeR_len ((B2.ex hE3 (by simp)).ex hE4 (by simp)) fun w5 hE5 => ?_
      exact hk w5 (((E2.trans hE3).trans hE4).new hE5 (by omega))
theorem ref05_ReadInode {s : List Nat} {k : Value → World → Prop} (hs : s.length = 128) (hb : ∀ b ∈ s, b < 256) (hbad : readR 2 wInode (mayB 2 1 2) s = none → ∀ w', Ex [] w w' → k (.tuple #[.agg ⟨rc kInode (zs kInode)⟩, .bool false]) w')
    (hk : ∀ r, readR 2 wInode (mayB 2 1 2) s = some r → r.length = 15 → ∀ w', Ex [] w w' → k (.tuple #[.agg ⟨rc kInode r⟩, .bool true]) w') : wCall P n_ref05_ReadInode [sv s] w k := by
  refine call_ref05_ReadInode _ ?_
  unfold F_ref05_ReadInode
  have hzI : zeroT P T_ref05_Inode = some (.agg ⟨rc kInode (zs kInode)⟩) := by kernel_rfl
  refine box_i (sv_cells s) fun w1 g1 hg1 hE1 B1 => ?_
  refine alloc_i hzI (vs := rc kInode (zs kInode)) rfl fun w2 g2 hg2 hE2 B2 => ?_
  have l1 := hE1.le
  have l2 := hE2.le
  rw [ld_sector g_T_A128uint8 hs (B1.ex hE2 (by simp))]
  refine buildS_ones (xs := ivs wInode) rfl u_T_Lint o_T_int z_T_int rfl rfl (by omega) (fun x hx => by obtain ⟨n, _, rfl⟩ := List.mem_map.1 hx; rfl) fun w3 g3 hg3 hE3 B3 => ?_
  have l3 := hE3.le
  have E3 := (hE1.trans hE2).trans hE3
  have B23 := B2.ex hE3 (by simp)
  have bad : ∀ wa, Ex [] w3 wa → readR 2 wInode (mayB 2 1 2) s = none → (wBuild P T_ref05_Inode [] wa fun t33 w => wStore P T_ref05_Inode (ptr g2) t33 w fun w => wRes P T_ref05_Inode (ptr g2) w fun r2 => k (.tuple #[r2, (.bool false)]) w) := by
    intro wa hEa h
    rw [bl_T_ref05_Inode (cs := rc kInode (zs kInode)) rfl]
    refine st_all g_T_ref05_Inode (rc_length (zs_length _)) (rc_isC _ _) (B23.ex hEa (by simp)) (rc_length (zs_length _)) fun w6 hE6 B6 => ?_
    refine res_agg g_T_ref05_Inode B6.all (rc_length (zs_length _)) ?_
    exact hbad h w6 ((E3.trans hEa).new hE6 (by omega))
  refine ref05_Opened (kind := 2) (ws := wInode) (SlG.of_cs B3.all rfl (Nat.le_refl _)) (by omega) hs hb (by decide) (by decide) (by decide) (fun hno w4 hE4 => ?_) (fun rs hop hrn v12 w4 hE4 hO4 => ?_)
  · rw [ext_0, ext_1, un_not]
    refine or_i (r := true) (fun h => by cases h) ?_
    refine or_i (r := true) (fun h => by cases h) ?_
    refine or_i (r := true) (fun h => by cases h) ?_
    rw [show (((!false || true) || true) || true) = true from rfl, wIf_t]
    exact bad w4 hE4 (by rw [readR_open (by decide), hno])
  · rw [ext_0, ext_1, un_not]
    have l4 := hE4.le
    obtain ⟨hwid, hokR⟩ := openL_ok hop hb
    have hfl : rs.flatten.length = rs.length * 15 := flat_length rs fun r hr => (hwid r hr).symm
    by_cases h1 : rs.length = 1
    · obtain ⟨r, rfl⟩ : ∃ r, rs = [r] := by
        match rs, h1 with
        | [r], _ => exact ⟨r, rfl⟩
      have hr15 : r.length = 15 := (hwid r (by simp)).symm
      rw [show [r].flatten = r by simp] at hO4
      have hokr : okNs wInode r = true := by simpa [okR] using hokR
      have hrd : ∀ b, mayB 2 1 2 r = b → readR 2 wInode (mayB 2 1 2) s = if b = true then some r else none := fun b hb' => by rw [readR_open (by decide), hop, ← hb']
      obtain ⟨a0, a1, a2, a3, a4, ds, p, q, rfl, hd⟩ := split15 hr15
      have hokr : (okN 2 a0 = true ∧ okN 4 a1 = true ∧ okN 1 a2 = true ∧ okN 4 a3 = true ∧ okN 4 a4 = true) := by
        have : ∀ (x : List Int), okNs wInode ([a0, a1, a2, a3, a4] ++ x) = true → (okN 2 a0 = true ∧ okN 4 a1 = true ∧ okN 1 a2 = true ∧ okN 4 a3 = true ∧ okN 4 a4 = true) := by
          intro x h
          simp only [wInode, List.cons_append, List.nil_append, okNs, Bool.and_eq_true] at h
          exact ⟨h.1, h.2.1, h.2.2.1, h.2.2.2.1, h.2.2.2.2.1⟩
        exact this (ds ++ [p, q]) (by simpa using hokr)
      obtain ⟨ho0, ho1, ho2, ho3, ho4⟩ := hokr
      have hr0 := okN_rng ho0 (by omega)
      have hr1 := okN_rng ho1 (by omega)
      have hr2 := okN_rng ho2 (by omega)
      have hr4 := okN_rng ho4 (by omega)
      have hmr : mayB 2 1 2 ([a0, a1, a2, a3, a4] ++ ds ++ [p, q]) = (decide (1 ≤ a2) && decide (a2 ≤ 2)) := rfl
      have hget : ∀ {wa : World} (i : Nat) (x : Int), ([a0, a1, a2, a3, a4] ++ ds ++ [p, q])[i]? = some x → ∀ (z : Int), z = (i : Int) → Ex [] w4 wa → ∀ (K : Value → World → Prop), (∀ a, wa.cell? a = some (.int .i64 x) → K (.pointer (some a)) wa) → wIndexA P T_Lint64 v12 (.int .i64 z) wa K := by
        intro wa i x hx z hz hEa K hK
        subst hz
        refine (hO4.slg.ex0 hEa).ix1 s_T_Lint64 (by omega) (x := .int .i64 x) ?_ hK
        rw [Int.toNat_natCast]
        exact im_get hx
      have g13 : ([a0, a1, a2, a3, a4] ++ ds ++ [p, q])[13]? = some p := by rw [List.getElem?_append_right (by simp; omega)]; simp [hd]
      have g14 : ([a0, a1, a2, a3, a4] ++ ds ++ [p, q])[14]? = some q := by rw [List.getElem?_append_right (by simp; omega)]; simp [hd]
      refine or_i (r := false) (fun _ k' hk' => ?_) ?_
      · rw [hO4.slg.len_i u_T_Lint64 (by omega) (n := 15) (by rw [im_length]; simp; omega), bin_neq]
        exact hk'
      refine or_i (r := decide (a2 < 1)) (fun _ k' hk' => ?_) ?_
      · refine hget 2 a2 rfl _ (by omega) (Ex.refl _ _) _ fun a ha => ?_
        rw [ld_one o_T_int64 ha, bin_lss]
        exact hk'
      refine or_i (r := decide (2 < a2)) (fun _ k' hk' => ?_) ?_
      · refine hget 2 a2 rfl _ (by omega) (Ex.refl _ _) _ fun a ha => ?_
        rw [ld_one o_T_int64 ha, bin_gtr]
        exact hk'
      refine wIf_i _ (fun hc => ?_) (fun hc => ?_)
      · refine bad w4 hE4 ?_
        rw [hrd false]
        · rfl
        rw [hmr, Bool.and_eq_false_iff, decide_eq_false_iff_not, decide_eq_false_iff_not]
        simp only [Bool.not_true, Bool.false_or, Bool.or_eq_true, decide_eq_true_eq] at hc
        omega
      · have hm : mayB 2 1 2 ([a0, a1, a2, a3, a4] ++ ds ++ [p, q]) = true := by
          rw [hmr, Bool.and_eq_true, decide_eq_true_eq, decide_eq_true_eq]
          simp only [Bool.not_true, Bool.false_or, Bool.or_eq_false_iff, decide_eq_false_iff_not] at hc
          omega
        have hres := hrd true hm
        refine draw_i fun w5 hE5 _ => ?_
        have E5 := hE4.trans hE5
        have l5 := hE5.le
        refine hget 0 a0 rfl _ (by omega) hE5 _ fun x0 c0 => ?_
        rw [ld_one o_T_int64 c0, conv_i64_32 hr0]
        refine hget 1 a1 rfl _ (by omega) hE5 _ fun x1 c1 => ?_
        rw [ld_one o_T_int64 c1, conv_i64_32 hr1]
        refine hget 2 a2 rfl _ (by omega) hE5 _ fun x2 c2 => ?_
        rw [ld_one o_T_int64 c2]
        refine hget 3 a3 rfl _ (by omega) hE5 _ fun x3 c3 => ?_
        rw [ld_one o_T_int64 c3]
        refine hget 4 a4 rfl _ (by omega) hE5 _ fun x4 c4 => ?_
        rw [ld_one o_T_int64 c4, conv_i64_32 hr4]
        refine hget 13 p g13 _ (by omega) hE5 _ fun x13 c13 => ?_
        rw [ld_one o_T_int64 c13]
        refine hget 14 q g14 _ (by omega) hE5 _ fun x14 c14 => ?_
        rw [ld_one o_T_int64 c14]
        rw [bl_T_ref05_Inode (cs := [.int .u32 a0, .int .u32 a1, .int .i64 a2, .int .i64 a3, .int .u32 a4] ++ im [0, 0, 0, 0, 0, 0, 0, 0] ++ [.int .i64 p, .int .i64 q]) (by
          rw [fill_cons (off := 0) (size := 1) rfl rfl rfl (by simp), fill_cons (off := 1) (size := 1) rfl rfl rfl (by simp [splice]), fill_cons (off := 2) (size := 1) rfl rfl rfl (by simp [splice]), fill_cons (off := 3) (size := 1) rfl rfl rfl (by simp [splice]), fill_cons (off := 4) (size := 1) rfl rfl rfl (by simp [splice]), fill_cons (off := 13) (size := 1) rfl rfl rfl (by simp [splice]), fill_cons (off := 14) (size := 1) rfl rfl rfl (by simp [splice])]
          rfl)]
        refine alloc_i hzI (vs := rc kInode (zs kInode)) rfl fun w6 g6 hg6 hE6 B6 => ?_
        have l6 := hE6.le
        refine ⟨keep_cons (loadAt_one o_T_int64 (hE6.cell c0)) (keep_cons (loadAt_one o_T_int64 (hE6.cell c1)) (keep_cons (loadAt_one o_T_int64 (hE6.cell c2)) (keep_cons (loadAt_one o_T_int64 (hE6.cell c3)) (keep_cons (loadAt_one o_T_int64 (hE6.cell c4)) (keep_cons (loadAt_one o_T_int64 (hE6.cell c13)) (keep_cons (loadAt_one o_T_int64 (hE6.cell c14)) keep_nil)))))), ?_⟩
        refine st_all g_T_ref05_Inode rfl (by simp [im, isC]) B6 (rc_length (zs_length _)) fun w7 hE7 B7 => ?_
        have E7 : Ex [] w4 w7 := (hE5.trans hE6).new hE7 (by omega)
        refine j0_of (fun w' => Ex [g6] w7 w' ∧ Blk w' g6 T_ref05_Inode ([.int .u32 a0, .int .u32 a1, .int .i64 a2, .int .i64 a3, .int .u32 a4] ++ im ds ++ [.int .i64 p, .int .i64 q])) (fun k1 hk1 => ?_) ?_
        · refine loop_up 8 (fun i x w' => x = .int .i64 (i : Int) ∧ Ex [g6] w7 w' ∧ Blk w' g6 T_ref05_Inode ([.int .u32 a0, .int .u32 a1, .int .i64 a2, .int .i64 a3, .int .u32 a4] ++ im (ds.take i) ++ im (List.replicate (8 - i) 0) ++ [.int .i64 p, .int .i64 q])) ⟨rfl, Ex.refl _ _, by simpa [im] using B7⟩ ?_
          rintro i J x w8 k2 hi ⟨rfl, hE8, B8⟩ hk2
          rw [bin_lss]
          refine wIf_d (fun hlt => ?_) (fun hge => ?_)
          · have hlt : i < ds.length := by omega
            have E48 : Ex [] w4 w8 := E7.new hE8 (by omega)
            rw [bin_add (by omega)]
            refine hget (5 + i) ds[i] (by rw [List.append_assoc, List.getElem?_append_right (by simp), List.getElem?_append_left (by simp; omega)]; simp [List.getElem?_eq_getElem hlt]) _ (by omega) E48 _ fun x5 c5 => ?_
            rw [ld_one o_T_int64 c5, fA_T_ref05_Inode_5, indexA_i a_T_A8int (by omega) (by omega)]
            refine st_one o_T_int rfl B8 (by simp [im, hd]; omega) fun w9 hE9 B9 => ?_
            rw [bin_add (by omega)]
            refine hk2 _ _ (by omega) ⟨by simp, hE8.trans hE9, ?_⟩
            have e : ([Value.int .u32 a0, .int .u32 a1, .int .i64 a2, .int .i64 a3, .int .u32 a4] ++ im (ds.take i) ++ im (List.replicate (8 - i) 0) ++ [.int .i64 p, .int .i64 q]) = ([.int .u32 a0, .int .u32 a1, .int .i64 a2, .int .i64 a3, .int .u32 a4] ++ im (ds.take i)) ++ .int .i64 0 :: (im (List.replicate (8 - (i + 1)) 0) ++ [.int .i64 p, .int .i64 q]) := by
              rw [show 8 - i = (8 - (i + 1)) + 1 by omega, List.replicate_succ]
              simp [im]
            rw [e, set_mid (by simp [im]; omega)] at B9
            have e2 : ([Value.int .u32 a0, .int .u32 a1, .int .i64 a2, .int .i64 a3, .int .u32 a4] ++ im (ds.take (i + 1)) ++ im (List.replicate (8 - (i + 1)) 0) ++ [.int .i64 p, .int .i64 q]) = ([.int .u32 a0, .int .u32 a1, .int .i64 a2, .int .i64 a3, .int .u32 a4] ++ im (ds.take i)) ++ .int .i64 ds[i] :: (im (List.replicate (8 - (i + 1)) 0) ++ [.int .i64 p, .int .i64 q]) := by
              rw [List.take_succ_eq_append_getElem hlt, im_append]
              simp only [List.append_assoc, List.cons_append, List.nil_append]
              rfl
            rw [e2]
            exact B9
          · obtain rfl : i = 8 := by omega
            rw [List.take_of_length_le (by omega)] at B8
            exact hk1 w8 ⟨hE8, by simpa [im] using B8⟩
        rintro J w8 ⟨hE8, B8⟩
        rw [← rc_inode _ _ _ _ _ _ _ _ hd] at B8
        rw [ld_aggT g_T_ref05_Inode (rc_length hr15) _ _ _ B8]
        have E38 : Ex [] w3 w8 := (hE4.trans E7).new hE8 (by omega)
        refine st_all g_T_ref05_Inode (rc_length hr15) (rc_isC _ _) (B23.ex E38 (by simp)) (rc_length (zs_length _)) fun w9 hE9 B9 => ?_
        refine res_agg g_T_ref05_Inode B9.all (rc_length hr15) ?_
        exact hk _ hres hr15 w9 ((E3.trans E38).new hE9 (by omega))
    · refine or_i (r := true) (fun _ k' hk' => ?_) ?_
      · rw [hO4.slg.len_i u_T_Lint64 (by omega) (n := rs.length * 15) (by rw [im_length, hfl, Nat.mul_one]), bin_neq, decide_eq_true (by omega)]
        exact hk'
      refine or_i (r := true) (fun h => by cases h) ?_
      refine or_i (r := true) (fun h => by cases h) ?_
      rw [show (((!true || true) || true) || true) = true from rfl, wIf_t]
      refine bad w4 hE4 ?_
      rw [readR_open (by decide), hop]
      match rs, h1 with
      | [], _ => rfl
      | [r], h => exact absurd rfl h
      | _ :: _ :: _, _ => rfl
end
end Go.Dn
end
section
/-! Summaries: their pass; codec.WriteSummary. -/
set_option maxRecDepth 10000
set_option linter.unusedVariables false
set_option linter.unusedSimpArgs false
namespace Go.Dn
open Go
structure Sm where
  seq : Int
  first : Int
  c : Bool
  next : Int
  time : Int
  es : List (List Int)
def b01 (c : Bool) : Int := if c then 1 else 0
def Sm.cells (x : Sm) (v : Value) : List Value := [.int .u64 x.seq, .int .u64 x.first, .bool x.c, .int .i64 x.next, .int .u32 x.time, v]
def wSum : List Nat := [8, 8, 1, 1, 2, 4]
def Sm.nums (x : Sm) : List Int := [x.seq, x.first, b01 x.c, x.es.length, x.next, x.time]
def Sm.ok (x : Sm) : Prop := inR1 .u64 x.seq ∧ inR1 .u64 x.first ∧ inR1 .i64 x.next ∧ inR1 .u32 x.time ∧ lenR kEntry x.es ∧ ∀ r ∈ x.es, inR kEntry r
def wEnt : List Nat := [1, 2, 4, 2]
def Sm.body (x : Sm) : List Nat := encF wSum x.nums ++ encR wEnt x.es
def mayEs (es : List (List Int)) : Bool := mayL (mayB 0 1 6) 8 es
def writeSm (x : Sm) : Option (List Nat) := if mayEs x.es = true ∧ (okNs wSum x.nums = true ∧ okR wEnt x.es = true) then sealMk 3 x.body else none
section
variable {w : World} {f : Value}
theorem b01_in (c : Bool) : inR1 .i64 (b01 c) := by cases c <;> (unfold b01 inR1; simp)
theorem flag_i (F : Form f) {s : F.σ} {fp : List Nat} {b o : Nat} {t : TypeId} {cs : List Value} {c : Bool} {k : Value → World → Prop} (H : F.S w s fp) (B : Blk w b t cs) (hb : b ∉ fp) (hn : cs[o]? = some (.bool c)) (hsz : F.sz s ≤ 1000000)
    (hk : ∀ w' fp', Ex (b :: fp) w w' → F.S w' (F.stp s 1 (b01 c)) fp' → (∀ x ∈ fp', x ∈ fp ∨ w.heap.size ≤ x) → Blk w' b t (cs.set o (.bool (decide (F.val s 1 (b01 c) = 1)))) → k (.tuple #[]) w') : wCall P n_codec_flag [f, .pointer (some ⟨b, o, none⟩)] w k := by
  refine call_codec_flag _ _ ?_
  unfold F_codec_flag
  have ho := (List.getElem?_eq_some_iff.1 hn).1
  have lt := B.lt
  have hbd := F.bd H
  refine alloc_i z_T_int (vs := [.int .i64 0]) rfl fun w1 g1 hg1 hE1 B1 => ?_
  refine st_one o_T_int rfl B1 (by simp) fun w2 hE2 B2 => ?_
  have E2 : Ex [] w w2 := hE1.new hE2 (by omega)
  have l2 := E2.le
  refine j0_of (fun w' => Ex [g1] w2 w' ∧ Blk w' g1 T_int [.int .i64 (b01 c)]) (fun k1 hk1 => ?_) ?_
  · rw [nil_ptr, ld_one o_T_bool (((B.ex E2 (by simp)).cell o).trans hn)]
    cases c
    · rw [wIf_f]
      exact hk1 w2 ⟨Ex.refl _ _, B2⟩
    · rw [wIf_t]
      refine st_one o_T_int rfl B2 (by simp) fun w3 hE3 B3 => ?_
      exact hk1 w3 ⟨hE3, B3⟩
  rintro J w3 ⟨hE3, B3⟩
  have E3 : Ex [] w w3 := E2.new hE3 (by omega)
  have l3 := E3.le
  have hg1fp : g1 ∉ fp := fun hm => by have := hbd _ hm; omega
  refine F.go (kd := .i64) (wd := 1) (F.ex H E3 (by simp)) B3 hg1fp rfl (b01_in c) (by unfold widOk; decide) hsz fun w4 fp4 hE4 H4 hfp4 B4 => ?_
  have l4 := hE4.le
  rw [ld_one o_T_int (B4.cell 0 : _ = some (.int .i64 (F.val s 1 (b01 c)))), bin_eql, nil_ptr]
  have hbb : b ∉ g1 :: fp := by
    intro hm
    rcases List.mem_cons.1 hm with h | h
    · omega
    · exact hb h
  refine st_one o_T_bool rfl ((B.ex E3 (by simp)).ex hE4 hbb) ho fun w5 hE5 B5 => ?_
  have hb4 : b ∉ fp4 := fun hm => (hfp4 b hm).elim hb fun h => by omega
  refine hk w5 fp4 ?_ (F.ex H4 hE5 (by simpa using hb4)) (fun x hx => (hfp4 x hx).imp_right (by omega)) B5
  refine (E3.nil.step hE4 ?_).step hE5 (by simp)
  intro x hx
  rcases List.mem_cons.1 hx with h | h
  · exact .inr (by omega)
  · exact .inl (by simp [h])
/-- The six numbers ahead of a summary's entries. -/
theorem pass_pre (F : Form f) {s : F.σ} {fp : List Nat} {b n : Nat} {x : Sm} {v : Value} {xs : List Value} {k : Value → World → Prop} (H : F.S w s fp) (B : Blk w b T_codec_Summary (x.cells v)) (hb : b ∉ fp) (hv : ∀ w', Ex (b :: fp) w w' → ∀ K : Value → World → Prop, wLen P .len #[T_Lcodec_Entry] [v] w' K = K (.int .i64 (x.es.length : Int)) w')
    (hok : x.ok) (hn : x.es.length ≤ 1000) (hsz : F.sz s ≤ 900000)
    (hk : ∀ w' fp', Ex (b :: fp) w w' → F.S w' (runS F.stp s wSum x.nums) fp' → (∀ y ∈ fp', y ∈ fp ∨ w.heap.size ≤ y) →
      Blk w' b T_codec_Summary [.int .u64 (F.val s 8 x.seq), .int .u64 (F.val (F.stp s 8 x.seq) 8 x.first), .bool (decide (F.val (F.stp (F.stp s 8 x.seq) 8 x.first) 1 (b01 x.c) = 1)),
        .int .i64 (F.val (F.stp (F.stp (F.stp (F.stp s 8 x.seq) 8 x.first) 1 (b01 x.c)) 1 x.es.length) 2 x.next), .int .u32 (F.val (F.stp (F.stp (F.stp (F.stp (F.stp s 8 x.seq) 8 x.first) 1 (b01 x.c)) 1 x.es.length) 2 x.next) 4 x.time), v] →
      wCall P n_codec_list_codec_Entry [f, .pointer (some ⟨b, 5, none⟩), .func (.func n_codec_passEntry) #[] #[]] w' fun _ w => k (.tuple #[]) w) : wCall P n_codec_passSummary [f, ptr b] w k := by
  refine call_codec_passSummary _ _ ?_
  unfold F_codec_passSummary
  obtain ⟨h1, h2, h3, h4, _, _⟩ := hok
  have lt := B.lt
  have hbd := F.bd H
  refine passT_i F [(.u64, 8, 0), (.u64, 8, 1)] 0 [] [.bool x.c, .int .i64 x.next, .int .u32 x.time, v] [x.seq, x.first] s fp w H B hb rfl rfl ⟨h1, h2, trivial⟩ ⟨f_T_codec_Summary_0, by unfold widOk; decide, f_T_codec_Summary_1, by unfold widOk; decide, trivial⟩ (by simp [widsOf]; omega) fun w1 fp1 hE1 H1 hfp1 B1 => ?_
  have B1 : Blk w1 b T_codec_Summary [.int .u64 (F.val s 8 x.seq), .int .u64 (F.val (F.stp s 8 x.seq) 8 x.first), .bool x.c, .int .i64 x.next, .int .u32 x.time, v] := B1
  have H1 : F.S w1 (F.stp (F.stp s 8 x.seq) 8 x.first) fp1 := H1
  have l1 := hE1.le
  have hb1 : b ∉ fp1 := fun hm => (hfp1 b hm).elim hb fun h => by omega
  have z1 := F.sz_stp s 8 x.seq
  have z2 := F.sz_stp (F.stp s 8 x.seq) 8 x.first
  generalize hs2 : F.stp (F.stp s 8 x.seq) 8 x.first = s2 at *
  rw [nil_ptr, fA_T_codec_Summary_2]
  refine flag_i F H1 B1 hb1 rfl (by omega) fun w2 fp2 hE2 H2 hfp2 B2 => ?_
  have l2 := hE2.le
  have E2 : Ex (b :: fp) w w2 := hE1.step hE2 fun y hy => by
    rcases List.mem_cons.1 hy with rfl | hy
    · exact .inl (by simp)
    · exact (hfp1 y hy).imp (fun h => by simp [h]) id
  have nfp2 : ∀ y ∈ fp2, y ∈ fp ∨ w.heap.size ≤ y := fun y hy => by
    rcases hfp2 y hy with h | h
    · exact hfp1 y h
    · exact .inr (by omega)
  have hb2 : b ∉ fp2 := fun hm => (nfp2 b hm).elim hb fun h => by omega
  have B2 : Blk w2 b T_codec_Summary [.int .u64 (F.val s 8 x.seq), .int .u64 (F.val (F.stp s 8 x.seq) 8 x.first), .bool (decide (F.val s2 1 (b01 x.c) = 1)), .int .i64 x.next, .int .u32 x.time, v] := B2
  have z3 := F.sz_stp s2 1 (b01 x.c)
  generalize hs3 : F.stp s2 1 (b01 x.c) = s3 at *
  have hbd2 := F.bd H2
  rw [nil_ptr, fA_T_codec_Summary_5, ld_one o_T_Lcodec_Entry (B2.cell 5 : _ = some v), hv w2 E2]
  refine alloc_i z_T_int (vs := [.int .i64 0]) rfl fun w3 g3 hg3 hE3 B3 => ?_
  refine st_one o_T_int rfl B3 (by simp) fun w4 hE4 B4 => ?_
  have B4 : Blk w4 g3 T_int [.int .i64 (x.es.length : Int)] := B4
  have E24 : Ex [] w2 w4 := hE3.new hE4 (by omega)
  have l4 := E24.le
  have hg3fp : g3 ∉ fp2 := fun hm => by have := hbd2 _ hm; omega
  refine F.go (kd := .i64) (wd := 1) (F.ex H2 E24 (by simp)) B4 hg3fp rfl (by unfold inR1; omega) (by unfold widOk; decide) (by omega) fun w5 fp5 hE5 H5 hfp5 B5 => ?_
  have l5 := hE5.le
  have hbg : b ∉ g3 :: fp2 := by
    intro hm
    rcases List.mem_cons.1 hm with h | h
    · omega
    · exact hb2 h
  have Bb5 := (B2.ex E24 (by simp)).ex hE5 hbg
  have E5 : Ex (b :: fp) w w5 := (E2.trans E24.nil).step hE5 fun y hy => by
    rcases List.mem_cons.1 hy with rfl | hy
    · exact .inr (by omega)
    · exact (nfp2 y hy).imp (fun h => by simp [h]) id
  have nfp5 : ∀ y ∈ fp5, y ∈ fp ∨ w.heap.size ≤ y := fun y hy => by
    rcases hfp5 y hy with h | h
    · exact nfp2 y h
    · exact .inr (by omega)
  have hb5 : b ∉ fp5 := fun hm => (nfp5 b hm).elim hb fun h => by omega
  have z4 := F.sz_stp s3 1 x.es.length
  refine passT_i F [(.i64, 2, 3), (.u32, 4, 4)] 3 [.int .u64 (F.val s 8 x.seq), .int .u64 (F.val (F.stp s 8 x.seq) 8 x.first), .bool (decide (F.val s2 1 (b01 x.c) = 1))] [v] [x.next, x.time] (F.stp s3 1 x.es.length) fp5 w5 H5 Bb5 hb5 rfl rfl ⟨h3, h4, trivial⟩ ⟨f_T_codec_Summary_3, by unfold widOk; decide, f_T_codec_Summary_4, by unfold widOk; decide, trivial⟩ (by simp [widsOf]; omega) fun w6 fp6 hE6 H6 hfp6 B6 => ?_
  have l6 := hE6.le
  rw [nil_ptr, fA_T_codec_Summary_5]
  refine hk w6 fp6 (E5.step hE6 fun y hy => ?_) ?_ (fun y hy => ?_) B6
  · rcases List.mem_cons.1 hy with rfl | hy
    · exact .inl (by simp)
    · exact (nfp5 y hy).imp (fun h => by simp [h]) id
  · have e : runS F.stp s wSum x.nums = runS F.stp (F.stp s3 1 x.es.length) [2, 4] [x.next, x.time] := by
      rw [← hs3, ← hs2]
      rfl
    rw [e]
    exact H6
  · rcases hfp6 y hy with h | h
    · exact nfp5 y h
    · exact .inr (by omega)
end
section
variable {w : World}
theorem len_slb {t : TypeId} {v : Value} {xs : List Value} {n size : Nat} (S : SlG w size v xs) (hs : 0 < size) (hn : xs.length = n * size) (w' : World) (K : Value → World → Prop) {L e : TypeId} (hu : P.underlying L = some (.slice e)) : wLen P .len #[L] [v] w' K = K (.int .i64 (n : Int)) w' := by
  obtain ⟨A, m, c, rfl, hl, hc, hr⟩ := S
  have : m = n := Nat.eq_of_mul_eq_mul_right hs (hl.symm.trans hn)
  rw [len_s hu, this]
theorem may_Summary {x : Sm} {v : Value} {k : Value → World → Prop} (S : SlG w 4 v (rcs kEntry x.es)) (hlen : lenR kEntry x.es) (hn : x.es.length ≤ 1000000) (hk : ∀ w', Ex [] w w' → k (.bool (mayEs x.es)) w') : wCallV P (.func (.func n_codec_maySummary) #[] #[]) [.agg ⟨x.cells v⟩] w k := by
  rw [callv_0]
  refine call_codec_maySummary _ ?_
  unfold F_codec_maySummary
  refine box_i (vs := x.cells v) rfl fun w0 g0 hg0 hE0 B0 => ?_
  refine draw_i fun w00 hE00 _ => ?_
  have B00 := B0.ex hE00 (by simp)
  have c5 : w00.cell? ⟨g0, 0 + 5, none⟩ = some v := B00.cell 5
  rw [fA_T_codec_Summary_5, ld_one o_T_Lcodec_Entry c5]
  refine call_codec_each_codec_Entry _ _ ?_
  unfold F_codec_each_codec_Entry
  refine box_i (vs := [.int .i64 8]) rfl fun w1 g1 hg1 hE1 B1 => ?_
  refine box_i (vs := [.func (.func n_codec_maySummary_c1) #[] #[]]) rfl fun w2 g2 hg2 hE2 B2 => ?_
  rw [func_eq]
  dsimp only
  refine ⟨keep_cons (loadAt_one o_T_Lcodec_Entry (hE2.cell (hE1.cell c5))) keep_nil, ?_⟩
  rw [callv_eq]
  refine call_codec_each_codec_Entry_c1 _ _ _ ?_
  have E02 := (hE0.trans hE00).trans (hE1.trans hE2)
  refine each_i (TF := T_func_codec_Entry__bool) (most := 8) (p := mayB 0 1 6) el_Entry o_T_func_codec_Entry__bool (S.ex0 E02) hlen hn B2 (B1.ex hE2 (by simp)) (fun r hr w3 k3 hk3 => ?_) fun w3 hE3 => hk w3 (E02.trans hE3)
  rw [callv_0]
  refine call_codec_maySummary_c1 _ ?_
  exact may_field (j := 0) (hlen r hr) rfl (show fldT P T_codec_Entry 0 = some 0 by kernel_rfl) hk3
theorem runS_pre (x : Sm) : (runS wstp ([], false) wSum x.nums).1.length = 24 := by
  rw [runS_w_len wSum x.nums _ rfl]
  simp [wSum]
theorem codec_WriteSummary {x : Sm} {v : Value} {k : Value → World → Prop} (hok : x.ok) (S : SlB w T_codec_Entry 4 v (rcs kEntry x.es)) (hn : x.es.length ≤ 1000) (hk : ∀ w', Ex [] w w' → k (wrV (writeSm x)) w') : wCall P n_codec_WriteSummary [.agg ⟨x.cells v⟩] w k := by
  refine call_codec_WriteSummary _ ?_
  unfold F_codec_WriteSummary
  refine box_i (vs := x.cells v) rfl fun w1 g1 hg1 hE1 B1 => ?_
  refine alloc_i z_T_api_Sector (vs := List.replicate 128 (.int .u8 0)) rfl fun w2 g2 hg2 hE2 B2 => ?_
  have l1 := hE1.le
  have l2 := hE2.le
  have E2 := hE1.trans hE2
  rw [ld_aggT g_T_codec_Summary rfl _ _ _ (B1.ex hE2 (by simp))]
  have hlen := hok.2.2.2.2.1
  have hin := hok.2.2.2.2.2
  have hrl : (rcs kEntry x.es).length = x.es.length * 4 := rcs_length hlen
  have hW : ∀ {a0 a1 a2 a3 : Value} {w : World} {k : Value → World → Prop}, G_write T_codec_Summary a0 a1 a2 a3 w k → wCall P n_codec_write_codec_Summary [a0, a1, a2, a3] w k := fun h => call_codec_write_codec_Summary _ _ _ _ h
  refine hW (write_i (TX := T_codec_Summary) (kind := 3) (x := .agg ⟨x.cells v⟩) (xs := x.cells v) (m := mayEs x.es) (st := runRS wstp wEnt (runS wstp ([], false) wSum x.nums) x.es) (by omega) rfl (ld_aggT g_T_codec_Summary rfl) ?_ (fun w3 hE3 k1 hk1 => ?_) (fun w3 g h hE3 B3 H3 hg hh hgh k1 hk1 => ?_) fun w3 hE3 => ?_)
  · rw [runRS_w_len (ks := kEntry) rfl x.es _ hlen, runS_pre]
    rw [show wEnt.sum = 9 by simp [wEnt]]
    omega
  · exact may_Summary (S.ex0 (E2.trans hE3)).slg hlen (by omega) hk1
  · rw [callv_0]
    have S3 := S.ex0 (E2.trans hE3)
    have Sg := S3.slg
    refine pass_pre (wform h) (x := x) (v := v) (xs := []) (n := 0) H3 B3 (by simpa using hgh) (fun w' hE' K => len_slb (t := T_Lcodec_Entry) Sg (by omega) (n := x.es.length) hrl w' K u_T_Lcodec_Entry) hok hn (show ([] : List Nat).length ≤ 900000 by simp) fun w4 fp4 hE4 H4 hfp4 B4 => ?_
    have l3 := hE3.le
    have l4 := hE4.le
    have hvb : ∀ g', v.ownBlock = some g' → g' < w.heap.size := fun g' hg' => S.bd g' hg'
    have hv4 : ∀ g', v.ownBlock = some g' → g' ∉ fp4 := fun g' hg' hm => by
      have := hvb g' hg'
      rcases hfp4 g' hm with hq | hq
      · simp at hq; omega
      · omega
    have S4 : SlB w4 T_codec_Entry 4 v (rcs kEntry x.es) := S3.ex hE4 fun g' hg' hm => by
      have := hvb g' hg'
      simp at hm
      omega
    have hg4 : g ∉ fp4 := fun hm => by
      have := B3.lt
      rcases hfp4 g hm with hq | hq
      · simp at hq; omega
      · omega
    have H4 : WrS h w4 (runS wstp ([], false) wSum x.nums) fp4 := H4
    refine list_wr (ws := wEnt) el_Entry lc_Entry pass_Entry H4 B4 (lo := 5) rfl hg4 S4 hv4 hlen rfl hin hn (by rw [runS_pre, show wEnt.sum = 9 by simp [wEnt]]; omega) fun w5 fp5 hE5 H5 hfp5 => ?_
    refine hk1 w5 fp5 ?_ H5 fun y hy => ?_
    · exact hE4.step hE5 fun y hy => by
        rcases hfp4 y hy with hq | hq
        · exact .inl (by simp at hq; simp [hq])
        · exact .inr hq
    · rcases hfp5 y hy with hq | hq
      · rcases hfp4 y hq with hq | hq
        · exact .inl (by simpa using hq)
        · exact .inr hq
      · exact .inr (by omega)
  · have e : (if mayEs x.es = true ∧ (runRS wstp wEnt (runS wstp ([], false) wSum x.nums) x.es).2 = false then sealMk 3 (runRS wstp wEnt (runS wstp ([], false) wSum x.nums) x.es).1 else none) = writeSm x := by
      unfold writeSm Sm.body
      rw [runRS_w_bad, runS_w_bad]
      cases h1 : okNs wSum x.nums with
      | false => simp
      | true =>
        cases h2 : okR wEnt x.es with
        | false => simp
        | true => simp [runRS_w_ok wEnt x.es _ h2, runS_w_ok wSum x.nums _ h1]
    rw [e]
    refine wr_end (fun s h => ?_) (B2.ex hE3 (by simp)) fun w4 hE4 => ?_
    · unfold writeSm at h
      split at h
      · exact sealMk_len h
      · cases h
    · exact hk w4 ((E2.trans hE3).new hE4 (by omega))
end
end Go.Dn
end
section
/-! Summaries: what a reader makes of a body. -/
set_option maxRecDepth 10000
set_option linter.unusedVariables false
set_option linter.unusedSimpArgs false
namespace Go.Dn
open Go
theorem rd_countA {ks : List IntKind} {ws : List Nat} (body : List Nat) (a : Nat) (ha : a ≤ body.length) (hw : ws.length = ks.length) (hpos : 0 < ws.sum) (hl : body.length ≤ 120) :
    ∃ N, N ≤ 121 ∧ (∀ i, i < N → rmore body (runRS (rstp body) ws (a, false) (List.replicate i (zs ks))) = true) ∧ rmore body (runRS (rstp body) ws (a, false) (List.replicate N (zs ks))) = false ∧
      ((recsOf ws (body.drop a) = none ∧ (runRS (rstp body) ws (a, false) (List.replicate N (zs ks))).2 = true) ∨
       (∃ rs, recsOf ws (body.drop a) = some rs ∧ runRS (rstp body) ws (a, false) (List.replicate N (zs ks)) = (body.length, false) ∧ runRV (rstp body) (rval body) ws (a, false) (List.replicate N (zs ks)) = rs)) := by
  have hne : ws ≠ [] := fun h => by rw [h] at hpos; simp at hpos
  have hL : (body.drop a).length = body.length - a := List.length_drop
  generalize hLe : body.length - a = L at hL
  have st : ∀ i, i * ws.sum ≤ L → runRS (rstp body) ws (a, false) (List.replicate i (zs ks)) = (a + i * ws.sum, false) ∧ runRV (rstp body) (rval body) ws (a, false) (List.replicate i (zs ks)) = decR ws (body.drop a) i := by
    intro i
    induction i with
    | zero => intro _; exact ⟨by simp [runRS], rfl⟩
    | succ i ih =>
      intro h
      rw [Nat.succ_mul] at h
      obtain ⟨h1, h2⟩ := ih (by omega)
      have hr := runS_r body ws (zs ks) (a + i * ws.sum, false) (by rw [hw, zs_length])
      refine ⟨?_, ?_⟩
      · rw [List.replicate_succ', runRS_snoc, h1]
        refine Prod.ext ?_ ?_
        · rw [hr.1, Nat.succ_mul]; simp only; omega
        · cases hb : (runS (rstp body) (a + i * ws.sum, false) ws (zs ks)).2 with
          | false => rfl
          | true =>
            rcases hr.2.1 hb with h' | ⟨_, h'⟩
            · cases h'
            · exfalso; simp only at h'; omega
      · rw [List.replicate_succ', runRV_snoc, h1, h2, decR_snoc, runV_r body ws (zs ks) (a + i * ws.sum, false) (by rw [hw, zs_length]) (by simp only; omega), List.drop_drop]
  have hdm := Nat.div_add_mod L ws.sum
  have hmod := Nat.mod_lt L hpos
  have hq : L / ws.sum ≤ L := Nat.div_le_self _ _
  have hmul : L / ws.sum * ws.sum = ws.sum * (L / ws.sum) := Nat.mul_comm _ _
  have more : ∀ i, i * ws.sum < L → rmore body (runRS (rstp body) ws (a, false) (List.replicate i (zs ks))) = true := by
    intro i hi
    rw [(st i (by omega)).1]
    simp [rmore]; omega
  by_cases h0 : L % ws.sum = 0
  · refine ⟨L / ws.sum, by omega, fun i hi => more i ?_, ?_, .inr ⟨decR ws (body.drop a) (L / ws.sum), ?_, ?_, ?_⟩⟩
    · have := Nat.mul_le_mul_right ws.sum (show i + 1 ≤ L / ws.sum by omega)
      rw [Nat.succ_mul] at this
      omega
    · rw [(st _ (by omega)).1]
      simp [rmore]; omega
    · unfold recsOf; rw [hL, if_pos h0]
    · rw [(st _ (by omega)).1]
      congr 1
      omega
    · exact (st _ (by omega)).2
  · have hs := st (L / ws.sum) (by omega)
    have hr := runS_r body ws (zs ks) (a + L / ws.sum * ws.sum, false) (by rw [hw, zs_length])
    have hbad : (runRS (rstp body) ws (a, false) (List.replicate (L / ws.sum + 1) (zs ks))).2 = true := by
      rw [List.replicate_succ', runRS_snoc, hs.1]
      exact hr.2.2 (.inr ⟨hne, by simp only; omega⟩)
    refine ⟨L / ws.sum + 1, by omega, fun i hi => more i ?_, ?_, .inl ⟨by unfold recsOf; rw [hL, if_neg h0], hbad⟩⟩
    · have := Nat.mul_le_mul_right ws.sum (show i ≤ L / ws.sum by omega)
      omega
    · unfold rmore
      rw [hbad]; rfl
def nb (body : List Nat) (a n : Nat) : Int := ((numOf ((body.drop a).take n) : Nat) : Int)
def smOf (body : List Nat) (es : List (List Int)) : Sm := ⟨nb body 0 8, nb body 8 8, decide (nb body 16 1 = 1), nb body 18 2, nb body 20 4, es⟩
/-- What codec's reader makes of a body. -/
def rdSm (body : List Nat) : Option Sm := if 24 ≤ body.length then (match recsOf wEnt (body.drop 24) with | some es => some (smOf body es) | none => none) else none
def sm0 : Sm := ⟨0, 0, false, 0, 0, []⟩
theorem sm0_ok : sm0.ok := by refine ⟨?_, ?_, ?_, ?_, ?_, ?_⟩ <;> simp [sm0, inR1, lenR]
def preV (body : List Nat) (v : Value) : List Value :=
  let F := rstp body; let V := rval body; let s : Nat × Bool := (0, false)
  [.int .u64 (V s 8 0), .int .u64 (V (F s 8 0) 8 0), .bool (decide (V (F (F s 8 0) 8 0) 1 0 = 1)), .int .i64 (V (F (F (F (F s 8 0) 8 0) 1 0) 1 0) 2 0), .int .u32 (V (F (F (F (F (F s 8 0) 8 0) 1 0) 1 0) 2 0) 4 0), v]
theorem pre_len (body : List Nat) : (runS (rstp body) (0, false) wSum sm0.nums).1 = 24 ∧ (runS (rstp body) (0, false) wSum sm0.nums).2 = decide (body.length < 24) := by
  have h := runS_r body wSum sm0.nums (0, false) rfl
  have hs : wSum.sum = 24 := by simp [wSum]
  rw [hs] at h
  refine ⟨by simpa using h.1, ?_⟩
  rw [Bool.eq_iff_iff, h.2, decide_eq_true_eq]
  simp [wSum]
theorem preV_eq {body : List Nat} (h : 24 ≤ body.length) (v : Value) (es : List (List Int)) : preV body v = (smOf body es).cells v := by
  have e : ∀ (s : Nat × Bool) (wd : Nat), s.1 + wd ≤ body.length → rval body s wd 0 = nb body s.1 wd := fun s wd hs => by unfold rval nb; rw [if_pos hs]
  have e1 : rval body (0, false) 8 0 = nb body 0 8 := e _ _ (by show 0 + 8 ≤ _; omega)
  have e2 : rval body (rstp body (0, false) 8 0) 8 0 = nb body 8 8 := e _ _ (by show 0 + 8 + 8 ≤ _; omega)
  have e3 : rval body (rstp body (rstp body (0, false) 8 0) 8 0) 1 0 = nb body 16 1 := e _ _ (by show 0 + 8 + 8 + 1 ≤ _; omega)
  have e4 : rval body (rstp body (rstp body (rstp body (rstp body (0, false) 8 0) 8 0) 1 0) 1 0) 2 0 = nb body 18 2 := e _ _ (by show 0 + 8 + 8 + 1 + 1 + 2 ≤ _; omega)
  have e5 : rval body (rstp body (rstp body (rstp body (rstp body (rstp body (0, false) 8 0) 8 0) 1 0) 1 0) 2 0) 4 0 = nb body 20 4 := e _ _ (by show 0 + 8 + 8 + 1 + 1 + 2 + 4 ≤ _; omega)
  simp only [preV, smOf, Sm.cells, e1, e2, e3, e4, e5]
theorem rd_sum (body : List Nat) (hl : body.length ≤ 120) :
    ∃ N, N ≤ 121 ∧ (∀ i, i < N → rmore body (runRS (rstp body) wEnt (runS (rstp body) (0, false) wSum sm0.nums) (List.replicate i (zs kEntry))) = true) ∧ rmore body (runRS (rstp body) wEnt (runS (rstp body) (0, false) wSum sm0.nums) (List.replicate N (zs kEntry))) = false ∧
      ((rdSm body = none ∧ (runRS (rstp body) wEnt (runS (rstp body) (0, false) wSum sm0.nums) (List.replicate N (zs kEntry))).2 = true) ∨
       (∃ x, rdSm body = some x ∧ runRS (rstp body) wEnt (runS (rstp body) (0, false) wSum sm0.nums) (List.replicate N (zs kEntry)) = (body.length, false) ∧ runRV (rstp body) (rval body) wEnt (runS (rstp body) (0, false) wSum sm0.nums) (List.replicate N (zs kEntry)) = x.es ∧ (∀ v, preV body v = x.cells v))) := by
  obtain ⟨h1, h2⟩ := pre_len body
  by_cases h : 24 ≤ body.length
  · have hs : runS (rstp body) (0, false) wSum sm0.nums = (24, false) := Prod.ext h1 (by rw [h2]; exact decide_eq_false (by omega))
    rw [hs]
    obtain ⟨N, a1, a2, a3, a4⟩ := rd_countA (ks := kEntry) (ws := wEnt) body 24 h rfl (by decide) hl
    refine ⟨N, a1, a2, a3, ?_⟩
    rcases a4 with ⟨b1, b2⟩ | ⟨rs, b1, b2, b3⟩
    · exact .inl ⟨by unfold rdSm; rw [if_pos h, b1], b2⟩
    · exact .inr ⟨smOf body rs, by unfold rdSm; rw [if_pos h, b1], b2, b3, fun v => preV_eq h v rs⟩
  · refine ⟨0, by omega, fun i hi => by omega, ?_, .inl ⟨by unfold rdSm; rw [if_neg h], ?_⟩⟩
    · show rmore body (runS (rstp body) (0, false) wSum sm0.nums) = false
      unfold rmore
      rw [h2, decide_eq_true (by omega)]; rfl
    · show (runS (rstp body) (0, false) wSum sm0.nums).2 = true
      rw [h2, decide_eq_true (by omega)]
end Go.Dn
end
section
/-! Contracts of the reference of layer 5: headers. -/
set_option maxRecDepth 10000
set_option linter.unusedVariables false
set_option linter.unusedSimpArgs false
namespace Go.Dn
open Go
section
variable {w : World} {K : Value → World → Prop}
theorem SlG.subs {t : TypeId} {v : Value} {bs : List Nat} {i j : Nat} {x y : Int} {ik ik' : IntKind} (S : SlG w 1 v (bvs bs)) (ht : slT P t = some 1) (hx : x = (i : Int)) (hy : y = (j : Int)) (hij : i ≤ j) (hj : j ≤ bs.length)
    (hk : ∀ v', SlG w 1 v' (bvs ((bs.drop i).take (j - i))) → K v' w) : wSlice P t v (some (.int ik x)) (some (.int ik' y)) none w K := by
  subst hx; subst hy
  obtain ⟨A, n, c, rfl, hl, hc, hr⟩ := id S
  rw [bvs_length, Nat.mul_one] at hl
  rw [sliceS_lohi ht (by omega) (by omega) (by omega)]
  have := S.cut hij (show j ≤ n by omega)
  simp only [Int.toNat_natCast]
  refine hk _ ?_
  rw [Nat.mul_one, Nat.mul_one] at this
  unfold bvs at this ⊢
  rw [List.map_take, List.map_drop, Nat.mul_one]
  exact this
theorem SlG.los {t : TypeId} {v : Value} {bs : List Nat} {i : Nat} {x : Int} {ik : IntKind} (S : SlG w 1 v (bvs bs)) (ht : slT P t = some 1) (hx : x = (i : Int)) (hi : i ≤ bs.length)
    (hk : ∀ v', SlG w 1 v' (bvs (bs.drop i)) → K v' w) : wSlice P t v (some (.int ik x)) none none w K := by
  subst hx
  obtain ⟨A, n, c, rfl, hl, hc, hr⟩ := id S
  rw [bvs_length, Nat.mul_one] at hl
  rw [sliceS_lo ht (by omega) (by omega)]
  have := S.cut (show i ≤ n by omega) (Nat.le_refl n)
  simp only [Int.toNat_natCast]
  refine hk _ ?_
  rw [Nat.mul_one, Nat.mul_one] at this
  unfold bvs at this ⊢
  rw [List.map_drop, Nat.mul_one]
  rw [List.take_of_length_le (by rw [List.length_drop, List.length_map]; omega)] at this
  exact this
theorem app_low {base x wd : Nat} {v : Value} {bs : List Nat} (hO : Own w base T_uint8 1 v (bvs bs)) (hbl : bs.length ≤ 1000) (hx : x < 18446744073709551616) (hw : wd ≤ 8) (hba : base ≤ w.heap.size)
    (hk : ∀ v' w', Own w' base T_uint8 1 v' (bvs (bs ++ low x wd)) → Ex v.ownBlock.toList w w' → K v' w') : wCall P n_ref01_Low [.int .u64 (x : Int), .int .i64 (wd : Int)] w fun t w => wBuiltin P .append #[T_Luint8, T_Luint8] [v, t] w K := by
  refine ref01_Low hx (by omega) fun u w1 hE1 hO1 => ?_
  have l1 := hE1.le
  refine app_T_Luint8 (n := bs.length) (m := wd) (hO.ex0 hE1) hO1.slg (by rw [bvs_length]; omega) (by rw [bvs_length, low_length]; omega) (bvs_isC _) (by omega) (by omega) fun v' w2 hO2 hE2 _ => ?_
  refine hk v' w2 ?_ (hE1.nil.trans hE2)
  rw [bvs_append]
  exact hO2
theorem conv_i_u64 {n : Int} (h : 0 ≤ n) (h1 : n ≤ 9223372036854775807) : wConv P T_int T_uint64 (.int .i64 n) w K = K (.int .u64 ((n.toNat : Nat) : Int)) w := by
  rw [conv_i i_T_int i_T_uint64, IntWalk.u64_in _ (by omega)]
  congr 2
  omega
theorem conv_32_u64 {n : Int} (h : 0 ≤ n ∧ n < 4294967296) : wConv P T_uint32 T_uint64 (.int .u32 n) w K = K (.int .u64 ((n.toNat : Nat) : Int)) w := by
  rw [conv_i i_T_uint32 i_T_uint64, IntWalk.u64_in _ (by omega)]
  congr 2
  omega
theorem conv_u64_i {n : Nat} (h : n < 65536) : wConv P T_uint64 T_int (.int .u64 (n : Int)) w K = K (.int .i64 (n : Int)) w := by
  rw [conv_i i_T_uint64 i_T_int, IntWalk.i64_in _ (by omega)]
theorem conv_u64_32 {n : Nat} (h : n < 4294967296) : wConv P T_uint64 T_uint32 (.int .u64 (n : Int)) w K = K (.int .u32 (n : Int)) w := by
  rw [conv_i i_T_uint64 i_T_uint32, IntWalk.u32_in _ (by omega)]
theorem split6 {r : List Int} (h : r.length = 6) : ∃ a b c d e f, r = [a, b, c, d, e, f] := by
  match r, h with
  | [a, b, c, d, e, f], _ => exact ⟨a, b, c, d, e, f, rfl⟩
theorem okN_dec {wd : Nat} {n : Int} (h : 0 ≤ n) : okN wd n = decide (n.toNat < 256 ^ wd) := by unfold okN; rw [decide_eq_true h, Bool.true_and]
theorem okN_neg {wd : Nat} {n : Int} (h : n < 0) : okN wd n = false := by unfold okN; rw [decide_eq_false (by omega), Bool.false_and]
theorem okN_2 (n : Int) : okN 2 n = (!decide (n < 0) && !decide (65535 < n)) := by
  unfold okN
  rw [← decide_not, ← decide_not, ← Bool.decide_and, ← Bool.decide_and, decide_eq_decide]
  constructor
  · rintro ⟨h1, h2⟩; omega
  · rintro ⟨h1, h2⟩; omega
theorem ref05_WriteHeader {r : List Int} {k : Value → World → Prop} (hr : r.length = 6) (hin : inR kHeader r) (hk : ∀ w', Ex [] w w' → k (wrB (writeR 6 wHeader (fun _ => true) r)) w') : wCall P n_ref05_WriteHeader [.agg ⟨rc kHeader r⟩] w k := by
  refine call_ref05_WriteHeader _ ?_
  unfold F_ref05_WriteHeader
  obtain ⟨a, b, c, d, e, f, rfl⟩ := split6 hr
  obtain ⟨⟨ha0, ha1⟩, ⟨hb0, hb1⟩, ⟨hc0, hc1⟩, ⟨hd0, hd1⟩, ⟨he0, he1⟩, ⟨hf0, hf1⟩, _⟩ := hin
  refine box_i (vs := rc kHeader [a, b, c, d, e, f]) rfl fun w1 g1 hg1 hE1 B1 => ?_
  refine alloc_i z_T_A128uint8 (vs := List.replicate 128 (.int .u8 0)) rfl fun w2 g2 hg2 hE2 B2 => ?_
  have l1 := hE1.le
  have l2 := hE2.le
  have B12 := B1.ex hE2 (by simp)
  have E2 := hE1.trans hE2
  have c0 : w2.cell? ⟨g1, 0 + 0, none⟩ = some (.int .u64 a) := B12.cell 0
  have c1 : w2.cell? ⟨g1, 0 + 1, none⟩ = some (.int .u64 b) := B12.cell 1
  have c2 : w2.cell? ⟨g1, 0 + 2, none⟩ = some (.int .i64 c) := B12.cell 2
  have c3 : w2.cell? ⟨g1, 0 + 3, none⟩ = some (.int .i64 d) := B12.cell 3
  have c4 : w2.cell? ⟨g1, 0 + 4, none⟩ = some (.int .i64 e) := B12.cell 4
  have c5 : w2.cell? ⟨g1, 0 + 5, none⟩ = some (.int .u32 f) := B12.cell 5
  rw [fA_T_ref05_Header_2, ld_one o_T_int c2, bin_lss]
  refine or_i (r := decide (65535 < c)) (fun _ k' hk' => by rw [fA_T_ref05_Header_2, ld_one o_T_int c2, bin_gtr]; exact hk') ?_
  refine or_i (r := decide (d < 0)) (fun _ k' hk' => by rw [fA_T_ref05_Header_3, ld_one o_T_int c3, bin_lss]; exact hk') ?_
  refine or_i (r := decide (65535 < d)) (fun _ k' hk' => by rw [fA_T_ref05_Header_3, ld_one o_T_int c3, bin_gtr]; exact hk') ?_
  refine or_i (r := decide (e < 0)) (fun _ k' hk' => by rw [fA_T_ref05_Header_4, ld_one o_T_int c4, bin_lss]; exact hk') ?_
  refine or_i (r := decide (65535 < e)) (fun _ k' hk' => by rw [fA_T_ref05_Header_4, ld_one o_T_int c4, bin_gtr]; exact hk') ?_
  have oka : okN 8 a = true := by unfold okN; rw [decide_eq_true ha0, Bool.true_and, decide_eq_true]; omega
  have okb : okN 8 b = true := by unfold okN; rw [decide_eq_true hb0, Bool.true_and, decide_eq_true]; omega
  have okf : okN 4 f = true := by unfold okN; rw [decide_eq_true hf0, Bool.true_and, decide_eq_true]; omega
  have hok : okNs wHeader [a, b, c, d, e, f] = !(((((decide (c < 0) || decide (65535 < c)) || decide (d < 0)) || decide (65535 < d)) || decide (e < 0)) || decide (65535 < e)) := by
    show (okN 8 a && (okN 8 b && (okN 2 c && (okN 2 d && (okN 2 e && (okN 4 f && true)))))) = _
    rw [oka, okb, okf, okN_2, okN_2, okN_2]
    cases decide (c < 0) <;> cases decide (65535 < c) <;> cases decide (d < 0) <;> cases decide (65535 < d) <;> cases decide (e < 0) <;> cases decide (65535 < e) <;> rfl
  refine wIf_i _ (fun hc => ?_) (fun hc => ?_)
  · refine wrB_none B2 fun w3 hE3 => ?_
    have := hk w3 (E2.new hE3 (by omega))
    unfold writeR at this
    rw [if_neg (by rw [hok, hc]; simp)] at this
    exact this
  · rw [hc] at hok
    simp only [Bool.or_eq_false_iff, decide_eq_false_iff_not] at hc
    obtain ⟨⟨⟨⟨⟨hc2, hc3⟩, hd2⟩, hd3⟩, he2⟩, he3⟩ := hc
    have hc2 : 0 ≤ c := by omega
    have hd2 : 0 ≤ d := by omega
    have he2 : 0 ≤ e := by omega
    refine draw_i fun w3 hE3 _ => ?_
    have l3 := hE3.le
    rw [fA_T_ref05_Header_0, ld_one o_T_uint64 (hE3.cell c0), fA_T_ref05_Header_1, ld_one o_T_uint64 (hE3.cell c1)]
    have ea : a = ((a.toNat : Nat) : Int) := by omega
    have eb : b = ((b.toNat : Nat) : Int) := by omega
    rw [ea, eb]
    refine ref01_Low (wd := 8) (by omega) (by omega) fun v4 w4 hE4 hO4 => ?_
    have l4 := hE4.le
    refine ⟨keep_cons (loadAt_one o_T_uint64 (by rw [← eb]; exact hE4.cell (hE3.cell c1))) keep_nil, ?_⟩
    refine app_low (wd := 8) hO4 (by rw [low_length]; omega) (by omega) (by omega) (by omega) fun v5 w5 hO5 hE5 => ?_
    have E5 : Ex [] w3 w5 := hE4.step hE5 fun y hy => .inr (hO4.newb y hy).1
    have l5 := E5.le
    rw [fA_T_ref05_Header_2, ld_one o_T_int (E5.cell (hE3.cell c2)), conv_i_u64 hc2 (by omega)]
    refine app_low (wd := 2) hO5 (by simp [low_length]) (by omega) (by omega) (by omega) fun v6 w6 hO6 hE6 => ?_
    have E6 : Ex [] w3 w6 := E5.step hE6 fun y hy => .inr (hO5.newb y hy).1
    have l6 := E6.le
    rw [fA_T_ref05_Header_3, ld_one o_T_int (E6.cell (hE3.cell c3)), conv_i_u64 hd2 (by omega)]
    refine app_low (wd := 2) hO6 (by simp [low_length]) (by omega) (by omega) (by omega) fun v7 w7 hO7 hE7 => ?_
    have E7 : Ex [] w3 w7 := E6.step hE7 fun y hy => .inr (hO6.newb y hy).1
    have l7 := E7.le
    rw [fA_T_ref05_Header_4, ld_one o_T_int (E7.cell (hE3.cell c4)), conv_i_u64 he2 (by omega)]
    refine app_low (wd := 2) hO7 (by simp [low_length]) (by omega) (by omega) (by omega) fun v8 w8 hO8 hE8 => ?_
    have E8 : Ex [] w3 w8 := E7.step hE8 fun y hy => .inr (hO7.newb y hy).1
    have l8 := E8.le
    rw [fA_T_ref05_Header_5, ld_one o_T_uint32 (E8.cell (hE3.cell c5)), conv_32_u64 ⟨hf0, hf1⟩]
    refine app_low (wd := 4) hO8 (by simp [low_length]) (by omega) (by omega) (by omega) fun v9 w9 hO9 hE9 => ?_
    have E9 : Ex [] w3 w9 := E8.step hE9 fun y hy => .inr (hO8.newb y hy).1
    have henc : low a.toNat 8 ++ low b.toNat 8 ++ low c.toNat 2 ++ low d.toNat 2 ++ low e.toNat 2 ++ low f.toNat 4 = encF wHeader [a, b, c, d, e, f] := by
      simp [encF, wHeader]
    rw [henc] at hO9
    refine ref02_MakeB (kind := 6) hO9.slg (by omega) (fun x hx => ?_) (by rw [← henc]; simp [low_length]) fun w10 hE10 => ?_
    · rw [← henc] at hx
      simp only [List.mem_append] at hx
      rcases hx with ((((h | h) | h) | h) | h) | h <;> exact low_lt _ _ x h
    · refine wrB_end (fun s h => sealMk_len h) (((B2.ex hE3 (by simp)).ex E9 (by simp)).ex hE10 (by simp)) fun w11 hE11 => ?_
      have := hk w11 ((((E2.trans hE3).trans E9).trans hE10).new hE11 (by omega))
      unfold writeR at this
      rw [if_pos ⟨rfl, by rw [hok]; rfl⟩] at this
      exact this
theorem bl_hdr {a b c d e f : Int} : wBuild P T_ref05_Header [(0, .int .u64 a), (1, .int .u64 b), (2, .int .i64 c), (3, .int .i64 d), (4, .int .i64 e), (5, .int .u32 f)] w K = K (.agg ⟨rc kHeader [a, b, c, d, e, f]⟩) w :=
  bl_T_ref05_Header (by rw [fill_cons (off := 0) (size := 1) rfl rfl rfl (by simp), fill_cons (off := 1) (size := 1) rfl rfl rfl (by simp [splice]), fill_cons (off := 2) (size := 1) rfl rfl rfl (by simp [splice]), fill_cons (off := 3) (size := 1) rfl rfl rfl (by simp [splice]), fill_cons (off := 4) (size := 1) rfl rfl rfl (by simp [splice]), fill_cons (off := 5) (size := 1) rfl rfl rfl (by simp [splice])]; rfl)
theorem bl_chdr {a b c d e f : Int} : wBuild P T_codec_Header [(0, .int .u64 a), (1, .int .u64 b), (2, .int .i64 c), (3, .int .i64 d), (4, .int .i64 e), (5, .int .u32 f)] w K = K (.agg ⟨rc kHeader [a, b, c, d, e, f]⟩) w :=
  bl_T_codec_Header (by rw [fill_cons (off := 0) (size := 1) rfl rfl rfl (by simp), fill_cons (off := 1) (size := 1) rfl rfl rfl (by simp [splice]), fill_cons (off := 2) (size := 1) rfl rfl rfl (by simp [splice]), fill_cons (off := 3) (size := 1) rfl rfl rfl (by simp [splice]), fill_cons (off := 4) (size := 1) rfl rfl rfl (by simp [splice]), fill_cons (off := 5) (size := 1) rfl rfl rfl (by simp [splice])]; rfl)
theorem numOf_lt2 {bs : List Nat} (h : ∀ b ∈ bs, b < 256) (n : Nat) (hn : bs.length ≤ n) : numOf bs < 256 ^ n := Nat.lt_of_lt_of_le (numOf_lt bs h) (Nat.pow_le_pow_right (by omega) hn)
theorem ref05_ReadHeader {s : List Nat} {k : Value → World → Prop} (hs : s.length = 128) (hb : ∀ b ∈ s, b < 256)
    (hk : ∀ w', Ex [] w w' → k (.tuple #[.agg ⟨rc kHeader ((readR 6 wHeader (fun _ => true) s).getD (zs kHeader))⟩, .bool (readR 6 wHeader (fun _ => true) s).isSome]) w') : wCall P n_ref05_ReadHeader [sv s] w k := by
  refine call_ref05_ReadHeader _ ?_
  unfold F_ref05_ReadHeader
  have hzH : zeroT P T_ref05_Header = some (.agg ⟨rc kHeader (zs kHeader)⟩) := by kernel_rfl
  refine box_i (sv_cells s) fun w1 g1 hg1 hE1 B1 => ?_
  refine alloc_i hzH (vs := rc kHeader (zs kHeader)) rfl fun w2 g2 hg2 hE2 B2 => ?_
  have l1 := hE1.le
  have l2 := hE2.le
  have E2 := hE1.trans hE2
  rw [ld_sector g_T_A128uint8 hs (B1.ex hE2 (by simp))]
  have bad : ∀ wa, Ex [] w2 wa → readR 6 wHeader (fun _ => true) s = none → (wBuild P T_ref05_Header [] wa fun t24 w => wStore P T_ref05_Header (ptr g2) t24 w fun w => wRes P T_ref05_Header (ptr g2) w fun r2 => k (.tuple #[r2, (.bool false)]) w) := by
    intro wa hEa h
    rw [bl_T_ref05_Header (cs := rc kHeader (zs kHeader)) rfl]
    refine st_all g_T_ref05_Header (rc_length (zs_length _)) (rc_isC _ _) (B2.ex hEa (by simp)) (rc_length (zs_length _)) fun w6 hE6 B6 => ?_
    refine res_agg g_T_ref05_Header B6.all (rc_length (zs_length _)) ?_
    have := hk w6 ((E2.trans hEa).new hE6 (by omega))
    rw [h] at this
    exact this
  refine ref02_Open hs hb (fun hno w4 hE4 => ?_) (fun kd body hop v w4 hE4 hO4 => ?_)
  · rw [ext_0, ext_1, ext_2, un_not]
    refine or_i (r := true) (fun h => by cases h) ?_
    refine or_i (r := true) (fun h => by cases h) ?_
    rw [show ((!false || true) || true) = true from rfl, wIf_t]
    exact bad w4 hE4 (by unfold readR; rw [hno])
  · rw [ext_0, ext_1, ext_2, un_not]
    refine or_i (r := !decide (kd = 6)) (fun _ k' hk' => ?_) ?_
    · rw [bin_neq]
      have : decide ((kd : Int) ≠ 6) = !decide (kd = 6) := by rw [← decide_not, decide_eq_decide]; omega
      rw [this]
      exact hk'
    refine or_i (r := !decide (body.length = 26)) (fun _ k' hk' => ?_) ?_
    · rw [hO4.slg.len_i u_T_Luint8 (by omega) (n := body.length) (by rw [bvs_length]; omega), bin_neq]
      have : decide ((body.length : Int) ≠ 26) = !decide (body.length = 26) := by rw [← decide_not, decide_eq_decide]; omega
      rw [this]
      exact hk'
    refine wIf_i _ (fun hc => ?_) (fun hc => ?_)
    · refine bad w4 hE4 ?_
      unfold readR
      rw [hop]
      simp only [Bool.not_true, Bool.false_or, Bool.or_eq_true, Bool.not_eq_true', decide_eq_false_iff_not] at hc
      dsimp only
      rw [if_neg]
      rintro ⟨h1, h2, _⟩
      rcases hc with h | h
      · exact h h1
      · exact h h2
    · simp only [Bool.not_true, Bool.false_or, Bool.or_eq_false_iff, Bool.not_eq_false', decide_eq_true_eq] at hc
      obtain ⟨hk6, hl⟩ := hc
      have hres : readR 6 wHeader (fun _ => true) s = some (decF wHeader body) := by
        unfold readR
        rw [hop]
        dsimp only
        rw [if_pos ⟨hk6, hl, rfl⟩]
      have hbb := (sealOp_lt hb hop).2
      refine draw_i fun w5 hE5 _ => ?_
      have S := (hO4.ex0 hE5).slg
      refine S.hi s_T_Luint8 (n := 26) (by omega) (by rw [bvs_length]; omega) (by omega) (by omega) fun va _ Sa => ?_
      have ea : (bvs body).take ((8 : Int).toNat * 1) = bvs (body.take 8) := by unfold bvs; rw [List.map_take]; rfl
      rw [ea] at Sa
      refine S.subs s_T_Luint8 (i := 8) (j := 16) rfl rfl (by omega) (by omega) fun vb Sb => ?_
      refine S.subs s_T_Luint8 (i := 16) (j := 18) rfl rfl (by omega) (by omega) fun vc Sc => ?_
      refine S.subs s_T_Luint8 (i := 18) (j := 20) rfl rfl (by omega) (by omega) fun vd Sd => ?_
      refine S.subs s_T_Luint8 (i := 20) (j := 22) rfl rfl (by omega) (by omega) fun ve Se => ?_
      refine S.los s_T_Luint8 (i := 22) rfl (by omega) fun vf Sf => ?_
      have hdt : ∀ i n, ∀ x ∈ (body.drop i).take n, x < 256 := fun i n x hx => hbb x (List.mem_of_mem_drop (List.mem_of_mem_take hx))
      refine ref01_Num Sa (fun x hx => hbb x (List.mem_of_mem_take hx)) (by simp; omega) ?_
      refine ref01_Num Sb (hdt _ _) (by simp; omega) ?_
      refine ref01_Num Sc (hdt _ _) (by simp; omega) ?_
      rw [conv_u64_i (numOf_lt2 (hdt _ _) 2 (by simp; omega))]
      refine ref01_Num Sd (hdt _ _) (by simp; omega) ?_
      rw [conv_u64_i (numOf_lt2 (hdt _ _) 2 (by simp; omega))]
      refine ref01_Num Se (hdt _ _) (by simp; omega) ?_
      rw [conv_u64_i (numOf_lt2 (hdt _ _) 2 (by simp; omega))]
      refine ref01_Num Sf (fun x hx => hbb x (List.mem_of_mem_drop hx)) (by simp; omega) ?_
      rw [conv_u64_32 (numOf_lt2 (fun x hx => hbb x (List.mem_of_mem_drop hx)) 4 (by simp; omega))]
      have hdec : decF wHeader body = [((numOf (body.take 8) : Nat) : Int), ((numOf ((body.drop 8).take 8) : Nat) : Int), ((numOf ((body.drop 16).take 2) : Nat) : Int), ((numOf ((body.drop 18).take 2) : Nat) : Int), ((numOf ((body.drop 20).take 2) : Nat) : Int), ((numOf (body.drop 22) : Nat) : Int)] := by
        simp only [wHeader, decF, List.drop_drop]
        rw [List.take_of_length_le (l := List.drop _ body) (i := 4) (by simp; omega)]
      rw [bl_hdr, ← hdec]
      have hdl : (decF wHeader body).length = 6 := decF_length _ _
      refine st_all g_T_ref05_Header (rc_length hdl) (rc_isC _ _) ((B2.ex hE4 (by simp)).ex hE5 (by simp)) (rc_length (zs_length _)) fun w9 hE9 B9 => ?_
      refine res_agg g_T_ref05_Header B9.all (rc_length hdl) ?_
      have := hk w9 (((E2.trans hE4).trans hE5).new hE9 (by omega))
      rw [hres] at this
      exact this
theorem codec_ReadHeaderV {s : List Nat} {k : Value → World → Prop} (hs : s.length = 128) (hb : ∀ b ∈ s, b < 256)
    (hk : ∀ w', Ex [] w w' → k (.tuple #[.agg ⟨rc kHeader ((readR 6 wHeader (fun _ => true) s).getD (zs kHeader))⟩, .int .i64 (if (readR 6 wHeader (fun _ => true) s).isSome = true then 0 else 21)]) w') : wCall P n_codec_ReadHeader [sv s] w k :=
  codec_ReadHeader hs hb (fun h w' hE => by have := hk w' hE; rw [h] at this; exact this) fun r h w' hE => by have := hk w' hE; rw [h] at this; exact this
theorem readR_len {kind : Nat} {ws : List Nat} {m : List Int → Bool} {s : List Nat} {r : List Int} (h : readR kind ws m s = some r) : r.length = ws.length := by
  unfold readR at h
  split at h
  · split at h
    · injection h with h; rw [← h, decF_length]
    · cases h
  · cases h
end
end Go.Dn
end
section
/-! Summaries are read. -/
set_option maxRecDepth 10000
set_option linter.unusedVariables false
set_option linter.unusedSimpArgs false
namespace Go.Dn
open Go
def rdS1 (s : List Nat) : Option Sm :=
  match sealOp s with
  | some (k, body) => if k = 3 then (match rdSm body with | some x => if mayEs x.es = true then some x else none | none => none) else none
  | none => none
def rdS2 (s : List Nat) : Option Sm :=
  match rdS1 s with
  | some x => if writeSm x = some s then some x else none
  | none => none
theorem cells_isC (x : Sm) {v : Value} (hv : isC v = true) : ∀ u ∈ x.cells v, isC u = true := by
  intro u hu
  simp only [Sm.cells, List.mem_cons, List.not_mem_nil, or_false] at hu
  rcases hu with rfl | rfl | rfl | rfl | rfl | rfl <;> first | rfl | exact hv
theorem own_isC {w : World} {base size : Nat} {e : TypeId} {v : Value} {xs : List Value} (h : Own w base e size v xs) : isC v = true := by
  obtain ⟨m', hl', hv'⟩ := h
  rcases hv' with ⟨rfl, _⟩ | ⟨g, cap, cur, rfl, _⟩ <;> rfl
theorem nb_rng {body : List Nat} (hb : ∀ b ∈ body, b < 256) (a n : Nat) : 0 ≤ nb body a n ∧ nb body a n < ((256 ^ n : Nat) : Int) := by
  have := numOf_lt2 (bs := (body.drop a).take n) (fun b h => hb b (List.mem_of_mem_drop (List.mem_of_mem_take h))) n (by simp; omega)
  unfold nb
  omega
theorem smOf_ok {body : List Nat} {es : List (List Int)} (hb : ∀ b ∈ body, b < 256) (hw : wid wEnt es) (hok : okR wEnt es = true) : (smOf body es).ok := by
  have h0 := nb_rng hb 0 8
  have h8 := nb_rng hb 8 8
  have h18 := nb_rng hb 18 2
  have h20 := nb_rng hb 20 4
  refine ⟨?_, ?_, ?_, ?_, fun r hr => (hw r hr).symm, fun r hr => ?_⟩
  · exact ⟨h0.1, by have := h0.2; show nb body 0 8 < 18446744073709551616; omega⟩
  · exact ⟨h8.1, by have := h8.2; show nb body 8 8 < 18446744073709551616; omega⟩
  · exact ⟨by have := h18.1; show -9223372036854775808 ≤ nb body 18 2; omega, by have := h18.2; show nb body 18 2 ≤ 9223372036854775807; omega⟩
  · exact ⟨h20.1, by have := h20.2; show nb body 20 4 < 4294967296; omega⟩
  · have h1 := hw r hr
    have h2 : okNs wEnt r = true := (List.all_eq_true.1 hok) r hr
    match r, h1 with
    | [a, b, c, d], _ =>
      simp only [wEnt, okNs, Bool.and_eq_true] at h2
      have := okN_rng h2.1 (by omega)
      have := okN_rng h2.2.1 (by omega)
      have := okN_rng h2.2.2.1 (by omega)
      have := okN_rng h2.2.2.2.1 (by omega)
      exact ⟨⟨by omega, by omega⟩, ⟨by omega, by omega⟩, ⟨by omega, by omega⟩, ⟨by omega, by omega⟩, trivial⟩
theorem rdSm_ok {body : List Nat} {x : Sm} (hb : ∀ b ∈ body, b < 256) (h : rdSm body = some x) : x.ok ∧ ∃ es, recsOf wEnt (body.drop 24) = some es ∧ x = smOf body es ∧ 24 ≤ body.length := by
  unfold rdSm at h
  split at h
  · rename_i hl
    split at h
    · rename_i es hes
      injection h with h
      subst h
      obtain ⟨h1, h2⟩ := recsOf_ok hes fun y hy => hb y (List.mem_of_mem_drop hy)
      exact ⟨smOf_ok hb h1 h2, es, hes, rfl, hl⟩
    · cases h
  · cases h
section
variable {w : World}
theorem codec_read_Summary {s : List Nat} {k : Value → World → Prop} (hs : s.length = 128) (hb : ∀ b ∈ s, b < 256)
    (hk : ∀ v w', Ex [] w w' → Own w' w.heap.size T_codec_Entry 4 v (rcs kEntry ((rdS1 s).getD sm0).es) → k (.tuple #[.agg ⟨((rdS1 s).getD sm0).cells v⟩, .int .i64 (if (rdS1 s).isSome = true then 0 else 21)]) w') :
    wCall P n_codec_read_codec_Summary [.int .u8 3, sv s, .func (.func n_codec_passSummary) #[] #[], .func (.func n_codec_maySummary) #[] #[]] w k := by
  have hW : ∀ {a0 a1 a2 a3 : Value} {w : World} {k : Value → World → Prop}, G_readS T_codec_Summary a0 a1 a2 a3 w k → wCall P n_codec_read_codec_Summary [a0, a1, a2, a3] w k := fun h => call_codec_read_codec_Summary _ _ _ _ h
  refine hW ?_
  unfold G_readS
  have hT := g_T_codec_Summary
  have hz : zeroT P T_codec_Summary = some (.agg ⟨sm0.cells (.slice none 0 0)⟩) := z_T_codec_Summary
  have hzl : (sm0.cells (.slice none 0 0)).length = 6 := rfl
  refine box_i (sv_cells s) fun w1 g1 hg1 hE1 B1 => ?_
  refine alloc_i hz (vs := sm0.cells (.slice none 0 0)) rfl fun w2 g2 hg2 hE2 B2 => ?_
  refine alloc_i hz (vs := sm0.cells (.slice none 0 0)) rfl fun w3 g3 hg3 hE3 B3 => ?_
  refine alloc_i hz (vs := sm0.cells (.slice none 0 0)) rfl fun w4 g4 hg4 hE4 B4 => ?_
  have l1 := hE1.le
  have l2 := hE2.le
  have l3 := hE3.le
  have l4 := hE4.le
  have lt1 := B1.lt
  have lt2 := B2.lt
  have lt3 := B3.lt
  have B24 := (B2.ex hE3 (by simp)).ex hE4 (by simp)
  have B34 := B3.ex hE4 (by simp)
  rw [ld_sector g_T_api_Sector hs (((B1.ex hE2 (by simp)).ex hE3 (by simp)).ex hE4 (by simp))]
  have E4 : Ex [] w w4 := ((hE1.trans hE2).trans hE3).trans hE4
  have out : ∀ w5 g (x : Sm) (v : Value) e, Ex [] w w5 → Blk w5 g2 T_codec_Summary (sm0.cells (.slice none 0 0)) → Blk w5 g T_codec_Summary (x.cells v) → isC v = true → (∀ w', Ex [] w w' → Ex [g2] w5 w' → k (.tuple #[.agg ⟨x.cells v⟩, .int .i64 e]) w') →
      (wLoad P T_codec_Summary (ptr g) w5 fun t29 w => wStore P T_codec_Summary (ptr g2) t29 w fun w => wRes P T_codec_Summary (ptr g2) w fun r8 => k (.tuple #[r8, (.int .i64 e)]) w) := by
    intro w5 g x v e hE5 B5 Bg hv hk'
    rw [ld_aggT hT rfl _ _ _ Bg]
    refine st_all hT rfl (cells_isC x hv) B5 rfl fun w6 hE6 B6 => ?_
    refine res_agg hT B6.all rfl ?_
    exact hk' w6 (hE5.new hE6 (by omega)) hE6
  have bad : ∀ w5, Ex [] w w5 → Blk w5 g2 T_codec_Summary (sm0.cells (.slice none 0 0)) → Blk w5 g4 T_codec_Summary (sm0.cells (.slice none 0 0)) → rdS1 s = none →
      (wLoad P T_codec_Summary (ptr g4) w5 fun t29 w => wStore P T_codec_Summary (ptr g2) t29 w fun w => wRes P T_codec_Summary (ptr g2) w fun r8 => k (.tuple #[r8, (.int .i64 21)]) w) := by
    intro w5 hE5 B5 Bg hno
    refine out w5 g4 sm0 (.slice none 0 0) 21 hE5 B5 Bg rfl fun w' hE' _ => ?_
    have := hk (.slice none 0 0) w' hE' (by rw [hno]; exact Own.nil _ _ _ _)
    rw [hno] at this
    exact this
  refine seal_Open hs hb (fun hno w5 hE5 => ?_) (fun kd body hop bv w5 hE5 hO5 => ?_)
  · rw [ext_0, ext_1, ext_2, bin_neq]
    refine or_i (r := true) (fun h => absurd h (by simp)) ?_
    rw [Bool.or_true, wIf_t]
    exact bad w5 (E4.trans hE5) (B24.ex hE5 (by simp)) (B4.ex hE5 (by simp)) (by simp [rdS1, hno])
  · have l5 := hE5.le
    have E5 : Ex [] w w5 := E4.trans hE5
    have hbl := sealOp_len hop
    have hbt := sealOp_lt hb hop
    have B25 := B24.ex hE5 (by simp)
    have B35 := B34.ex hE5 (by simp)
    have B45 := B4.ex hE5 (by simp)
    rw [ext_0, ext_1, ext_2, bin_neq]
    refine or_i (r := decide (((kd : Nat) : Int) ≠ 3)) (fun _ k' hk' => by rw [bin_neq]; exact hk') ?_
    rw [show decide ((0 : Int) ≠ 0) = false from by decide, Bool.false_or]
    refine wIf_d (fun hne => ?_) (fun heq => ?_)
    · have hne : kd ≠ 3 := by omega
      exact bad w5 E5 B25 B45 (by simp [rdS1, hop, hne])
    · have hkk : kd = 3 := by omega
      subst hkk
      refine rd_new (hO5.base (Nat.zero_le _)) hbt.2 hbl fun w6 h hh hE6 H6 => ?_
      have l6 := hE6.le
      rw [iface_i u_preader, callv_0]
      have hfp : ∀ x ∈ h :: bv.ownBlock.toList, w4.heap.size ≤ x := by
        intro x hx
        rcases List.mem_cons.1 hx with rfl | hx
        · omega
        · exact (hO5.newb x hx).1
      have lt4 := B4.lt
      have B36 := B35.ex hE6 (by simp)
      have hg3 : g3 ∉ h :: bv.ownBlock.toList := fun hmm => by have := hfp _ hmm; omega
      obtain ⟨N, hN, hm, hmN, hcase⟩ := rd_sum body hbl
      have hpl := pre_len body
      refine pass_pre (rform h body) (x := sm0) (v := .slice none 0 0) (xs := []) (n := 0) H6 B36 hg3 (fun w' hE' K => len_slb (t := T_Lcodec_Entry) (SlG.nil w' 4) (by omega) (n := 0) rfl w' K u_T_Lcodec_Entry) sm0_ok (by simp [sm0]) (show (0 : Nat) ≤ 900000 by omega) fun w7 fp7 hE7 H7 hfp7 B7 => ?_
      have l7 := hE7.le
      have H7 : RdS h body w7 (runS (rstp body) (0, false) wSum sm0.nums) fp7 := H7
      have B7 : Blk w7 g3 T_codec_Summary (preV body (.slice none 0 0)) := B7
      have hg37 : g3 ∉ fp7 := fun hmm => (hfp7 _ hmm).elim hg3 fun hq => by omega
      refine list_rd (ws := wEnt) (N := N) el_Entry lc_Entry pass_Entry H7 B7 (lo := 5) rfl hg37 rfl (by omega) (by rw [hpl.1, show wEnt.sum = 9 by simp [wEnt]]; omega) hm hmN fun w8 v8 fp8 hE8 H8 hfp8 hv8 hO8 B8 => ?_
      have l8 := hE8.le
      have nfp7 : ∀ x ∈ fp7, w4.heap.size ≤ x := fun x hx => by
        rcases hfp7 x hx with hq | hq
        · exact hfp x hq
        · omega
      have off7 : ∀ x, x < w4.heap.size → x ≠ g3 → x ∉ (g3 :: h :: bv.ownBlock.toList) := by
        intro x hx hne hmm
        rcases List.mem_cons.1 hmm with hmm | hmm
        · exact hne hmm
        · have := hfp x hmm; omega
      have off8 : ∀ x, x < w4.heap.size → x ≠ g3 → x ∉ (g3 :: fp7) := by
        intro x hx hne hmm
        rcases List.mem_cons.1 hmm with hmm | hmm
        · exact hne hmm
        · have := nfp7 x hmm; omega
      have E8 : Ex [] w w8 := ((E5.trans hE6).step hE7 fun x hx => by
        rcases List.mem_cons.1 hx with rfl | hx
        · exact .inr (by omega)
        · have := hfp x hx; exact .inr (by omega)).step hE8 fun x hx => by
        rcases List.mem_cons.1 hx with rfl | hx
        · exact .inr (by omega)
        · have := nfp7 x hx; exact .inr (by omega)
      have hE78 : ∀ x, x < w4.heap.size → x ≠ g3 → ∀ {u cs}, Blk w6 x u cs → Blk w8 x u cs := fun x hx hne u cs B => (B.ex hE7 (off7 x hx hne)).ex hE8 (off8 x hx hne)
      have B28 := hE78 g2 (by omega) (by omega) (B25.ex hE6 (by simp))
      have B48 := hE78 g4 (by omega) (by omega) (B45.ex hE6 (by simp))
      have B8 : Blk w8 g3 T_codec_Summary (preV body v8) := B8
      obtain ⟨bv', hBr, hSr, _, _, hner, _⟩ := H8
      have hlen : ∀ (K : Value → World → Prop), wLen P .len #[T_Luint8] [bv] w8 K = K (.int .i64 (body.length : Int)) w8 := by
        intro K
        obtain ⟨A, c, e⟩ := hO5.slice (by omega) (n := body.length) (by rw [bvs_length]; omega)
        rw [e, len_s u_T_Luint8]
      simp only [nil_ptr, fA_T_codec_reader_1, fA_T_codec_reader_2, Nat.zero_add]
      rw [ld_one o_T_bool (hBr.cell 2)]
      rcases hcase with ⟨hrec, hbd⟩ | ⟨x, hrec, hst, hrv, hpv⟩
      · rw [hbd]
        refine or_i (r := true) (fun h => by cases h) ?_
        refine or_i (r := true) (fun h => by cases h) ?_
        rw [Bool.or_true, wIf_t]
        exact bad w8 E8 B28 B48 (by simp [rdS1, hop, hrec])
      · rw [hst] at hBr ⊢
        rw [hrv] at hO8
        rw [hpv v8] at B8
        obtain ⟨hxok, _⟩ := rdSm_ok hbt.2 hrec
        have hlr := hxok.2.2.2.2.1
        have hrn : x.es.length ≤ 1000 := by rw [← hrv, runRV_length, List.length_replicate]; omega
        refine or_i (r := false) (fun _ k' hk' => ?_) ?_
        · rw [ld_one o_T_int (hBr.cell 1), hlen, bin_neq]
          simpa using hk'
        refine or_w (r := !(mayEs x.es)) (fun _ k' hk' => ?_) fun w9 hE9 => ?_
        · rw [ld_aggT hT rfl _ _ _ B8]
          refine may_Summary hO8.slg hlr (by omega) fun w9 hE9 => ?_
          rw [un_not]
          exact hk' w9 hE9
        rw [Bool.false_or]
        refine wIf_i _ (fun hc => ?_) (fun hc => ?_)
        · have hc : mayEs x.es = false := by simpa using hc
          exact bad w9 (E8.trans hE9) (B28.ex hE9 (by simp)) (B48.ex hE9 (by simp)) (by simp [rdS1, hop, hrec, hc])
        · have hc : mayEs x.es = true := by simpa using hc
          have hr : rdS1 s = some x := by simp [rdS1, hop, hrec, hc]
          refine out w9 g3 x v8 0 (E8.trans hE9) (B28.ex hE9 (by simp)) (B8.ex hE9 (by simp)) (own_isC hO8) fun w' hE' hE9' => ?_
          have hOw := ((hO8.ex0 hE9).base (show w.heap.size ≤ w7.heap.size by omega)).ex hE9' fun g hg hm => by
            have := hO8.newb g (by rw [hg]; simp)
            simp at hm
            omega
          have := hk v8 w' hE' (by rw [hr]; exact hOw)
          rw [hr] at this
          exact this
end
end Go.Dn
end
