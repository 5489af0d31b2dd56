import Derived.Test.YtflnhihdbhjlnaaMem7
/-! '==' of structs and arrays whose cells are whole numbers and truths. -/
set_option linter.unusedVariables false
set_option linter.unusedSimpArgs false
namespace Go.Dn
open Go
inductive Lf where
  | i (k : IntKind)
  | b
def wf1 (l : Lf) (v : Value) : Prop :=
  match l, v with
  | .i k, .int k' _ => k = k'
  | .b, .bool _ => True
  | _, _ => False
def wfV : List Lf → List Value → Prop
  | [], [] => True
  | l :: ls, v :: vs => wf1 l v ∧ wfV ls vs
  | _, _ => False
def eq1 (x y : Value) : Bool :=
  match x, y with
  | .int _ a, .int _ b => a == b
  | .bool a, .bool b => a == b
  | _, _ => false
def eqV : List Value → List Value → Bool
  | [], [] => true
  | x :: xs, y :: ys => eq1 x y && eqV xs ys
  | _, _ => false
theorem wfV_length : ∀ {ls : List Lf} {xs : List Value}, wfV ls xs → xs.length = ls.length
  | [], [], _ => rfl
  | _ :: ls, _ :: xs, h => by simp only [List.length_cons]; rw [wfV_length h.2]
  | [], _ :: _, h => h.elim
  | _ :: _, [], h => h.elim
theorem wfV_append : ∀ {l1 l2 : List Lf} {x1 x2 : List Value}, x1.length = l1.length → (wfV (l1 ++ l2) (x1 ++ x2) ↔ wfV l1 x1 ∧ wfV l2 x2)
  | [], l2, [], x2, _ => by simp [wfV]
  | _ :: l1, l2, _ :: x1, x2, h => by
    simp only [List.cons_append, wfV]
    rw [wfV_append (by simpa using h), and_assoc]
  | [], _, _ :: _, _, h => by simp at h
  | _ :: _, _, [], _, h => by simp at h
theorem eqV_append : ∀ {x1 y1 x2 y2 : List Value}, x1.length = y1.length → eqV (x1 ++ x2) (y1 ++ y2) = (eqV x1 y1 && eqV x2 y2)
  | [], [], _, _, _ => by simp [eqV]
  | _ :: x1, _ :: y1, x2, y2, h => by
    simp only [List.cons_append, eqV]
    rw [eqV_append (by simpa using h), Bool.and_assoc]
  | [], _ :: _, _, _, h => by simp at h
  | _ :: _, [], _, _, h => by simp at h
theorem eqV_iff : ∀ {ls : List Lf} {xs ys : List Value}, wfV ls xs → wfV ls ys → (eqV xs ys = true ↔ xs = ys)
  | [], [], [], _, _ => by simp [eqV]
  | l :: ls, x :: xs, y :: ys, hx, hy => by
    simp only [eqV, Bool.and_eq_true, eqV_iff hx.2 hy.2, List.cons.injEq]
    have : eq1 x y = true ↔ x = y := by
      have h1 := hx.1
      have h2 := hy.1
      cases l <;> cases x <;> first | exact h1.elim | skip
      · cases y <;> first | exact h2.elim | skip
        unfold wf1 at h1 h2
        subst h1; subst h2
        simp [eq1]
      · cases y <;> first | exact h2.elim | skip
        simp [eq1]
    rw [this]
  | [], _ :: _, _, h, _ => h.elim
  | [], [], _ :: _, _, h => h.elim
  | _ :: _, [], _, h, _ => h.elim
  | _ :: _, _ :: _, [], _, h => h.elim
theorem wfV_split : ∀ (l1 l2 : List Lf) {xs : List Value}, wfV (l1 ++ l2) xs → ∃ x1 x2, xs = x1 ++ x2 ∧ wfV l1 x1 ∧ wfV l2 x2
  | [], l2, xs, h => ⟨[], xs, rfl, trivial, h⟩
  | l :: l1, l2, x :: xs, h => by
    obtain ⟨x1, x2, rfl, h1, h2⟩ := wfV_split l1 l2 h.2
    exact ⟨x :: x1, x2, rfl, ⟨h.1, h1⟩, h2⟩
  | _ :: _, _, [], h => h.elim
def vOf (a : Bool) (xs : List Value) : Value := if a = true then .agg ⟨xs⟩ else xs.headD undef
structure EqT (P : Program) (D : Nat) (t : TypeId) (a : Bool) (ls : List Lf) : Prop where
  size : ∀ w, (sizeOf t).run P w = .ok ls.length w
  part : ∀ (w : World) (pre xs post : List Value), xs.length = ls.length → (Go.part t ⟨pre ++ xs ++ post⟩ pre.length).run P w = .ok (vOf a xs) w
  heq : ∀ (d : Nat) (w : World) (xs ys : List Value), wfV ls xs → wfV ls ys → (Op.equalIn (d + D) t (vOf a xs) (vOf a ys)).run P w = .ok (eqV xs ys) w
section
variable {P : Program}
theorem EqT.le {D D' : Nat} {t : TypeId} {a : Bool} {ls : List Lf} (h : EqT P D t a ls) (hD : D ≤ D') : EqT P D' t a ls :=
  ⟨h.size, h.part, fun d w xs ys hx hy => by have := h.heq (d + (D' - D)) w xs ys hx hy; rwa [show d + (D' - D) + D = d + D' by omega] at this⟩
theorem part_cell {t : TypeId} (ho : oneT P t = true) (w : World) (pre xs post : List Value) (hl : xs.length = 1) : (Go.part t ⟨pre ++ xs ++ post⟩ pre.length).run P w = .ok (vOf false xs) w := by
  match xs, hl with
  | [x], _ =>
    have := part_one (v := x) (cs := ⟨pre ++ [x] ++ post⟩) (o := pre.length) ho (by simp) w
    exact this
theorem eqT_int {t : TypeId} {k : IntKind} (ho : oneT P t = true) (hu : P.underlying t = some (.int k)) : EqT P 1 t false [.i k] := by
  refine ⟨fun w => sizeOf_one ho w, fun w pre xs post hl => part_cell ho w pre xs post hl, fun d w xs ys hx hy => ?_⟩
  match xs, ys, hx, hy with
  | [x], [y], hx, hy =>
    have h1 := hx.1
    have h2 := hy.1
    cases x <;> first | exact h1.elim | skip
    cases y <;> first | exact h2.elim | skip
    unfold wf1 at h1 h2
    subst h1; subst h2
    simp only [eqV, eq1, Bool.and_true, vOf, Bool.false_eq_true, if_false, List.headD_cons]
    exact eqIn_int d _ _ (by assumption) w
theorem eqT_bool {t : TypeId} (ho : oneT P t = true) (hu : P.underlying t = some .bool) : EqT P 1 t false [.b] := by
  refine ⟨fun w => sizeOf_one ho w, fun w pre xs post hl => part_cell ho w pre xs post hl, fun d w xs ys hx hy => ?_⟩
  match xs, ys, hx, hy with
  | [x], [y], hx, hy =>
    have h1 := hx.1
    have h2 := hy.1
    cases x <;> first | exact h1.elim | skip
    cases y <;> first | exact h2.elim | skip
    simp only [eqV, eq1, Bool.and_true, vOf, Bool.false_eq_true, if_false, List.headD_cons]
    exact eqIn_bool d _ _ hu w
theorem part_agg {t : TypeId} {n : Nat} (hT : aggT P t n = true) (w : World) (pre xs post : List Value) (hl : xs.length = n) : (Go.part t ⟨pre ++ xs ++ post⟩ pre.length).run P w = .ok (vOf true xs) w := by
  unfold Go.part
  simp only [Sem.run_bind, isAgg_agg hT, Result.andThen_ok, if_true, sizeOf_agg hT, Sem.run_pure]
  congr 2
  apply Array.toList_inj.1
  simp [List.take_append, hl]
/-- The fields of a struct, from a cell on. -/
def Chain (P : Program) (D : Nat) : Nat → List (Nat × TypeId × Bool × List Lf) → Prop
  | _, [] => True
  | off, (o, ty, a, ls) :: L => o = off ∧ EqT P D ty a ls ∧ Chain P D (off + ls.length) L
def leavesOf (L : List (Nat × TypeId × Bool × List Lf)) : List Lf := L.flatMap fun x => x.2.2.2
theorem eqFields_chain {D : Nat} (d : Nat) (w : World) : ∀ (fs : List Field) (L : List (Nat × TypeId × Bool × List Lf)) (off : Nat) (px py xs ys : List Value), fs.map (fun f => (f.name == "_", f.offset, f.type)) = L.map (fun x => (false, x.1, x.2.1)) → Chain P D off L → px.length = off → py.length = off → wfV (leavesOf L) xs → wfV (leavesOf L) ys →
    (Op.eqFields (d + D) ⟨px ++ xs⟩ ⟨py ++ ys⟩ fs).run P w = .ok (eqV xs ys) w
  | [], [], off, px, py, xs, ys, _, _, _, _, hx, hy => by
    match xs, ys, hx, hy with
    | [], [], _, _ => rfl
  | f :: fs, (o, ty, a, ls) :: L, off, px, py, xs, ys, hm, hc, hpx, hpy, hx, hy => by
    simp only [List.map_cons, List.cons.injEq, Prod.mk.injEq] at hm
    obtain ⟨⟨h1, h2, h3⟩, hm⟩ := hm
    obtain ⟨ho, hE, hc⟩ := hc
    obtain ⟨x1, x2, rfl, hx1, hx2⟩ := wfV_split ls (leavesOf L) (show wfV (ls ++ leavesOf L) xs from hx)
    obtain ⟨y1, y2, rfl, hy1, hy2⟩ := wfV_split ls (leavesOf L) (show wfV (ls ++ leavesOf L) ys from hy)
    have lx := wfV_length hx1
    have ly := wfV_length hy1
    have hname : f.name ≠ "_" := by simpa using h1
    unfold Op.eqFields
    rw [if_pos hname, h3, h2, ho]
    have p1 := hE.part w px x1 x2 lx
    have p2 := hE.part w py y1 y2 ly
    rw [hpx] at p1
    rw [hpy] at p2
    rw [← List.append_assoc, ← List.append_assoc]
    simp only [Sem.run_bind, p1, p2, Result.andThen_ok, hE.heq d w x1 y1 hx1 hy1]
    rw [eqV_append (by omega)]
    cases he : eqV x1 y1
    · simp [Sem.run_pure]
    · simp only [Bool.not_true, Bool.false_eq_true, if_false, Bool.true_and]
      exact eqFields_chain d w fs L (off + ls.length) (px ++ x1) (py ++ y1) x2 y2 hm hc (by simp; omega) (by simp; omega) hx2 hy2
  | [], _ :: _, _, _, _, _, _, h, _, _, _, _, _ => by simp at h
  | _ :: _, [], _, _, _, _, _, h, _, _, _, _, _ => by simp at h
theorem eqT_struct {D : Nat} {t : TypeId} {L : List (Nat × TypeId × Bool × List Lf)} (ht : P.underlying t = some (.struct (P.fieldsOf t))) (hp : P.stoodInHeld t = false) (hT : aggT P t (leavesOf L).length = true)
    (hm : (P.fieldsOf t).toList.map (fun f => (f.name == "_", f.offset, f.type)) = L.map (fun x => (false, x.1, x.2.1))) (hc : Chain P D 0 L) : EqT P (D + 1) t true (leavesOf L) := by
  refine ⟨fun w => sizeOf_agg hT w, fun w pre xs post hl => part_agg hT w pre xs post hl, fun d w xs ys hx hy => ?_⟩
  have := run_equalIn_struct w (d + D) t ⟨xs⟩ ⟨ys⟩ ht hp
  show (Op.equalIn (d + D + 1) t (.agg ⟨xs⟩) (.agg ⟨ys⟩)).run P w = _
  rw [this]
  exact eqFields_chain d w _ L 0 [] [] xs ys hm hc rfl rfl hx hy
theorem eqItems_chain {D : Nat} {e : TypeId} {a : Bool} {ls : List Lf} (hE : EqT P D e a ls) (d : Nat) (w : World) : ∀ (n i : Nat) (px py xs ys : List Value), px.length = i * ls.length → py.length = i * ls.length → wfV (List.replicate n ls).flatten xs → wfV (List.replicate n ls).flatten ys →
    (Op.eqItems (d + D) e ls.length ⟨px ++ xs⟩ ⟨py ++ ys⟩ (List.range' i n)).run P w = .ok (eqV xs ys) w
  | 0, i, px, py, xs, ys, _, _, hx, hy => by
    match xs, ys, hx, hy with
    | [], [], _, _ => rfl
  | n + 1, i, px, py, xs, ys, hpx, hpy, hx, hy => by
    rw [List.replicate_succ, List.flatten_cons] at hx hy
    obtain ⟨x1, x2, rfl, hx1, hx2⟩ := wfV_split _ _ hx
    obtain ⟨y1, y2, rfl, hy1, hy2⟩ := wfV_split _ _ hy
    have lx := wfV_length hx1
    have ly := wfV_length hy1
    have p1 := hE.part w px x1 x2 lx
    have p2 := hE.part w py y1 y2 ly
    rw [hpx] at p1
    rw [hpy] at p2
    rw [List.range'_succ, Op.eqItems, ← List.append_assoc, ← List.append_assoc]
    simp only [Sem.run_bind, p1, p2, Result.andThen_ok, hE.heq d w x1 y1 hx1 hy1]
    rw [eqV_append (by omega)]
    cases he : eqV x1 y1
    · simp [Sem.run_pure]
    · simp only [Bool.not_true, Bool.false_eq_true, if_false, Bool.true_and]
      exact eqItems_chain hE d w n (i + 1) (px ++ x1) (py ++ y1) x2 y2 (by rw [List.length_append, Nat.succ_mul]; omega) (by rw [List.length_append, Nat.succ_mul]; omega) hx2 hy2
theorem eqT_array {D n : Nat} {t e : TypeId} {a : Bool} {ls : List Lf} (hu : P.underlying t = some (.array n e)) (hT : aggT P t (n * ls.length) = true) (hE : EqT P D e a ls) : EqT P (D + 1) t true (List.replicate n ls).flatten := by
  have hl : (List.replicate n ls).flatten.length = n * ls.length := by simp
  have hi : ∃ i, P.info? e = some i := by
    cases h : P.info? e with
    | some i => exact ⟨i, rfl⟩
    | none =>
      exfalso
      have := hE.size default
      unfold sizeOf typeInfo program at this
      simp [Sem.run_bind, Sem.run, h] at this
  obtain ⟨i, hi⟩ := hi
  have hc : P.cellsOf e = ls.length := by
    have h1 := hE.size default
    rw [sizeOf_run hi] at h1
    injection h1 with h1
    unfold Program.cellsOf
    rw [hi]
    exact h1
  refine ⟨fun w => by rw [hl]; exact sizeOf_agg hT w, fun w pre xs post hx => part_agg hT w pre xs post (by rw [hx, hl]), fun d w xs ys hx hy => ?_⟩
  show (Op.equalIn (d + D + 1) t (.agg ⟨xs⟩) (.agg ⟨ys⟩)).run P w = _
  rw [run_equalIn_array w (d + D) _ _ hu hi, hc, List.range_eq_range']
  exact eqItems_chain hE d w n 0 [] [] xs ys (by simp) (by simp) hx hy
theorem eq_T {D : Nat} {t : TypeId} {ls : List Lf} {xs ys : List Value} {w : World} {K : Value → World → Prop} (E : EqT P D t true ls) (hD : D ≤ 10000) (hg : P.eqGuardType P.depth t = false) (hx : wfV ls xs) (hy : wfV ls ys) : wBin P .eql t (.agg ⟨xs⟩) (.agg ⟨ys⟩) w K = K (.bool (eqV xs ys)) w :=
  bin_eqA hg fun w' => by have := (E.le hD).heq 0 w' xs ys hx hy; simpa [vOf] using this
theorem ne_T {D : Nat} {t : TypeId} {ls : List Lf} {xs ys : List Value} {w : World} {K : Value → World → Prop} (E : EqT P D t true ls) (hD : D ≤ 10000) (hg : P.eqGuardType P.depth t = false) (hx : wfV ls xs) (hy : wfV ls ys) : wBin P .neq t (.agg ⟨xs⟩) (.agg ⟨ys⟩) w K = K (.bool (!(eqV xs ys))) w :=
  bin_neA hg fun w' => by have := (E.le hD).heq 0 w' xs ys hx hy; simpa [vOf] using this
end
end Go.Dn
