import Derived.Test.YtflnhihdbhjlnaaMem5
/-! copy. -/
set_option linter.unusedVariables false
set_option linter.unusedSimpArgs false
namespace Go.Dn
open Go Go.RowKit
attribute [local semireducible] wBuiltin wNext
section m6
variable {P : Program} {t : TypeId} {w : World} {K : Value → World → Prop}
/-- 'copy' of cells (elements of one cell) into a block. -/
theorem copy_i {e t' u : TypeId} {g o dn dc : Nat} {src : Value} {cs ys : List Value} (ht : P.underlying t = some (.slice e)) (ho : oneT P e = true) (H : Blk w g u cs) (hs : SlG w 1 src ys) (hc : ∀ y ∈ ys, isC y = true)
    (hl : o + min ys.length dn ≤ cs.length) (hk : ∀ w', Ex [g] w w' → Blk w' g u (splice cs o (ys.take dn)) → K (.int .i64 (min ys.length dn : Nat)) w') :
    wBuiltin P .copy #[t, t'] [.slice (some ⟨g, o, none⟩) dn dc, src] w K := by
  obtain ⟨A, m, c, rfl, hlen, hmc, hr⟩ := hs
  rw [Nat.mul_one] at hlen
  have hcells : (Builtin.firstCells 1 (Nat.min m dn) (.slice A m c)).run P w = .ok ⟨ys.take dn⟩ w := by
    rcases A with _ | ad
    · have : m = 0 := by
        rcases Nat.eq_zero_or_pos m with h | h
        · exact h
        · obtain ⟨b, o', h', _⟩ := hr (by omega); cases h'
      subst this
      have : ys = [] := List.eq_nil_of_length_eq_zero hlen
      subst this
      simp [Builtin.firstCells]
    · by_cases hm : m = 0
      · subst hm
        have : ys = [] := List.eq_nil_of_length_eq_zero hlen
        subst this
        simp [Builtin.firstCells, loadCells, loadCellsFrom]
      · obtain ⟨b, o', h', hcs⟩ := hr hm
        injection h' with h'
        subst h'
        have h1 := loadCells_run (P := P) (b := b) (ys.take dn) o' 0 #[] (fun i v hv => by
          rw [List.getElem?_take] at hv
          split at hv
          · have := hcs i v hv; simpa using this
          · cases hv)
        have h2 : (ys.take dn).length = Nat.min m dn * 1 := by rw [List.length_take, hlen, Nat.mul_one, Nat.min_comm]
        rw [h2] at h1
        unfold Builtin.firstCells loadCells
        rw [h1]
        simp
  have hl2 : o + (ys.take dn).length ≤ cs.length := by rw [List.length_take]; omega
  obtain ⟨w', h1, h2, h3⟩ := storeCells_run (P := P) (ys.take dn) cs o 0 w H (by simpa using hl2) (fun v hv => hc v (List.mem_of_mem_take hv))
  have hrun : (Builtin.copy_ #[t, t'] 0 #[.slice (some ⟨g, o, none⟩) dn dc, .slice A m c]).run P w = .ok (.int .i64 (min ys.length dn : Nat)) w' := by
    unfold Builtin.copy_
    simp only [List.getElem?_toArray, List.getElem?_cons_zero, List.getElem?_cons_succ]
    simp only [Sem.run_bind, und_run ht, Result.andThen_ok, Builtin.lenOf, Sem.run_pure, sizeOf_one ho, hcells, h1]
    rw [hlen]
    rfl
  unfold wBuiltin wNext builtin
  rw [Sem.run_bind, hrun]
  exact hk w' h2 (by simpa using h3)
/-! Building structs and arrays. -/
theorem setMany : ∀ (vs : List Value) (cs : List Value) (o : Nat), o + vs.length ≤ cs.length →
    ((⟨vs⟩ : Array Value).zipIdx.foldl (fun cs (p : Value × Nat) => cs.setIfInBounds (o + p.2) p.1) (⟨cs⟩ : Array Value)) = ⟨splice cs o vs⟩ := by
  intro vs cs o h
  rw [← Array.foldl_toList, Array.toList_zipIdx]
  have key : ∀ (vs cs : List Value) (i : Nat), o + i + vs.length ≤ cs.length → (vs.zipIdx i).foldl (fun cs (p : Value × Nat) => cs.setIfInBounds (o + p.2) p.1) (⟨cs⟩ : Array Value) = ⟨splice cs (o + i) vs⟩ := by
    intro vs
    induction vs with
    | nil => intro cs i _; simp [splice]
    | cons v vs ih =>
      intro cs i hl
      simp only [List.zipIdx_cons, List.foldl_cons]
      have e0 : (⟨cs⟩ : Array Value).setIfInBounds (o + i) v = ⟨cs.set (o + i) v⟩ := by
        apply Array.toList_inj.1; simp
      rw [e0, ih _ _ (by simp at hl ⊢; omega)]
      have hl' : o + i < cs.length := by simp at hl; omega
      congr 1
      unfold splice
      have e : o + (i + 1) + vs.length = o + i + (v :: vs).length := by simp; omega
      rw [e, ← Nat.add_assoc, List.take_succ_eq_append_getElem (by simp; omega), List.take_set_of_le (Nat.le_refl _), List.drop_set_of_lt (by simp)]
      simp
  have := key vs cs 0 (by omega)
  simpa using this
theorem fill_cons {place : Nat → Option (Nat × Nat)} {cs vs : List Value} {i off size : Nat} {v : Value} {rest : List (Nat × Value)} (hp : place i = some (off, size)) (hv : v.cells = ⟨vs⟩) (hl : vs.length = size) (ho : off + size ≤ cs.length) :
    Instr.fill place ⟨cs⟩ ((i, v) :: rest) = Instr.fill place ⟨splice cs off vs⟩ rest := by
  rw [Instr.fill]
  simp only [hp]
  rw [if_neg (by rw [hv]; simp; omega), hv, setMany vs cs off (by omega)]
theorem fill_nil {place : Nat → Option (Nat × Nat)} {cs : List Value} : Instr.fill place ⟨cs⟩ [] = some ⟨cs⟩ := rfl
theorem build_s {fs : Array Field} {ps : List (Nat × Value)} {z cs : List Value} {places : Array (Nat × Nat)} (hu : P.underlying t = some (.struct fs)) (hz : zeroT P t = some (.agg ⟨z⟩))
    (hp : ∀ w, (fs.mapM fun f => do pure (f.offset, ← sizeOf f.type) : Sem (Array (Nat × Nat))).run P w = .ok places w) (hf : Instr.fill (places[·]?) ⟨z⟩ ps = some ⟨cs⟩) : wBuild P t ps w K = K (.agg ⟨cs⟩) w :=
  fill_run hu hz hp hf
theorem fill_ones : ∀ (xs cs : List Value) (i : Nat), i + xs.length = cs.length → (∀ x ∈ xs, x.cells = #[x]) →
    Instr.fill (fun i => some (i * 1, 1)) ⟨cs⟩ ((xs.zipIdx i).map fun p => (p.2, p.1)) = some ⟨cs.take i ++ xs⟩
  | [], cs, i, h, _ => by
    simp only [List.length_nil, Nat.add_zero] at h
    simp [List.take_of_length_le (show cs.length ≤ i by omega), Instr.fill]
  | x :: xs, cs, i, h, hx => by
    simp only [List.zipIdx_cons, List.map_cons]
    simp only [List.length_cons] at h
    rw [fill_cons (vs := [x]) (off := i * 1) (size := 1) rfl (hx x (List.mem_cons_self ..)) rfl (by omega), fill_ones xs _ (i + 1) (by rw [splice_length (by simp; omega)]; omega) fun y hy => hx y (List.mem_cons_of_mem _ hy)]
    congr 2
    unfold splice
    rw [Nat.mul_one]
    have e : (cs.take i ++ [x]).length = i + 1 := by simp; omega
    rw [List.take_append_of_le_length (by omega), List.take_of_length_le (by omega)]
    simp
/-- A slice literal of elements of one cell. -/
theorem buildS_ones {e : TypeId} {z : Value} {n : Nat} {xs : List Value} {ps : List (Nat × Value)} (hps : ps = xs.zipIdx.map fun p => (p.2, p.1)) (hu : P.underlying t = some (.slice e)) (ho : oneT P e = true) (hz : zeroT P e = some z) (hzc : z.cells = #[z])
    (hl : xs.length = n) (hn : n ≤ 16777216) (hx : ∀ x ∈ xs, x.cells = #[x]) (hk : ∀ w' g, g = w.heap.size → Ex [] w w' → Blk w' g e xs → K (.slice (some ⟨g, 0, none⟩) n n) w') : wBuildS P t n ps w K := by
  subst hps
  refine buildS_i hu (sizeOf_one ho) hz (by omega) (cs := xs) ?_ hk
  have h0 : (if n * 1 = 0 then #[] else (Array.range (n * 1)).map (z.cells[· % z.cells.size]!)) = (⟨List.replicate n z⟩ : Array Value) := by
    apply Array.toList_inj.1
    by_cases h : n * 1 = 0
    · rw [if_pos h]
      have : n = 0 := by omega
      subst this; rfl
    · rw [if_neg h, hzc]
      apply List.ext_getElem (by simp)
      intro i h1 h2
      simp [Nat.mod_one]
  rw [h0]
  have := fill_ones xs (List.replicate n z) 0 (by simp [hl]) hx
  simpa using this
attribute [local semireducible] wBuild
theorem build_a {e : TypeId} {n size : Nat} {ps : List (Nat × Value)} {z cs : List Value} (hu : P.underlying t = some (.array n e)) (hz : zeroT P t = some (.agg ⟨z⟩)) (hs : ∀ w, (sizeOf e).run P w = .ok size w)
    (hf : Instr.fill (fun i => some (i * size, size)) ⟨z⟩ ps = some ⟨cs⟩) : wBuild P t ps w K = K (.agg ⟨cs⟩) w := by
  refine pureW_eq (fun w' => ?_) w K
  unfold Instr.build
  simp only [Sem.run_bind, zero_run hz, Result.andThen_ok, und_run hu, hs, Value.cells, hf, Sem.run_pure]
end m6
end Go.Dn
