import Derived.Test.YtflnhihdbhjlnaaPrim
/-! Memory. -/
set_option linter.unusedVariables false
set_option linter.unusedSimpArgs false
namespace Go.Dn
open Go Go.RowKit
attribute [local semireducible] wCall wCallV wInvoke callW wNext wLoad wStore wBox wAlloc wBuild wBuildS wBin wBinF wUn wConv wIface wFunc wMakeMap wMake wSlice wFieldA wField wIndexA wIndex wLookup wMapSet wExtract wLen wBuiltin wRange wNextI wEntry wNil wOther wKeep

/-- All blocks of w but those in S are in w' as they were; nothing else of the world has turned (draws apart). -/
structure Ex (S : List Nat) (w w' : World) : Prop where
  os : w'.os = w.os
  tape : w'.tape = w.tape
  output : w'.output = w.output
  size : w.heap.size ≤ w'.heap.size
  block : ∀ k, k < w.heap.size → k ∉ S → w'.heap[k]? = w.heap[k]?
theorem Ex.refl (S : List Nat) (w : World) : Ex S w w := ⟨rfl, rfl, rfl, Nat.le_refl _, fun _ _ _ => rfl⟩
theorem Ex.trans {S : List Nat} {a b c : World} (h : Ex S a b) (k : Ex S b c) : Ex S a c :=
  ⟨k.os.trans h.os, k.tape.trans h.tape, k.output.trans h.output, Nat.le_trans h.size k.size, fun i hi hs => (k.block i (Nat.lt_of_lt_of_le hi h.size) hs).trans (h.block i hi hs)⟩
theorem Ex.mono {S S' : List Nat} {a b : World} (h : Ex S a b) (hs : ∀ x ∈ S, x < a.heap.size → x ∈ S') : Ex S' a b :=
  ⟨h.os, h.tape, h.output, h.size, fun i hi hn => h.block i hi fun hm => hn (hs i hm hi)⟩
/-- What was written was new, or was S'. -/
theorem Ex.step {S S' : List Nat} {a b c : World} (h : Ex S a b) (k : Ex S' b c) (hs : ∀ x ∈ S', x ∈ S ∨ a.heap.size ≤ x) : Ex S a c :=
  ⟨k.os.trans h.os, k.tape.trans h.tape, k.output.trans h.output, Nat.le_trans h.size k.size, fun i hi hn =>
    (k.block i (Nat.lt_of_lt_of_le hi h.size) fun hm => (hs i hm).elim hn fun h => by omega).trans (h.block i hi hn)⟩
theorem Ex.drew {S : List Nat} {a b : World} (h : Ex S a b) : Ex S a b.drew := ⟨h.os, h.tape, h.output, h.size, h.block⟩
theorem Ex.below {S : List Nat} {a b : World} (h : Ex S a b) (hs : ∀ x ∈ S, a.heap.size ≤ x) : Below a.heap.size a b :=
  ⟨h.os, h.tape, h.output, h.size, fun k hk => h.block k hk fun hm => by have := hs k hm; omega⟩
theorem Ex.of_below {a b : World} (h : Below a.heap.size a b) : Ex [] a b := ⟨h.os, h.tape, h.output, h.size, fun k hk _ => h.block k hk⟩
theorem Ex.alloc (w : World) (o : Obj) : Ex [] w (w.alloc o) := ⟨rfl, rfl, rfl, by simp, fun k hk _ => Below.heap_alloc w o k hk⟩

/-- A block of cells that may be written. -/
def Blk (w : World) (g : Nat) (t : TypeId) (cs : List Value) : Prop := w.heap[g]? = some (.cells ⟨cs⟩ t (0, 0))
theorem Blk.lt {w : World} {g : Nat} {t : TypeId} {cs : List Value} (h : Blk w g t cs) : g < w.heap.size := (Array.getElem?_eq_some_iff.1 h).1
theorem Blk.ex {S : List Nat} {w w' : World} {g : Nat} {t : TypeId} {cs : List Value} (h : Blk w g t cs) (hx : Ex S w w') (hg : g ∉ S) : Blk w' g t cs := (hx.block g h.lt hg).trans h
theorem Blk.drew {w : World} {g : Nat} {t : TypeId} {cs : List Value} (h : Blk w g t cs) : Blk w.drew g t cs := h
theorem Blk.ne {w : World} {g g' : Nat} {t t' : TypeId} {cs cs' : List Value} (h : Blk w g t cs) (h' : Blk w g' t' cs') (hne : t ≠ t') : g ≠ g' := by
  rintro rfl
  unfold Blk at h h'
  rw [h] at h'
  injection h' with h'
  injection h' with _ ht
  exact hne ht
theorem Blk.eq {w : World} {g : Nat} {t t' : TypeId} {cs cs' : List Value} (h : Blk w g t cs) (h' : Blk w g t' cs') : cs = cs' := by
  unfold Blk at h h'
  rw [h] at h'
  injection h' with h'
  injection h' with h1 _
  injection h1

/-- From an address on the cells hold these. -/
def Cs (w : World) (b o : Nat) (xs : List Value) : Prop := ∀ i v, xs[i]? = some v → w.cell? ⟨b, o + i, none⟩ = some v
theorem Cs.nil (w : World) (b o : Nat) : Cs w b o [] := fun i v h => by simp at h
theorem Blk.cell {w : World} {g : Nat} {t : TypeId} {cs : List Value} (h : Blk w g t cs) (i : Nat) : w.cell? ⟨g, i, none⟩ = cs[i]? := by
  unfold Blk at h
  simp [World.cell?, h]
theorem Blk.cs {w : World} {g : Nat} {t : TypeId} {cs : List Value} (h : Blk w g t cs) (o n : Nat) : Cs w g o ((cs.drop o).take n) := by
  intro i v hv
  rw [h.cell]
  rw [List.getElem?_take] at hv
  split at hv
  · rw [List.getElem?_drop] at hv; exact hv
  · cases hv
theorem Cs.lt {w : World} {b o : Nat} {xs : List Value} (h : Cs w b o xs) (hx : xs ≠ []) : b < w.heap.size := by
  cases xs with
  | nil => exact absurd rfl hx
  | cons x xs => exact World.block_lt_of_cell? w _ (h 0 x rfl)
theorem Cs.ex {S : List Nat} {w w' : World} {b o : Nat} {xs : List Value} (h : Cs w b o xs) (hx : Ex S w w') (hb : b ∉ S) : Cs w' b o xs := by
  intro i v hv
  have h1 := h i v hv
  have := World.block_lt_of_cell? w _ h1
  rw [World.cell?_of_block (hx.block b this hb)]
  exact h1
theorem Cs.drew {w : World} {b o : Nat} {xs : List Value} (h : Cs w b o xs) : Cs w.drew b o xs := h
theorem Cs.sub {w : World} {b o : Nat} {xs : List Value} (h : Cs w b o xs) (i n : Nat) : Cs w b (o + i) ((xs.drop i).take n) := by
  intro j v hv
  rw [List.getElem?_take] at hv
  split at hv
  · rw [List.getElem?_drop] at hv
    have := h (i + j) v hv
    rw [Nat.add_assoc]; exact this
  · cases hv
theorem Cs.get {w : World} {b o : Nat} {xs : List Value} (h : Cs w b o xs) {i : Nat} {v : Value} (hv : xs[i]? = some v) : w.cell? ⟨b, o + i, none⟩ = some v := h i v hv
theorem Cs.append {w : World} {b o : Nat} {xs ys : List Value} (h : Cs w b o xs) (h' : Cs w b (o + xs.length) ys) : Cs w b o (xs ++ ys) := by
  intro i v hv
  rw [List.getElem?_append] at hv
  split at hv
  · exact h i v hv
  · have := h' _ v hv
    rw [Nat.add_assoc] at this
    rwa [show xs.length + (i - xs.length) = i by omega] at this

/-! Types. -/
def oneT (P : Program) (t : TypeId) : Bool :=
  match P.underlying t with
  | some (.struct _) => false
  | some (.array _ _) => false
  | some _ => (match P.info? t with
    | some i => Nat.beq i.size 1
    | none => false)
  | none => false
def aggT (P : Program) (t : TypeId) (n : Nat) : Bool :=
  match P.underlying t with
  | some (.struct _) | some (.array _ _) => (match P.info? t with
    | some i => Nat.beq i.size n
    | none => false)
  | _ => false
def zeroT (P : Program) (t : TypeId) : Option Value :=
  match P.info? t with
  | some i => i.zero
  | none => none
def sizeT (P : Program) (t : TypeId) : Nat :=
  match P.info? t with
  | some i => i.size
  | none => 0
section mem
variable {P : Program} {t : TypeId} {w : World} {K : Value → World → Prop}
theorem isAgg_one (hT : oneT P t = true) (w : World) : (isAgg t).run P w = .ok false w := by
  unfold oneT at hT
  unfold isAgg underlying program
  cases hu : P.underlying t with
  | none => rw [hu] at hT; cases hT
  | some d => cases d <;> first | (rw [hu] at hT; cases hT; done) | simp [Sem.run_bind, Sem.run, hu]
theorem isAgg_agg {n : Nat} (hT : aggT P t n = true) (w : World) : (isAgg t).run P w = .ok true w := by
  unfold aggT at hT
  unfold isAgg underlying program
  cases hu : P.underlying t with
  | none => rw [hu] at hT; cases hT
  | some d => cases d <;> first | (rw [hu] at hT; cases hT; done) | simp [Sem.run_bind, Sem.run, hu]
theorem sizeOf_run {i : TypeInfo} (hi : P.info? t = some i) (w : World) : (sizeOf t).run P w = .ok i.size w := by
  unfold sizeOf typeInfo program
  simp [Sem.run_bind, Sem.run, hi]
theorem sizeOf_agg {n : Nat} (hT : aggT P t n = true) (w : World) : (sizeOf t).run P w = .ok n w := by
  unfold aggT at hT
  split at hT
  · split at hT
    · rename_i i hi; rw [sizeOf_run hi, Nat.eq_of_beq_eq_true hT]
    · cases hT
  · split at hT
    · rename_i i hi; rw [sizeOf_run hi, Nat.eq_of_beq_eq_true hT]
    · cases hT
  · cases hT
theorem sizeOf_one (hT : oneT P t = true) (w : World) : (sizeOf t).run P w = .ok 1 w := by
  unfold oneT at hT
  split at hT
  · cases hT
  · cases hT
  · split at hT
    · rename_i i hi; rw [sizeOf_run hi, Nat.eq_of_beq_eq_true hT]
    · cases hT
  · cases hT
theorem load_run {a : Addr} {v : Value} (h : w.cell? a = some v) : (load a).run P w = .ok v w := by
  unfold load
  simp only [Sem.run, h]
theorem loadAt_one (hT : oneT P t = true) {a : Addr} {v : Value} (h : w.cell? a = some v) : (Instr.loadAt t (.pointer (some a))).run P w = .ok v w := by
  unfold Instr.loadAt loadVar
  simp only [Instr.sureAddr, Sem.run_bind, Sem.run_pure, Result.andThen_ok, isAgg_one hT, Bool.false_eq_true, if_false]
  exact load_run h
theorem loadCells_run {b : Nat} : ∀ (xs : List Value) (o i : Nat) (acc : Array Value), Cs w b (o + i) xs → (loadCellsFrom ⟨b, o, none⟩ i xs.length acc).run P w = .ok (acc ++ (⟨xs⟩ : Array Value)) w
  | [], o, i, acc, _ => by simp [loadCellsFrom]
  | x :: xs, o, i, acc, h => by
    have h0 : w.cell? ((⟨b, o, none⟩ : Addr).add i) = some x := by
      have := h 0 x rfl
      unfold Addr.add
      split
      · rename_i hi; subst hi; exact this
      · exact this
    have ih := loadCells_run xs o (i + 1) (acc.push x) (fun j v hv => by have := h (j + 1) v hv; rwa [show o + i + (j + 1) = o + (i + 1) + j by omega] at this)
    simp only [List.length_cons, loadCellsFrom, Sem.run_bind, load_run h0, Result.andThen_ok]
    rw [ih]
    congr 1
    apply Array.toList_inj.1
    simp
theorem loadAt_agg {n b o : Nat} {xs : List Value} (hT : aggT P t n = true) (h : Cs w b o xs) (hl : xs.length = n) : (Instr.loadAt t (.pointer (some ⟨b, o, none⟩))).run P w = .ok (.agg ⟨xs⟩) w := by
  unfold Instr.loadAt loadVar
  simp only [Instr.sureAddr, Sem.run_bind, Sem.run_pure, Result.andThen_ok, isAgg_agg hT, if_true, sizeOf_agg hT]
  have := loadCells_run (P := P) xs o 0 #[] (by simpa using h)
  rw [hl] at this
  unfold loadCells
  rw [this]
  simp
theorem ld_one (hT : oneT P t = true) {a : Addr} {v : Value} (h : w.cell? a = some v) : wLoad P t (.pointer (some a)) w K = K v w := by
  unfold wLoad runW
  rw [loadAt_one hT h]
theorem ld_agg {n b o : Nat} {xs : List Value} (hT : aggT P t n = true) (h : Cs w b o xs) (hl : xs.length = n) : wLoad P t (.pointer (some ⟨b, o, none⟩)) w K = K (.agg ⟨xs⟩) w := by
  unfold wLoad runW
  rw [loadAt_agg hT h hl]
theorem keep_nil : wKeep P [] w := fun x hx => by simp at hx
theorem keep_cons {x : TypeId × Value × Value} {l : List (TypeId × Value × Value)} (h : (Instr.loadAt x.1 x.2.1).run P w = .ok x.2.2 w) (hl : wKeep P l w) : wKeep P (x :: l) w := by
  intro y hy
  rcases List.mem_cons.1 hy with rfl | hy
  · exact h
  · exact hl y hy

/-! Stores. -/
def isC (v : Value) : Bool :=
  match v with
  | .agg _ => false
  | .tuple _ => false
  | _ => true
theorem isC_cells {v : Value} (h : isC v = true) : v.cells = #[v] := by cases v <;> first | rfl | cases h
def splice (cs : List Value) (o : Nat) (vs : List Value) : List Value := cs.take o ++ vs ++ cs.drop (o + vs.length)
theorem splice_length {cs vs : List Value} {o : Nat} (h : o + vs.length ≤ cs.length) : (splice cs o vs).length = cs.length := by
  simp [splice]; omega
theorem blk_set {g : Nat} {cs : List Value} (h : Blk w g t cs) (o : Nat) (v : Value) : Blk (w.setCell ⟨g, o, none⟩ v) g t (cs.set o v) := by
  unfold Blk at h ⊢
  simp only [World.setCell, Array.getElem?_modify, h]
  simp
theorem ex_set {g : Nat} {o : Nat} {v : Value} : Ex [g] w (w.setCell ⟨g, o, none⟩ v) :=
  ⟨rfl, rfl, rfl, by simp [World.setCell], fun k _ hn => Below.heap_setCell _ _ _ _ (by simpa using hn)⟩
theorem store_run {g o : Nat} {cs : List Value} (h : Blk w g t cs) (ho : o < cs.length) {v : Value} (hv : isC v = true) : (store ⟨g, o, none⟩ v).run P w = .ok () (w.setCell ⟨g, o, none⟩ v) := by
  have hc : w.cell? ⟨g, o, none⟩ = some cs[o] := by rw [h.cell]; simp [ho]
  have hf : w.frozen? ⟨g, o, none⟩ = false := by
    unfold Blk at h
    simp [World.frozen?, h]
  unfold store
  cases v <;> first | (cases hv; done) | simp [Sem.run, hc, hf]
theorem storeCells_run {g : Nat} {t : TypeId} : ∀ (vs cs : List Value) (o i : Nat) (w : World), Blk w g t cs → o + i + vs.length ≤ cs.length → (∀ v ∈ vs, isC v = true) →
    ∃ w', (storeCells ⟨g, o, none⟩ vs i).run P w = .ok () w' ∧ Ex [g] w w' ∧ Blk w' g t (splice cs (o + i) vs)
  | [], cs, o, i, w, h, _, _ => ⟨w, rfl, Ex.refl _ _, by simpa [splice] using h⟩
  | v :: vs, cs, o, i, w, h, hl, hv => by
    have hl' : o + i < cs.length := by simp at hl; omega
    have e0 : (⟨g, o, none⟩ : Addr).add i = ⟨g, o + i, none⟩ := by
      unfold Addr.add
      split
      · rename_i hi; subst hi; rfl
      · rfl
    have h1 := store_run (P := P) h hl' (hv v (List.mem_cons_self ..))
    obtain ⟨w', hr, hx, hb⟩ := storeCells_run vs (cs.set (o + i) v) o (i + 1) _ (blk_set h (o + i) v) (by simp at hl ⊢; omega) (fun u hu => hv u (List.mem_cons_of_mem _ hu))
    refine ⟨w', ?_, ex_set.trans hx, ?_⟩
    · simp only [storeCells, Sem.run_bind, e0, h1, Result.andThen_ok]
      exact hr
    · have : splice (cs.set (o + i) v) (o + (i + 1)) vs = splice cs (o + i) (v :: vs) := by
        unfold splice
        have e : o + (i + 1) + vs.length = o + i + (v :: vs).length := by simp; omega
        rw [e, ← Nat.add_assoc, List.take_succ_eq_append_getElem (by simp; omega), List.take_set_of_le (Nat.le_refl _), List.drop_set_of_lt (by simp)]
        simp
      rw [this] at hb
      exact hb
theorem st_run {P : Program} {w : World} {g o n : Nat} {t u : TypeId} {cs vs : List Value} {x : Value} (hs : ∀ w, (sizeOf t).run P w = .ok n w) (hx : x.cells = ⟨vs⟩) (hl : vs.length = n) (hc : ∀ v ∈ vs, isC v = true) (h : Blk w g u cs) (ho : o + n ≤ cs.length) :
    ∃ w', (Instr.storeAt t (.pointer (some ⟨g, o, none⟩)) x).run P w = .ok () w' ∧ Ex [g] w w' ∧ Blk w' g u (splice cs o vs) := by
  obtain ⟨w', h1, h2, h3⟩ := storeCells_run (P := P) vs cs o 0 w h (by omega) hc
  refine ⟨w', ?_, h2, by simpa using h3⟩
  unfold Instr.storeAt storeVar
  simp only [Instr.sureAddr, Sem.run_bind, Sem.run_pure, Result.andThen_ok, hs, hx]
  rw [if_neg (by simp [hl])]
  exact h1
theorem st_one {k : World → Prop} {g o : Nat} {u : TypeId} {cs : List Value} {x : Value} (hT : oneT P t = true) (hx : isC x = true) (h : Blk w g u cs) (ho : o < cs.length)
    (hk : ∀ w', Ex [g] w w' → Blk w' g u (cs.set o x) → k w') : wStore P t (.pointer (some ⟨g, o, none⟩)) x w k := by
  obtain ⟨w', h1, h2, h3⟩ := st_run (P := P) (n := 1) (o := o) (vs := [x]) (sizeOf_one hT) (isC_cells hx) rfl (by simpa using hx) h (by omega)
  unfold wStore runU
  rw [h1]
  refine hk w' h2 ?_
  have : splice cs o [x] = cs.set o x := by
    unfold splice
    rw [List.set_eq_take_append_cons_drop, if_pos ho]
    simp
  rw [this] at h3
  exact h3
theorem st_agg {k : World → Prop} {g o n : Nat} {u : TypeId} {cs vs : List Value} (hT : aggT P t n = true) (hl : vs.length = n) (hc : ∀ v ∈ vs, isC v = true) (h : Blk w g u cs) (ho : o + n ≤ cs.length)
    (hk : ∀ w', Ex [g] w w' → Blk w' g u (splice cs o vs) → k w') : wStore P t (.pointer (some ⟨g, o, none⟩)) (.agg ⟨vs⟩) w k := by
  obtain ⟨w', h1, h2, h3⟩ := st_run (P := P) (n := n) (o := o) (x := .agg ⟨vs⟩) (sizeOf_agg hT) rfl hl hc h ho
  unfold wStore runU
  rw [h1]
  exact hk w' h2 h3

/-! New blocks. -/
theorem newRow_run (e : TypeId) (cs : List Value) (w : World) : (newRow e ⟨cs⟩).run P w = .ok ⟨w.heap.size, 0, none⟩ (w.alloc (.cells ⟨cs⟩ e)) := by
  unfold newRow newObj
  rfl
theorem blk_new (w : World) (e : TypeId) (cs : List Value) : Blk (w.alloc (.cells ⟨cs⟩ e)) w.heap.size e cs := by
  unfold Blk World.alloc
  simp
theorem box_run {x : Value} {vs : List Value} (hx : x.cells = ⟨vs⟩) (w : World) : (Instr.box t x).run P w = .ok (.pointer (some ⟨w.heap.size, 0, none⟩)) (w.alloc (.cells ⟨vs⟩ t)) := by
  unfold Instr.box newVar
  rw [hx, Sem.run_bind, newRow_run]
  rfl
theorem box_i {x : Value} {vs : List Value} (hx : x.cells = ⟨vs⟩) (hk : ∀ w' g, g = w.heap.size → Ex [] w w' → Blk w' g t vs → K (.pointer (some ⟨g, 0, none⟩)) w') : wBox P t x w K := by
  unfold wBox runW
  rw [box_run hx]
  exact hk _ _ rfl (Ex.alloc _ _) (blk_new _ _ _)
theorem zero_run {z : Value} (hz : zeroT P t = some z) (w : World) : (zeroValue t).run P w = .ok z w := by
  unfold zeroT at hz
  unfold zeroValue typeInfo program
  split at hz
  · rename_i i hi
    simp [Sem.run_bind, Sem.run, hi, hz]
  · cases hz
theorem alloc_i {z : Value} {vs : List Value} (hz : zeroT P t = some z) (hx : z.cells = ⟨vs⟩) (hk : ∀ w' g, g = w.heap.size → Ex [] w w' → Blk w' g t vs → K (.pointer (some ⟨g, 0, none⟩)) w') : wAlloc P t w K := by
  unfold wAlloc runW Instr.alloc
  rw [Sem.run_bind, zero_run hz]
  simp only [Result.andThen_ok]
  unfold newVar
  rw [hx, Sem.run_bind, newRow_run]
  exact hk _ _ rfl (Ex.alloc _ _) (blk_new _ _ _)
end mem
end Go.Dn
