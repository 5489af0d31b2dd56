import Derived.Test.YtflnhihdbhjlnaaMem2
import Derived.Laws.MakeOwn
/-! What makes memory. -/
set_option linter.unusedVariables false
set_option linter.unusedSimpArgs false
namespace Go.Dn
open Go Go.RowKit
attribute [local semireducible] wCall wCallV wInvoke callW wNext wLoad wStore wBox wAlloc wBuild wBuildS wBin wBinF wUn wConv wIface wFunc wMakeMap wMake wSlice wFieldA wField wIndexA wIndex wLookup wMapSet wExtract wLen wBuiltin wRange wNextI wEntry wNil wOther wKeep

/-- A slice that owns its array from its begin on (the kit's 'ownsRow'), of so many elements. -/
def Own (w : World) (base : Nat) (e : TypeId) (size : Nat) (v : Value) (xs : List Value) : Prop := ∃ n, w.ownsRow base e size v n xs
theorem Own.slg {w : World} {base size : Nat} {e : TypeId} {v : Value} {xs : List Value} (h : Own w base e size v xs) : SlG w size v xs := by
  obtain ⟨n, h⟩ := h
  exact SlG.of_own h
theorem Own.nil (w : World) (base : Nat) (e : TypeId) (size : Nat) : Own w base e size (.slice none 0 0) [] := ⟨0, World.ownsRow_nil w base e size⟩
theorem Own.blk {w : World} {base size : Nat} {e : TypeId} {v : Value} {xs : List Value} (h : Own w base e size v xs) {g : Nat} (hg : v.ownBlock = some g) : base ≤ g ∧ g < w.heap.size ∧ ∃ cs, Blk w g e cs := by
  obtain ⟨n, hl, h⟩ := h
  rcases h with ⟨rfl, _⟩ | ⟨g', cap, cur, rfl, hb, hh, _⟩
  · simp [Value.ownBlock] at hg
  · simp only [Value.ownBlock, Option.some.injEq] at hg
    subst hg
    exact ⟨hb, (Array.getElem?_eq_some_iff.1 hh).1, cur.toList, hh⟩
theorem Own.ex {S : List Nat} {w w' : World} {base size : Nat} {e : TypeId} {v : Value} {xs : List Value} (h : Own w base e size v xs) (hx : Ex S w w') (hs : ∀ g, v.ownBlock = some g → g ∉ S) : Own w' base e size v xs := by
  obtain ⟨n, hl, h⟩ := h
  refine ⟨n, hl, ?_⟩
  rcases h with h | ⟨g, cap, cur, rfl, hb, hh, h1, h2, h3, h4⟩
  · exact .inl h
  · exact .inr ⟨g, cap, cur, rfl, hb, (hx.block g (Array.getElem?_eq_some_iff.1 hh).1 (hs g rfl)).trans hh, h1, h2, h3, h4⟩
theorem Own.ex0 {w w' : World} {base size : Nat} {e : TypeId} {v : Value} {xs : List Value} (h : Own w base e size v xs) (hx : Ex [] w w') : Own w' base e size v xs := h.ex hx (by simp)
theorem Own.base {w : World} {base base' size : Nat} {e : TypeId} {v : Value} {xs : List Value} (h : Own w base e size v xs) (hb : base' ≤ base) : Own w base' e size v xs := by
  obtain ⟨n, hl, h⟩ := h
  refine ⟨n, hl, ?_⟩
  rcases h with h | ⟨g, cap, cur, rfl, hb', h⟩
  · exact .inl h
  · exact .inr ⟨g, cap, cur, rfl, by omega, h⟩
theorem Own.drew {w : World} {base size : Nat} {e : TypeId} {v : Value} {xs : List Value} (h : Own w base e size v xs) : Own w.drew base e size v xs := h
theorem Own.off {w : World} {base size : Nat} {e t : TypeId} {v : Value} {xs : List Value} (h : Own w base e size v xs) {g : Nat} {cs : List Value} (hb : Blk w g t cs) (hne : e ≠ t) : ∀ g', v.ownBlock = some g' → g' ≠ g := by
  intro g' hg'
  obtain ⟨_, _, cs', hb'⟩ := h.blk hg'
  exact hb'.ne hb hne
theorem Own.slice {w : World} {base size : Nat} {e : TypeId} {v : Value} {xs : List Value} (h : Own w base e size v xs) (hs : 0 < size) {n : Nat} (hn : xs.length = n * size) : ∃ A c, v = .slice A n c := by
  obtain ⟨m, hl, h⟩ := h
  have : m = n := Nat.eq_of_mul_eq_mul_right hs (hl.symm.trans hn)
  subst this
  rcases h with ⟨rfl, rfl⟩ | ⟨g, cap, cur, rfl, _⟩
  · exact ⟨_, _, rfl⟩
  · exact ⟨_, _, rfl⟩

section mk
variable {P : Program} {t : TypeId} {w : World} {K : Value → World → Prop}
theorem conv_i {s : TypeId} {d : TypeDesc} {k k' : IntKind} {n : Int} (hs : P.underlying s = some d) (hd : P.underlying t = some (.int k')) : wConv P s t (.int k n) w K = K (.int k' (k'.wrap n)) w := by
  refine pureW_eq (fun w' => ?_) w K
  unfold Go.convert
  simp only [Sem.run_bind, und_run hs, und_run hd, Result.andThen_ok]
  rfl
/-- 'append' onto a slice of one's own. -/
theorem app_i {e : TypeId} {i : TypeInfo} {z : Value} {size bytes base : Nat} (ht : P.underlying t = some (.slice e)) (hi : P.info? e = some i) (hz : i.zero = some z) (hsz : i.size = size) (hby : i.bytes = bytes) (hzs : z.cells.size = size) (hs : 0 < size)
    {v x : Value} {xs ys : List Value} {n m : Nat} (ho : Own w base e size v xs) (hy : SlG w size x ys) (hn : xs.length = n * size) (hm : ys.length = m * size) (hc : ∀ u ∈ ys, isC u = true)
    (hb : (n + m) * bytes ≤ 140737488355328) (h63 : n + m ≤ 9223372036854775807) (hba : base ≤ w.heap.size)
    (hk : ∀ v' w', Own w' base e size v' (xs ++ ys) → Ex v.ownBlock.toList w w' → (v'.ownBlock = v.ownBlock ∨ v'.ownBlock = some w.heap.size) → K v' w') :
    wBuiltin P .append #[t, t] [v, x] w K := by
  have hb1 : base ≤ w.heap.size := hba
  obtain ⟨n', how⟩ := ho
  have hn' : n' = n := Nat.eq_of_mul_eq_mul_right hs (how.1.symm.trans hn)
  subst hn'
  obtain ⟨A, m', c, rfl, hl, hmc, hr⟩ := hy
  have hm' : m' = m := Nat.eq_of_mul_eq_mul_right hs (hl.symm.trans hm)
  subst hm'
  have hone : ∀ u ∈ ys, u.oneCell' = true := fun u hu => by
    have := hc u hu
    cases u <;> first | rfl | cases this
  have fin : ∀ v' w', (Builtin.append_ #[t, t] 0 #[v, .slice A m' c]).run P w = .ok v' w' → w'.ownsRow base e size v' (n' + m') (xs ++ ys) → w.grownBy w' v.ownBlock → (v'.ownBlock = v.ownBlock ∨ v'.ownBlock = some w.heap.size) →
      wBuiltin P .append #[t, t] [v, .slice A m' c] w K := by
    intro v' w' hrun h1 h2 h3
    unfold wBuiltin wNext builtin
    rw [Sem.run_bind, hrun]
    refine hk v' w' ⟨_, h1⟩ ⟨h2.os, h2.tape, h2.output, h2.size, fun k hk hne => h2.block k hk fun he => hne ?_⟩ h3
    rw [← he]; simp
  by_cases hm0 : m' = 0
  · subst hm0
    have : ys = [] := List.eq_nil_of_length_eq_zero (by simpa using hl)
    subst this
    have hrun : (Builtin.append_ #[t, t] 0 #[v, .slice A 0 c]).run P w = .ok v w := by
      rcases A with _ | ad
      · rcases how.2 with ⟨rfl, rfl⟩ | ⟨g, cap, cur, rfl, _, _, hnc, _⟩
        · simp [Builtin.append_, run_underlying ht, sizeOf, typeInfo, hi, Builtin.lenOf, Builtin.firstCells]
        · simp [Builtin.append_, run_underlying ht, sizeOf, typeInfo, hi, Builtin.lenOf, Builtin.firstCells, hnc, storeCells]
      · rcases how.2 with ⟨rfl, rfl⟩ | ⟨g, cap, cur, rfl, _, _, hnc, _⟩
        · simp [Builtin.append_, run_underlying ht, sizeOf, typeInfo, hi, Builtin.lenOf, Builtin.firstCells, loadCells, loadCellsFrom]
        · simp [Builtin.append_, run_underlying ht, sizeOf, typeInfo, hi, Builtin.lenOf, Builtin.firstCells, hnc, storeCells, loadCells, loadCellsFrom]
    exact fin v w hrun (by simpa using how) ⟨rfl, rfl, rfl, Nat.le_refl _, fun _ _ _ => rfl⟩ (.inl rfl)
  · obtain ⟨b, o, rfl, hcs⟩ := hr hm0
    obtain ⟨v', w', hrun, h1, h2, _, h3⟩ := run_append_own_at (P := P) w base t 0 e i z size bytes ht hi hz hsz hby hzs hs v n' xs how ⟨b, o, none⟩ m' c ys hl (fun j u hu => by rw [add_pl]; exact hcs j u hu) hone (by simp only [maxLen]; omega) hb hb1
    exact fin v' w' hrun h1 h2 h3
theorem fill_run {fs : Array Field} {ps : List (Nat × Value)} {z : Value} {cs : List Value} {places : Array (Nat × Nat)} (hu : P.underlying t = some (.struct fs)) (hz : zeroT P t = some z)
    (hp : ∀ w, (fs.mapM fun f => do pure (f.offset, ← sizeOf f.type) : Sem (Array (Nat × Nat))).run P w = .ok places w) (hf : Instr.fill (places[·]?) z.cells ps = some ⟨cs⟩) : wBuild P t ps w K = K (.agg ⟨cs⟩) w := by
  refine pureW_eq (fun w' => ?_) w K
  unfold Instr.build
  simp only [Sem.run_bind, zero_run hz, Result.andThen_ok, und_run hu, hp]
  simp only [hf, Sem.run_pure]
theorem buildS_i {e : TypeId} {ps : List (Nat × Value)} {z : Value} {cs : List Value} {n size : Nat} (hu : P.underlying t = some (.slice e)) (hsz : ∀ w, (sizeOf e).run P w = .ok size w) (hz : zeroT P e = some z) (hn : n * size ≤ 16777216)
    (hf : Instr.fill (fun i => some (i * size, size)) (if n * size = 0 then #[] else (Array.range (n * size)).map (z.cells[· % z.cells.size]!)) ps = some ⟨cs⟩)
    (hk : ∀ w' g, g = w.heap.size → Ex [] w w' → Blk w' g e cs → K (.slice (some ⟨g, 0, none⟩) n n) w') : wBuildS P t n ps w K := by
  have hrun : (Instr.buildSlice t n ⟨ps⟩).run P w = .ok (.slice (some ⟨w.heap.size, 0, none⟩) n n) (w.alloc (.cells ⟨cs⟩ e)) := by
    unfold Instr.buildSlice
    simp only [Sem.run_bind, und_run hu, Result.andThen_ok, hsz]
    rw [if_neg (by have : (2:Nat) ^ 24 = 16777216 := by decide
                   omega)]
    by_cases h0 : n * size = 0
    · rw [if_pos h0] at hf
      rw [if_pos h0]
      have : (Array.range (n * size)).map (fun x => (#[] : Array Value)[x % (#[] : Array Value).size]!) = #[] := by rw [h0]; simp
      show (Sem.run P (match Instr.fill (fun i => some (i * size, size)) ((Array.range (n * size)).map (fun x => (#[] : Array Value)[x % (#[] : Array Value).size]!)) ps with
          | some cells => do
            let a ← newRow e cells
            pure (Value.slice (some a) n n)
          | x => stuck "buildSlice: a part of the wrong size") w) = _
      rw [this, hf]
      simp only [Sem.run_bind, newRow_run, Result.andThen_ok, Sem.run_pure]
    · rw [if_neg h0] at hf
      rw [if_neg h0]
      simp only [Sem.run_bind, zero_run hz, Result.andThen_ok, Sem.run_pure, hf, newRow_run]
  unfold wBuildS runW
  rw [hrun]
  exact hk _ _ rfl (Ex.alloc _ _) (blk_new _ _ _)
/-- A slice of one element ('append(l, x)'). -/
theorem buildS_1 {e : TypeId} {x : Value} {z : Value} {xs : List Value} {size : Nat} (hu : P.underlying t = some (.slice e)) (hsz : ∀ w, (sizeOf e).run P w = .ok size w) (hz : zeroT P e = some z) (hn : size ≤ 16777216) (hx : x.cells = ⟨xs⟩) (hl : xs.length = size) (hzl : z.cells.size = size)
    (hk : ∀ w' g, g = w.heap.size → Ex [] w w' → Blk w' g e xs → K (.slice (some ⟨g, 0, none⟩) 1 1) w') : wBuildS P t 1 [(0, x)] w K := by
  refine buildS_i hu hsz hz (by omega) (cs := xs) ?_ hk
  unfold Instr.fill
  have h1 : x.cells.size = size := by rw [hx]; exact hl
  have h2 : (if 1 * size = 0 then #[] else (Array.range (1 * size)).map (z.cells[· % z.cells.size]!)).size = size := by
    split
    · simp_all
    · simp
  simp only [Nat.zero_mul, h1, h2, Nat.zero_add]
  rw [if_neg (by simp)]
  unfold Instr.fill
  congr 1
  generalize (if 1 * size = 0 then #[] else (Array.range (1 * size)).map (z.cells[· % z.cells.size]!)) = acc at *
  rw [hx]
  have key : ∀ (ys pre : List Value) (a : Array Value), a.size = (pre ++ ys).length → a.toList.take pre.length = pre →
      (ys.zipIdx pre.length).foldl (fun cs (p : Value × Nat) => cs.setIfInBounds p.2 p.1) a = ⟨pre ++ ys⟩ := by
    intro ys
    induction ys with
    | nil =>
      intro pre a ha ht
      apply Array.toList_inj.1
      simp only [List.append_nil] at ha ⊢
      rw [List.take_of_length_le (by simp [ha])] at ht
      simpa using ht
    | cons y ys ih =>
      intro pre a ha ht
      have := ih (pre ++ [y]) (a.setIfInBounds pre.length y) (by simp [ha]) (by
        have hlt : pre.length < a.toList.length := by simp [ha]
        simp only [Array.toList_setIfInBounds, List.length_append, List.length_singleton]
        rw [List.take_succ_eq_append_getElem (by simpa using hlt), List.take_set_of_le (Nat.le_refl _), ht]
        simp)
      simp only [List.length_append, List.length_singleton, List.append_assoc, List.singleton_append] at this
      rw [← this]
      simp only [List.zipIdx_cons, List.foldl_cons]
  have := key xs [] acc (by simp [h2, hl]) rfl
  simp only [List.length_nil, List.nil_append] at this
  rw [← Array.foldl_toList, Array.toList_zipIdx]
  exact this
end mk
end Go.Dn
