import Derived.Test.YtflnhihdbhjlnaaXSum1
import Derived.Laws.MakeOwn
import Derived.ChangeKeysEq
import Derived.Laws.StructEq
import Derived.Laws.OwnMore
import Derived.Laws.FloatBits
section
/-! What makes memory. -/
set_option linter.unusedVariables false
set_option linter.unusedSimpArgs false
namespace Go.Dn
open Go Go.RowKit
attribute [local semireducible] wCall wCallV wInvoke callW wNext wLoad wStore wBox wAlloc wBuild wBuildS wBin wBinF wUn wConv wIface wFunc wMakeMap wMake wSlice wFieldA wField wIndexA wIndex wLookup wMapSet wExtract wLen wBuiltin wRange wNextI wEntry wNil wOther wKeep

/-- A slice that owns its array from its begin on (the kit's 'ownsRow'), of so many elements. -/
def Own (w : World) (base : Nat) (e : TypeId) (size : Nat) (v : Value) (xs : List Value) : Prop := ∃ n, w.ownsRow base e size v n xs
theorem Own.slg {w : World} {base size : Nat} {e : TypeId} {v : Value} {xs : List Value} (h : Own w base e size v xs) : SlG w size v xs := by
  obtain ⟨n, h⟩ := h
  exact SlG.of_own h
theorem Own.nil (w : World) (base : Nat) (e : TypeId) (size : Nat) : Own w base e size (.slice none 0 0) [] := ⟨0, World.ownsRow_nil w base e size⟩
theorem Own.blk {w : World} {base size : Nat} {e : TypeId} {v : Value} {xs : List Value} (h : Own w base e size v xs) {g : Nat} (hg : v.ownBlock = some g) : base ≤ g ∧ g < w.heap.size ∧ ∃ cs, Blk w g e cs := by
  obtain ⟨n, hl, h⟩ := h
  rcases h with ⟨rfl, _⟩ | ⟨g', cap, cur, rfl, hb, hh, _⟩
  · simp [Value.ownBlock] at hg
  · simp only [Value.ownBlock, Option.some.injEq] at hg
    subst hg
    exact ⟨hb, (Array.getElem?_eq_some_iff.1 hh).1, cur.toList, hh⟩
theorem Own.ex {S : List Nat} {w w' : World} {base size : Nat} {e : TypeId} {v : Value} {xs : List Value} (h : Own w base e size v xs) (hx : Ex S w w') (hs : ∀ g, v.ownBlock = some g → g ∉ S) : Own w' base e size v xs := by
  obtain ⟨n, hl, h⟩ := h
  refine ⟨n, hl, ?_⟩
  rcases h with h | ⟨g, cap, cur, rfl, hb, hh, h1, h2, h3, h4⟩
  · exact .inl h
  · exact .inr ⟨g, cap, cur, rfl, hb, (hx.block g (Array.getElem?_eq_some_iff.1 hh).1 (hs g rfl)).trans hh, h1, h2, h3, h4⟩
theorem Own.ex0 {w w' : World} {base size : Nat} {e : TypeId} {v : Value} {xs : List Value} (h : Own w base e size v xs) (hx : Ex [] w w') : Own w' base e size v xs := h.ex hx (by simp)
theorem Own.base {w : World} {base base' size : Nat} {e : TypeId} {v : Value} {xs : List Value} (h : Own w base e size v xs) (hb : base' ≤ base) : Own w base' e size v xs := by
  obtain ⟨n, hl, h⟩ := h
  refine ⟨n, hl, ?_⟩
  rcases h with h | ⟨g, cap, cur, rfl, hb', h⟩
  · exact .inl h
  · exact .inr ⟨g, cap, cur, rfl, by omega, h⟩
theorem Own.drew {w : World} {base size : Nat} {e : TypeId} {v : Value} {xs : List Value} (h : Own w base e size v xs) : Own w.drew base e size v xs := h
theorem Own.off {w : World} {base size : Nat} {e t : TypeId} {v : Value} {xs : List Value} (h : Own w base e size v xs) {g : Nat} {cs : List Value} (hb : Blk w g t cs) (hne : e ≠ t) : ∀ g', v.ownBlock = some g' → g' ≠ g := by
  intro g' hg'
  obtain ⟨_, _, cs', hb'⟩ := h.blk hg'
  exact hb'.ne hb hne
theorem Own.slice {w : World} {base size : Nat} {e : TypeId} {v : Value} {xs : List Value} (h : Own w base e size v xs) (hs : 0 < size) {n : Nat} (hn : xs.length = n * size) : ∃ A c, v = .slice A n c := by
  obtain ⟨m, hl, h⟩ := h
  have : m = n := Nat.eq_of_mul_eq_mul_right hs (hl.symm.trans hn)
  subst this
  rcases h with ⟨rfl, rfl⟩ | ⟨g, cap, cur, rfl, _⟩
  · exact ⟨_, _, rfl⟩
  · exact ⟨_, _, rfl⟩

section mk
variable {P : Program} {t : TypeId} {w : World} {K : Value → World → Prop}
theorem conv_i {s : TypeId} {d : TypeDesc} {k k' : IntKind} {n : Int} (hs : P.underlying s = some d) (hd : P.underlying t = some (.int k')) : wConv P s t (.int k n) w K = K (.int k' (k'.wrap n)) w := by
  refine pureW_eq (fun w' => ?_) w K
  unfold Go.convert
  simp only [Sem.run_bind, und_run hs, und_run hd, Result.andThen_ok]
  rfl
/-- 'append' onto a slice of one's own. -/
theorem app_i {e : TypeId} {i : TypeInfo} {z : Value} {size bytes base : Nat} (ht : P.underlying t = some (.slice e)) (hi : P.info? e = some i) (hz : i.zero = some z) (hsz : i.size = size) (hby : i.bytes = bytes) (hzs : z.cells.size = size) (hs : 0 < size)
    {v x : Value} {xs ys : List Value} {n m : Nat} (ho : Own w base e size v xs) (hy : SlG w size x ys) (hn : xs.length = n * size) (hm : ys.length = m * size) (hc : ∀ u ∈ ys, isC u = true)
    (hb : (n + m) * bytes ≤ 140737488355328) (h63 : n + m ≤ 9223372036854775807) (hba : base ≤ w.heap.size)
    (hk : ∀ v' w', Own w' base e size v' (xs ++ ys) → Ex v.ownBlock.toList w w' → (v'.ownBlock = v.ownBlock ∨ v'.ownBlock = some w.heap.size) → K v' w') :
    wBuiltin P .append #[t, t] [v, x] w K := by
  have hb1 : base ≤ w.heap.size := hba
  obtain ⟨n', how⟩ := ho
  have hn' : n' = n := Nat.eq_of_mul_eq_mul_right hs (how.1.symm.trans hn)
  subst hn'
  obtain ⟨A, m', c, rfl, hl, hmc, hr⟩ := hy
  have hm' : m' = m := Nat.eq_of_mul_eq_mul_right hs (hl.symm.trans hm)
  subst hm'
  have hone : ∀ u ∈ ys, u.oneCell' = true := fun u hu => by
    have := hc u hu
    cases u <;> first | rfl | cases this
  have fin : ∀ v' w', (Builtin.append_ #[t, t] 0 #[v, .slice A m' c]).run P w = .ok v' w' → w'.ownsRow base e size v' (n' + m') (xs ++ ys) → w.grownBy w' v.ownBlock → (v'.ownBlock = v.ownBlock ∨ v'.ownBlock = some w.heap.size) →
      wBuiltin P .append #[t, t] [v, .slice A m' c] w K := by
    intro v' w' hrun h1 h2 h3
    unfold wBuiltin wNext builtin
    rw [Sem.run_bind, hrun]
    refine hk v' w' ⟨_, h1⟩ ⟨h2.os, h2.tape, h2.output, h2.size, fun k hk hne => h2.block k hk fun he => hne ?_⟩ h3
    rw [← he]; simp
  by_cases hm0 : m' = 0
  · subst hm0
    have : ys = [] := List.eq_nil_of_length_eq_zero (by simpa using hl)
    subst this
    have hrun : (Builtin.append_ #[t, t] 0 #[v, .slice A 0 c]).run P w = .ok v w := by
      rcases A with _ | ad
      · rcases how.2 with ⟨rfl, rfl⟩ | ⟨g, cap, cur, rfl, _, _, hnc, _⟩
        · simp [Builtin.append_, run_underlying ht, sizeOf, typeInfo, hi, Builtin.lenOf, Builtin.firstCells]
        · simp [Builtin.append_, run_underlying ht, sizeOf, typeInfo, hi, Builtin.lenOf, Builtin.firstCells, hnc, storeCells]
      · rcases how.2 with ⟨rfl, rfl⟩ | ⟨g, cap, cur, rfl, _, _, hnc, _⟩
        · simp [Builtin.append_, run_underlying ht, sizeOf, typeInfo, hi, Builtin.lenOf, Builtin.firstCells, loadCells, loadCellsFrom]
        · simp [Builtin.append_, run_underlying ht, sizeOf, typeInfo, hi, Builtin.lenOf, Builtin.firstCells, hnc, storeCells, loadCells, loadCellsFrom]
    exact fin v w hrun (by simpa using how) ⟨rfl, rfl, rfl, Nat.le_refl _, fun _ _ _ => rfl⟩ (.inl rfl)
  · obtain ⟨b, o, rfl, hcs⟩ := hr hm0
    obtain ⟨v', w', hrun, h1, h2, _, h3⟩ := run_append_own_at (P := P) w base t 0 e i z size bytes ht hi hz hsz hby hzs hs v n' xs how ⟨b, o, none⟩ m' c ys hl (fun j u hu => by rw [add_pl]; exact hcs j u hu) hone (by simp only [maxLen]; omega) hb hb1
    exact fin v' w' hrun h1 h2 h3
theorem fill_run {fs : Array Field} {ps : List (Nat × Value)} {z : Value} {cs : List Value} {places : Array (Nat × Nat)} (hu : P.underlying t = some (.struct fs)) (hz : zeroT P t = some z)
    (hp : ∀ w, (fs.mapM fun f => do pure (f.offset, ← sizeOf f.type) : Sem (Array (Nat × Nat))).run P w = .ok places w) (hf : Instr.fill (places[·]?) z.cells ps = some ⟨cs⟩) : wBuild P t ps w K = K (.agg ⟨cs⟩) w := by
  refine pureW_eq (fun w' => ?_) w K
  unfold Instr.build
  simp only [Sem.run_bind, zero_run hz, Result.andThen_ok, und_run hu, hp]
  simp only [hf, Sem.run_pure]
theorem buildS_i {e : TypeId} {ps : List (Nat × Value)} {z : Value} {cs : List Value} {n size : Nat} (hu : P.underlying t = some (.slice e)) (hsz : ∀ w, (sizeOf e).run P w = .ok size w) (hz : zeroT P e = some z) (hn : n * size ≤ 16777216)
    (hf : Instr.fill (fun i => some (i * size, size)) (if n * size = 0 then #[] else (Array.range (n * size)).map (z.cells[· % z.cells.size]!)) ps = some ⟨cs⟩)
    (hk : ∀ w' g, g = w.heap.size → Ex [] w w' → Blk w' g e cs → K (.slice (some ⟨g, 0, none⟩) n n) w') : wBuildS P t n ps w K := by
  have hrun : (Instr.buildSlice t n ⟨ps⟩).run P w = .ok (.slice (some ⟨w.heap.size, 0, none⟩) n n) (w.alloc (.cells ⟨cs⟩ e)) := by
    unfold Instr.buildSlice
    simp only [Sem.run_bind, und_run hu, Result.andThen_ok, hsz]
    rw [if_neg (by have : (2:Nat) ^ 24 = 16777216 := by decide
                   omega)]
    by_cases h0 : n * size = 0
    · rw [if_pos h0] at hf
      rw [if_pos h0]
      have : (Array.range (n * size)).map (fun x => (#[] : Array Value)[x % (#[] : Array Value).size]!) = #[] := by rw [h0]; simp
      show (Sem.run P (match Instr.fill (fun i => some (i * size, size)) ((Array.range (n * size)).map (fun x => (#[] : Array Value)[x % (#[] : Array Value).size]!)) ps with
          | some cells => do
            let a ← newRow e cells
            pure (Value.slice (some a) n n)
          | x => stuck "buildSlice: a part of the wrong size") w) = _
      rw [this, hf]
      simp only [Sem.run_bind, newRow_run, Result.andThen_ok, Sem.run_pure]
    · rw [if_neg h0] at hf
      rw [if_neg h0]
      simp only [Sem.run_bind, zero_run hz, Result.andThen_ok, Sem.run_pure, hf, newRow_run]
  unfold wBuildS runW
  rw [hrun]
  exact hk _ _ rfl (Ex.alloc _ _) (blk_new _ _ _)
/-- A slice of one element ('append(l, x)'). -/
theorem buildS_1 {e : TypeId} {x : Value} {z : Value} {xs : List Value} {size : Nat} (hu : P.underlying t = some (.slice e)) (hsz : ∀ w, (sizeOf e).run P w = .ok size w) (hz : zeroT P e = some z) (hn : size ≤ 16777216) (hx : x.cells = ⟨xs⟩) (hl : xs.length = size) (hzl : z.cells.size = size)
    (hk : ∀ w' g, g = w.heap.size → Ex [] w w' → Blk w' g e xs → K (.slice (some ⟨g, 0, none⟩) 1 1) w') : wBuildS P t 1 [(0, x)] w K := by
  refine buildS_i hu hsz hz (by omega) (cs := xs) ?_ hk
  unfold Instr.fill
  have h1 : x.cells.size = size := by rw [hx]; exact hl
  have h2 : (if 1 * size = 0 then #[] else (Array.range (1 * size)).map (z.cells[· % z.cells.size]!)).size = size := by
    split
    · simp_all
    · simp
  simp only [Nat.zero_mul, h1, h2, Nat.zero_add]
  rw [if_neg (by simp)]
  unfold Instr.fill
  congr 1
  generalize (if 1 * size = 0 then #[] else (Array.range (1 * size)).map (z.cells[· % z.cells.size]!)) = acc at *
  rw [hx]
  have key : ∀ (ys pre : List Value) (a : Array Value), a.size = (pre ++ ys).length → a.toList.take pre.length = pre →
      (ys.zipIdx pre.length).foldl (fun cs (p : Value × Nat) => cs.setIfInBounds p.2 p.1) a = ⟨pre ++ ys⟩ := by
    intro ys
    induction ys with
    | nil =>
      intro pre a ha ht
      apply Array.toList_inj.1
      simp only [List.append_nil] at ha ⊢
      rw [List.take_of_length_le (by simp [ha])] at ht
      simpa using ht
    | cons y ys ih =>
      intro pre a ha ht
      have := ih (pre ++ [y]) (a.setIfInBounds pre.length y) (by simp [ha]) (by
        have hlt : pre.length < a.toList.length := by simp [ha]
        simp only [Array.toList_setIfInBounds, List.length_append, List.length_singleton]
        rw [List.take_succ_eq_append_getElem (by simpa using hlt), List.take_set_of_le (Nat.le_refl _), ht]
        simp)
      simp only [List.length_append, List.length_singleton, List.append_assoc, List.singleton_append] at this
      rw [← this]
      simp only [List.zipIdx_cons, List.foldl_cons]
  have := key xs [] acc (by simp [h2, hl]) rfl
  simp only [List.length_nil, List.nil_append] at this
  rw [← Array.foldl_toList, Array.toList_zipIdx]
  exact this
end mk
end Go.Dn
end
section
/-! Results in memory, draws, equality of arrays, bits. -/
set_option linter.unusedVariables false
set_option linter.unusedSimpArgs false
namespace Go.Dn
open Go Go.RowKit
attribute [local semireducible] wCall wCallV wInvoke callW wNext wLoad wStore wBox wAlloc wBuild wBuildS wBin wBinF wUn wConv wIface wFunc wMakeMap wMake wSlice wFieldA wField wIndexA wIndex wLookup wMapSet wExtract wLen wBuiltin wRange wNextI wEntry wNil wOther wKeep

section m4
variable {P : Program} {t : TypeId} {w : World} {K : Value → World → Prop}
theorem res_agg {n b o : Nat} {xs : List Value} {k : Value → Prop} (hT : aggT P t n = true) (h : Cs w b o xs) (hl : xs.length = n) (hk : k (.agg ⟨xs⟩)) : wRes P t (.pointer (some ⟨b, o, none⟩)) w k := by
  refine ⟨_, ?_, hk⟩
  have := loadAt_agg (P := P) hT h hl
  unfold Instr.loadAt at this
  simp only [Instr.sureAddr, Sem.run_bind, Sem.run_pure, Result.andThen_ok] at this
  simp only [asAddr, Sem.run_bind, Sem.run_pure, Result.andThen_ok]
  exact this
theorem res_one {a : Addr} {v : Value} {k : Value → Prop} (hT : oneT P t = true) (h : w.cell? a = some v) (hk : k v) : wRes P t (.pointer (some a)) w k := by
  refine ⟨_, ?_, hk⟩
  have := loadAt_one (P := P) hT h
  unfold Instr.loadAt at this
  simp only [Instr.sureAddr, Sem.run_bind, Sem.run_pure, Result.andThen_ok] at this
  simp only [asAddr, Sem.run_bind, Sem.run_pure, Result.andThen_ok]
  exact this
theorem Blk.all {w : World} {g : Nat} {t : TypeId} {cs : List Value} (h : Blk w g t cs) : Cs w g 0 cs := by
  intro i v hv
  rw [Nat.zero_add, h.cell]
  exact hv
theorem draw_i {k : World → Prop} (hk : ∀ w', Ex [] w w' → w'.heap = w.heap → k w') : wDraw w k := hk _ (Ex.refl _ _).drew rfl
theorem Blk.heap {w w' : World} {g : Nat} {t : TypeId} {cs : List Value} (h : Blk w g t cs) (hh : w'.heap = w.heap) : Blk w' g t cs := by
  unfold Blk at *; rw [hh]; exact h
theorem Ex.le {S : List Nat} {w w' : World} (h : Ex S w w') : w.heap.size ≤ w'.heap.size := h.size
theorem Ex.nil {S : List Nat} {w w' : World} (h : Ex [] w w') : Ex S w w' := h.mono (by simp)
/-- What was written is new since w. -/
theorem Ex.new {w a b : World} {g : Nat} (h : Ex [] w a) (k : Ex [g] a b) (hg : w.heap.size ≤ g) : Ex [] w b := h.step k (by simp; omega)

/-! Bits. -/
theorem ofInt_nat {n x : Nat} (hx : x < 2 ^ n) : (BitVec.ofInt n (x : Int)).toNat = x := by
  rw [BitVec.toNat_ofInt]
  have : ((x : Int) % ((2 ^ n : Nat) : Int)).toNat = x % 2 ^ n := by
    rw [← Int.natCast_emod]; rfl
  rw [this, Nat.mod_eq_of_lt hx]
theorem bin_orN {k : IntKind} {x y : Nat} (hx : x < 2 ^ k.bits) (hy : y < 2 ^ k.bits) (hk : k.signed = false) : wBin P .or t (.int k x) (.int k y) w K = K (.int k ((x ||| y : Nat) : Int)) w := by
  refine bin_int ?_
  have h1 := Nat.or_lt_two_pow hx hy
  simp only [binOp, ne_eq, not_true_eq_false, if_false, Op.intBits, BitVec.toNat_or, ofInt_nat hx, ofInt_nat hy]
  congr 2
  unfold IntKind.wrap
  rw [hk]
  simp only [Bool.false_and, Bool.false_eq_true, if_false]
  have : ((x ||| y : Nat) : Int) % (2 ^ k.bits : Int) = (((x ||| y) % 2 ^ k.bits : Nat) : Int) := by
    rw [Int.natCast_emod]; norm_cast
  rw [this, Nat.mod_eq_of_lt h1]
theorem bin_xorN {k : IntKind} {x y : Nat} (hx : x < 2 ^ k.bits) (hy : y < 2 ^ k.bits) (hk : k.signed = false) : wBin P .xor t (.int k x) (.int k y) w K = K (.int k ((x ^^^ y : Nat) : Int)) w := by
  refine bin_int ?_
  have h1 := Nat.xor_lt_two_pow hx hy
  simp only [binOp, ne_eq, not_true_eq_false, if_false, Op.intBits, BitVec.toNat_xor, ofInt_nat hx, ofInt_nat hy]
  congr 2
  unfold IntKind.wrap
  rw [hk]
  simp only [Bool.false_and, Bool.false_eq_true, if_false]
  have : ((x ^^^ y : Nat) : Int) % (2 ^ k.bits : Int) = (((x ^^^ y) % 2 ^ k.bits : Nat) : Int) := by
    rw [Int.natCast_emod]; norm_cast
  rw [this, Nat.mod_eq_of_lt h1]
theorem bin_andN {k : IntKind} {x y : Nat} (hx : x < 2 ^ k.bits) (hy : y < 2 ^ k.bits) (hk : k.signed = false) : wBin P .and t (.int k x) (.int k y) w K = K (.int k ((x &&& y : Nat) : Int)) w := by
  refine bin_int ?_
  have h1 := Nat.and_lt_two_pow x hy
  simp only [binOp, ne_eq, not_true_eq_false, if_false, Op.intBits, BitVec.toNat_and, ofInt_nat hx, ofInt_nat hy]
  congr 2
  unfold IntKind.wrap
  rw [hk]
  simp only [Bool.false_and, Bool.false_eq_true, if_false]
  have : ((x &&& y : Nat) : Int) % (2 ^ k.bits : Int) = (((x &&& y) % 2 ^ k.bits : Nat) : Int) := by
    rw [Int.natCast_emod]; norm_cast
  rw [this, Nat.mod_eq_of_lt h1]
theorem wrapN {k : IntKind} {x : Nat} (hk : k.signed = false) (hx : x < 2 ^ k.bits) : k.wrap (x : Int) = x := by
  unfold IntKind.wrap
  rw [hk]
  simp only [Bool.false_and, Bool.false_eq_true, if_false]
  have : (x : Int) % (2 ^ k.bits : Int) = ((x % 2 ^ k.bits : Nat) : Int) := by
    rw [Int.natCast_emod]; norm_cast
  rw [this, Nat.mod_eq_of_lt hx]
theorem bin_quoN {k : IntKind} {x y : Nat} (hk : k.signed = false) (hx : x < 2 ^ k.bits) (hy : 0 < y) : wBin P .quo t (.int k x) (.int k y) w K = K (.int k ((x / y : Nat) : Int)) w := by
  refine bin_int ?_
  simp only [binOp, ne_eq, not_true_eq_false, if_false, Op.intDiv]
  rw [if_neg (by omega)]
  congr 2
  have : (x : Int).tdiv (y : Int) = ((x / y : Nat) : Int) := by
    rw [Int.tdiv_eq_ediv_of_nonneg (by omega)]; norm_cast
  rw [this, wrapN hk (Nat.lt_of_le_of_lt (Nat.div_le_self _ _) hx)]
theorem bin_remN {k : IntKind} {x y : Nat} (hy : 0 < y) : wBin P .rem t (.int k x) (.int k y) w K = K (.int k ((x % y : Nat) : Int)) w := by
  refine bin_int ?_
  simp only [binOp, ne_eq, not_true_eq_false, if_false, Op.intDiv]
  rw [if_neg (by omega)]
  congr 2
theorem bin_quoI {x y : Nat} (hx : x ≤ 9223372036854775807) (hy : 0 < y) : wBin P .quo t (.int .i64 x) (.int .i64 y) w K = K (.int .i64 ((x / y : Nat) : Int)) w := by
  refine bin_int ?_
  simp only [binOp, ne_eq, not_true_eq_false, if_false, Op.intDiv]
  rw [if_neg (by omega)]
  congr 2
  have : (x : Int).tdiv (y : Int) = ((x / y : Nat) : Int) := by
    rw [Int.tdiv_eq_ediv_of_nonneg (by omega)]; norm_cast
  have h2 := Nat.div_le_self x y
  rw [this]
  generalize x / y = q at *
  rw [IntWalk.i64_in _ (by omega)]

/-! Equality of arrays of numbers. -/
theorem part_one {e : TypeId} {cs : Array Value} {o : Nat} {v : Value} (hT : oneT P e = true) (hv : cs[o]? = some v) (w : World) : (part e cs o).run P w = .ok v w := by
  unfold part
  simp only [Sem.run_bind, isAgg_one hT, Result.andThen_ok, Bool.false_eq_true, if_false, hv, Sem.run_pure]
theorem eqIn_int {e : TypeId} {k : IntKind} (d : Nat) (a b : Int) (he : P.underlying e = some (.int k)) (w : World) : (Op.equalIn (d + 1) e (.int k a) (.int k b)).run P w = .ok (a == b) w := by
  rw [Op.equalIn]
  simp only [Sem.run_bind, und_run he, Result.andThen_ok, if_true]
  rfl
end m4
end Go.Dn
end
section
/-! '==' of arrays and structs. -/
set_option linter.unusedVariables false
set_option linter.unusedSimpArgs false
namespace Go.Dn
open Go Go.RowKit
section m5
variable {P : Program} {t : TypeId} {w : World} {K : Value → World → Prop}
theorem eqItems_int {e : TypeId} {k : IntKind} (d : Nat) (ho : oneT P e = true) (he : P.underlying e = some (.int k)) (xs ys : List Int) (hl : xs.length = ys.length) (w : World) : ∀ (m i : Nat), i + m = xs.length →
    (Op.eqItems (d + 1) e 1 ⟨xs.map (Value.int k)⟩ ⟨ys.map (Value.int k)⟩ (List.range' i m)).run P w = .ok (decide (xs.drop i = ys.drop i)) w := by
  intro m
  induction m with
  | zero =>
    intro i hi
    rw [List.drop_of_length_le (by omega), List.drop_of_length_le (by omega)]
    simp [List.range'_zero, Op.eqItems, Sem.run_pure]
  | succ m ih =>
    intro i hi
    have hx : i < xs.length := by omega
    have hy : i < ys.length := by omega
    have h1 := part_one (P := P) (cs := ⟨xs.map (Value.int k)⟩) (o := i * 1) (v := .int k xs[i]) ho (by simp [hx]) w
    have h2 := part_one (P := P) (cs := ⟨ys.map (Value.int k)⟩) (o := i * 1) (v := .int k ys[i]) ho (by simp [hy]) w
    rw [List.range'_succ, Op.eqItems]
    simp only [Sem.run_bind, h1, h2, Result.andThen_ok, eqIn_int d _ _ he]
    have key : (xs.drop i = ys.drop i) ↔ (xs[i] = ys[i] ∧ xs.drop (i + 1) = ys.drop (i + 1)) := by
      conv => lhs; rw [List.drop_eq_getElem_cons hx, List.drop_eq_getElem_cons hy]
      rw [List.cons.injEq]
    by_cases hxy : xs[i] = ys[i]
    · have : (xs[i] == ys[i]) = true := by simpa using hxy
      rw [this]
      simp only [Bool.not_true, Bool.false_eq_true, if_false]
      rw [ih (i + 1) (by omega)]
      congr 1
      rw [decide_eq_decide, key]
      exact ⟨fun h => ⟨hxy, h⟩, fun h => h.2⟩
    · have : (xs[i] == ys[i]) = false := by simpa using hxy
      rw [this]
      simp only [Bool.not_false, if_true, Sem.run_pure]
      congr 1
      rw [eq_comm, decide_eq_false_iff_not, key]
      exact fun h => hxy h.1
theorem eqA_int {e : TypeId} {n : Nat} {k : IntKind} (hu : P.underlying t = some (.array n e)) (ho : oneT P e = true) (he : P.underlying e = some (.int k)) (d : Nat) (xs ys : List Int) (hx : xs.length = n) (hy : ys.length = n) (w : World) :
    (Op.equalIn (d + 2) t (.agg ⟨xs.map (Value.int k)⟩) (.agg ⟨ys.map (Value.int k)⟩)).run P w = .ok (decide (xs = ys)) w := by
  obtain ⟨i, hi⟩ : ∃ i, P.info? e = some i := by
    unfold oneT at ho
    rw [he] at ho
    simp only at ho
    split at ho
    · rename_i i hi; exact ⟨i, hi⟩
    · cases ho
  have hc : P.cellsOf e = 1 := by
    have h1 := sizeOf_one ho w
    rw [sizeOf_run hi] at h1
    injection h1 with h1
    unfold Program.cellsOf
    rw [hi]
    exact h1
  rw [run_equalIn_array w (d + 1) _ _ hu hi, hc, List.range_eq_range', eqItems_int d ho he xs ys (by omega) w n 0 (by omega)]
  rfl
theorem guard_agg {op : BinOp} (hg : P.eqGuardType P.depth t = false) (xs ys : Array Value) (c : Bool) (w' : World) :
    (eqGuard op t (if c = true then .const (.agg xs) else .tmp 0) (.tmp 0) (.agg xs) (.agg ys)).run P w' = .ok () w' := by
  unfold eqGuard program
  cases op <;> first | rfl | simp [Sem.run_bind, Sem.run, hg]
theorem bin_eqA {xs ys : Array Value} {b : Bool} (hg : P.eqGuardType P.depth t = false) (h : ∀ w', (Op.equalIn 10000 t (.agg xs) (.agg ys)).run P w' = .ok b w') : wBin P .eql t (.agg xs) (.agg ys) w K = K (.bool b) w :=
  bin_eq_of (by simp) (by simp) (by simp) (by simp) (fun c w' => guard_agg hg xs ys c w') h
theorem bin_neA {xs ys : Array Value} {b : Bool} (hg : P.eqGuardType P.depth t = false) (h : ∀ w', (Op.equalIn 10000 t (.agg xs) (.agg ys)).run P w' = .ok b w') : wBin P .neq t (.agg xs) (.agg ys) w K = K (.bool (!b)) w :=
  bin_ne_of (by simp) (by simp) (by simp) (by simp) (fun c w' => guard_agg hg xs ys c w') h
theorem bin_eqA2 {xs ys : Array Value} {b : Bool} (hg : P.eqGuardType P.depth t = false) (h : ∀ d w', (Op.equalIn (d + 2) t (.agg xs) (.agg ys)).run P w' = .ok b w') : wBin P .eql t (.agg xs) (.agg ys) w K = K (.bool b) w :=
  bin_eqA hg (fun w' => h 9998 w')
theorem bin_neA2 {xs ys : Array Value} {b : Bool} (hg : P.eqGuardType P.depth t = false) (h : ∀ d w', (Op.equalIn (d + 2) t (.agg xs) (.agg ys)).run P w' = .ok b w') : wBin P .neq t (.agg xs) (.agg ys) w K = K (.bool (!b)) w :=
  bin_neA hg (fun w' => h 9998 w')
theorem Own.of_blk {w : World} {base g n size : Nat} {e : TypeId} {cs : List Value} (B : Blk w g e cs) (hl : cs.length = n * size) (hb : base ≤ g) (hn : n ≤ 9223372036854775807) : Own w base e size (.slice (some ⟨g, 0, none⟩) n n) cs :=
  ⟨n, hl, .inr ⟨g, n, ⟨cs⟩, rfl, hb, B, Nat.le_refl _, by simp only [maxLen]; omega, hl, by rw [← hl]; simp⟩⟩
end m5
end Go.Dn
end
section
/-! copy. -/
set_option linter.unusedVariables false
set_option linter.unusedSimpArgs false
namespace Go.Dn
open Go Go.RowKit
attribute [local semireducible] wBuiltin wNext
section m6
variable {P : Program} {t : TypeId} {w : World} {K : Value → World → Prop}
/-- 'copy' of cells (elements of one cell) into a block. -/
theorem copy_i {e t' u : TypeId} {g o dn dc : Nat} {src : Value} {cs ys : List Value} (ht : P.underlying t = some (.slice e)) (ho : oneT P e = true) (H : Blk w g u cs) (hs : SlG w 1 src ys) (hc : ∀ y ∈ ys, isC y = true)
    (hl : o + min ys.length dn ≤ cs.length) (hk : ∀ w', Ex [g] w w' → Blk w' g u (splice cs o (ys.take dn)) → K (.int .i64 (min ys.length dn : Nat)) w') :
    wBuiltin P .copy #[t, t'] [.slice (some ⟨g, o, none⟩) dn dc, src] w K := by
  obtain ⟨A, m, c, rfl, hlen, hmc, hr⟩ := hs
  rw [Nat.mul_one] at hlen
  have hcells : (Builtin.firstCells 1 (Nat.min m dn) (.slice A m c)).run P w = .ok ⟨ys.take dn⟩ w := by
    rcases A with _ | ad
    · have : m = 0 := by
        rcases Nat.eq_zero_or_pos m with h | h
        · exact h
        · obtain ⟨b, o', h', _⟩ := hr (by omega); cases h'
      subst this
      have : ys = [] := List.eq_nil_of_length_eq_zero hlen
      subst this
      simp [Builtin.firstCells]
    · by_cases hm : m = 0
      · subst hm
        have : ys = [] := List.eq_nil_of_length_eq_zero hlen
        subst this
        simp [Builtin.firstCells, loadCells, loadCellsFrom]
      · obtain ⟨b, o', h', hcs⟩ := hr hm
        injection h' with h'
        subst h'
        have h1 := loadCells_run (P := P) (b := b) (ys.take dn) o' 0 #[] (fun i v hv => by
          rw [List.getElem?_take] at hv
          split at hv
          · have := hcs i v hv; simpa using this
          · cases hv)
        have h2 : (ys.take dn).length = Nat.min m dn * 1 := by rw [List.length_take, hlen, Nat.mul_one, Nat.min_comm]
        rw [h2] at h1
        unfold Builtin.firstCells loadCells
        rw [h1]
        simp
  have hl2 : o + (ys.take dn).length ≤ cs.length := by rw [List.length_take]; omega
  obtain ⟨w', h1, h2, h3⟩ := storeCells_run (P := P) (ys.take dn) cs o 0 w H (by simpa using hl2) (fun v hv => hc v (List.mem_of_mem_take hv))
  have hrun : (Builtin.copy_ #[t, t'] 0 #[.slice (some ⟨g, o, none⟩) dn dc, .slice A m c]).run P w = .ok (.int .i64 (min ys.length dn : Nat)) w' := by
    unfold Builtin.copy_
    simp only [List.getElem?_toArray, List.getElem?_cons_zero, List.getElem?_cons_succ]
    simp only [Sem.run_bind, und_run ht, Result.andThen_ok, Builtin.lenOf, Sem.run_pure, sizeOf_one ho, hcells, h1]
    rw [hlen]
    rfl
  unfold wBuiltin wNext builtin
  rw [Sem.run_bind, hrun]
  exact hk w' h2 (by simpa using h3)
/-! Building structs and arrays. -/
theorem setMany : ∀ (vs : List Value) (cs : List Value) (o : Nat), o + vs.length ≤ cs.length →
    ((⟨vs⟩ : Array Value).zipIdx.foldl (fun cs (p : Value × Nat) => cs.setIfInBounds (o + p.2) p.1) (⟨cs⟩ : Array Value)) = ⟨splice cs o vs⟩ := by
  intro vs cs o h
  rw [← Array.foldl_toList, Array.toList_zipIdx]
  have key : ∀ (vs cs : List Value) (i : Nat), o + i + vs.length ≤ cs.length → (vs.zipIdx i).foldl (fun cs (p : Value × Nat) => cs.setIfInBounds (o + p.2) p.1) (⟨cs⟩ : Array Value) = ⟨splice cs (o + i) vs⟩ := by
    intro vs
    induction vs with
    | nil => intro cs i _; simp [splice]
    | cons v vs ih =>
      intro cs i hl
      simp only [List.zipIdx_cons, List.foldl_cons]
      have e0 : (⟨cs⟩ : Array Value).setIfInBounds (o + i) v = ⟨cs.set (o + i) v⟩ := by
        apply Array.toList_inj.1; simp
      rw [e0, ih _ _ (by simp at hl ⊢; omega)]
      have hl' : o + i < cs.length := by simp at hl; omega
      congr 1
      unfold splice
      have e : o + (i + 1) + vs.length = o + i + (v :: vs).length := by simp; omega
      rw [e, ← Nat.add_assoc, List.take_succ_eq_append_getElem (by simp; omega), List.take_set_of_le (Nat.le_refl _), List.drop_set_of_lt (by simp)]
      simp
  have := key vs cs 0 (by omega)
  simpa using this
theorem fill_cons {place : Nat → Option (Nat × Nat)} {cs vs : List Value} {i off size : Nat} {v : Value} {rest : List (Nat × Value)} (hp : place i = some (off, size)) (hv : v.cells = ⟨vs⟩) (hl : vs.length = size) (ho : off + size ≤ cs.length) :
    Instr.fill place ⟨cs⟩ ((i, v) :: rest) = Instr.fill place ⟨splice cs off vs⟩ rest := by
  rw [Instr.fill]
  simp only [hp]
  rw [if_neg (by rw [hv]; simp; omega), hv, setMany vs cs off (by omega)]
theorem fill_nil {place : Nat → Option (Nat × Nat)} {cs : List Value} : Instr.fill place ⟨cs⟩ [] = some ⟨cs⟩ := rfl
theorem build_s {fs : Array Field} {ps : List (Nat × Value)} {z cs : List Value} {places : Array (Nat × Nat)} (hu : P.underlying t = some (.struct fs)) (hz : zeroT P t = some (.agg ⟨z⟩))
    (hp : ∀ w, (fs.mapM fun f => do pure (f.offset, ← sizeOf f.type) : Sem (Array (Nat × Nat))).run P w = .ok places w) (hf : Instr.fill (places[·]?) ⟨z⟩ ps = some ⟨cs⟩) : wBuild P t ps w K = K (.agg ⟨cs⟩) w :=
  fill_run hu hz hp hf
theorem fill_ones : ∀ (xs cs : List Value) (i : Nat), i + xs.length = cs.length → (∀ x ∈ xs, x.cells = #[x]) →
    Instr.fill (fun i => some (i * 1, 1)) ⟨cs⟩ ((xs.zipIdx i).map fun p => (p.2, p.1)) = some ⟨cs.take i ++ xs⟩
  | [], cs, i, h, _ => by
    simp only [List.length_nil, Nat.add_zero] at h
    simp [List.take_of_length_le (show cs.length ≤ i by omega), Instr.fill]
  | x :: xs, cs, i, h, hx => by
    simp only [List.zipIdx_cons, List.map_cons]
    simp only [List.length_cons] at h
    rw [fill_cons (vs := [x]) (off := i * 1) (size := 1) rfl (hx x (List.mem_cons_self ..)) rfl (by omega), fill_ones xs _ (i + 1) (by rw [splice_length (by simp; omega)]; omega) fun y hy => hx y (List.mem_cons_of_mem _ hy)]
    congr 2
    unfold splice
    rw [Nat.mul_one]
    have e : (cs.take i ++ [x]).length = i + 1 := by simp; omega
    rw [List.take_append_of_le_length (by omega), List.take_of_length_le (by omega)]
    simp
/-- A slice literal of elements of one cell. -/
theorem buildS_ones {e : TypeId} {z : Value} {n : Nat} {xs : List Value} {ps : List (Nat × Value)} (hps : ps = xs.zipIdx.map fun p => (p.2, p.1)) (hu : P.underlying t = some (.slice e)) (ho : oneT P e = true) (hz : zeroT P e = some z) (hzc : z.cells = #[z])
    (hl : xs.length = n) (hn : n ≤ 16777216) (hx : ∀ x ∈ xs, x.cells = #[x]) (hk : ∀ w' g, g = w.heap.size → Ex [] w w' → Blk w' g e xs → K (.slice (some ⟨g, 0, none⟩) n n) w') : wBuildS P t n ps w K := by
  subst hps
  refine buildS_i hu (sizeOf_one ho) hz (by omega) (cs := xs) ?_ hk
  have h0 : (if n * 1 = 0 then #[] else (Array.range (n * 1)).map (z.cells[· % z.cells.size]!)) = (⟨List.replicate n z⟩ : Array Value) := by
    apply Array.toList_inj.1
    by_cases h : n * 1 = 0
    · rw [if_pos h]
      have : n = 0 := by omega
      subst this; rfl
    · rw [if_neg h, hzc]
      apply List.ext_getElem (by simp)
      intro i h1 h2
      simp [Nat.mod_one]
  rw [h0]
  have := fill_ones xs (List.replicate n z) 0 (by simp [hl]) hx
  simpa using this
attribute [local semireducible] wBuild
theorem build_a {e : TypeId} {n size : Nat} {ps : List (Nat × Value)} {z cs : List Value} (hu : P.underlying t = some (.array n e)) (hz : zeroT P t = some (.agg ⟨z⟩)) (hs : ∀ w, (sizeOf e).run P w = .ok size w)
    (hf : Instr.fill (fun i => some (i * size, size)) ⟨z⟩ ps = some ⟨cs⟩) : wBuild P t ps w K = K (.agg ⟨cs⟩) w := by
  refine pureW_eq (fun w' => ?_) w K
  unfold Instr.build
  simp only [Sem.run_bind, zero_run hz, Result.andThen_ok, und_run hu, hs, Value.cells, hf, Sem.run_pure]
end m6
end Go.Dn
end
section
/-! Functions as values, 'make', floats. -/
set_option linter.unusedVariables false
set_option linter.unusedSimpArgs false
namespace Go.Dn
open Go Go.RowKit
attribute [local semireducible] wCallV wCall wNext wFunc wMake wBinF wConv wBin
section m7
variable {P : Program} {t : TypeId} {w : World} {K : Value → World → Prop}
theorem callv_eq (f : FuncId) (first cap args : List Value) : wCallV P (.func (.func f) ⟨first⟩ ⟨cap⟩) args w K = wCall P f (first ++ args ++ cap) w K := by
  unfold wCallV wCall wNext
  simp only [Deferred.ofValue, Sem.run_bind, Sem.run_pure, Result.andThen_ok, invoke]
  simp
theorem callv_0 (f : FuncId) (args : List Value) : wCallV P (.func (.func f) #[] #[]) args w K = wCall P f args w K := by
  have := callv_eq (P := P) (w := w) (K := K) f [] [] args
  simpa using this
theorem func_eq (f : FuncId) (first cap : List Value) : wFunc P (.func f) first cap w K = K (.func (.func f) ⟨first⟩ ⟨cap⟩) w := rfl
theorem made_flat (zs : List Value) (hs : zs ≠ []) : ∀ n, (List.range (n * zs.length)).map (fun i => zs[i % zs.length]!) = (List.replicate n zs).flatten
  | 0 => by simp
  | n + 1 => by
    have hp : 0 < zs.length := List.length_pos_iff.2 hs
    rw [Nat.succ_mul, List.range_add, List.map_append, made_flat zs hs n, List.replicate_succ', List.flatten_append]
    congr 1
    simp only [List.map_map, List.flatten_cons, List.flatten_nil, List.append_nil]
    apply List.ext_getElem
    · simp
    · intro i h1 h2
      simp only [List.length_map, List.length_range] at h1
      simp [Nat.mul_add_mod_of_lt, Nat.mod_eq_of_lt h1, h1, Nat.add_mod, Nat.mul_mod_left]
theorem make_i {e : TypeId} {i : TypeInfo} {z : Value} {zs : List Value} {n bytes : Nat} {k k' : IntKind} (ht : P.underlying t = some (.slice e)) (hi : P.info? e = some i) (hz : i.zero = some z) (hzc : z.cells = ⟨zs⟩) (hzn : zs ≠ []) (hsz : i.size = zs.length) (hby : i.bytes = bytes)
    (hn : n * zs.length ≤ 16777216) (hb : bytes * n ≤ 16777216)
    (hk : ∀ w' g, g = w.heap.size → Ex [] w w' → Blk w' g e (List.replicate n zs).flatten → K (.slice (some ⟨g, 0, none⟩) n n) w') : wMake P t (.int k n) (.int k' n) w K := by
  have hp : 1 ≤ zs.length := List.length_pos_iff.2 hzn
  have hm : n * 1 ≤ n * zs.length := Nat.mul_le_mul_left n hp
  have hb' : (i.bytes : Int) * (n : Int) ≤ 281474976710656 := by
    rw [hby, ← Int.natCast_mul]
    omega
  have h := run_makeSlice (P := P) w t e i z ht hi hz k k' (n : Int) (n : Int) (by omega) (by omega) (by rw [hsz, Int.toNat_natCast]; exact hn) hb' (by omega)
  have hmk : madeCells z.cells ((n : Int).toNat * i.size) = ⟨(List.replicate n zs).flatten⟩ := by
    rw [← made_flat zs hzn n]
    unfold madeCells
    apply Array.toList_inj.1
    rw [hzc, hsz]
    simp
  rw [hmk] at h
  unfold wMake runW
  rw [h]
  exact hk _ _ rfl (Ex.alloc _ _) (blk_new _ _ _)

/-! Floats. -/
theorem conv_f {s : TypeId} {d : TypeDesc} {k : IntKind} {n : Int} (hs : P.underlying s = some d) (hd : P.underlying t = some (.float .f64)) : wConv P s t (.int k n) w K = K (.float .f64 (FloatKind.f64.nearest n)) w := by
  refine pureW_eq (fun w' => ?_) w K
  unfold Go.convert
  simp only [Sem.run_bind, und_run hs, und_run hd, Result.andThen_ok]
  rfl
theorem bin_flt {op : BinOp} {a b : Nat} {v : Value} (h : binOp op t (.float .f64 a) (.float .f64 b) = pure v) : wBin P op t (.float .f64 a) (.float .f64 b) w K = K v w := by
  refine bin_of fun c w' => ?_
  have : (eqGuard op t (if c = true then .const (.float .f64 a) else .tmp 0) (.tmp 0) (.float .f64 a) (.float .f64 b)) = pure () := by
    unfold eqGuard
    split <;> rfl
  unfold binS
  rw [this, h]
  rfl
theorem bin_feql (a b : Nat) : wBin P .eql t (.float .f64 a) (.float .f64 b) w K = K (.bool (Ieee.double.order a b == some .eq)) w := bin_flt (by simp [binOp, Op.floatCmp, FloatKind.format])
theorem bin_fneq (a b : Nat) : wBin P .neq t (.float .f64 a) (.float .f64 b) w K = K (.bool (Ieee.double.order a b != some .eq)) w := bin_flt (by simp [binOp, Op.floatCmp, FloatKind.format])
theorem bin_flss (a b : Nat) : wBin P .lss t (.float .f64 a) (.float .f64 b) w K = K (.bool (Ieee.double.order a b == some .lt)) w := bin_flt (by simp [binOp, Op.floatCmp, FloatKind.format])
theorem bin_fgtr (a b : Nat) : wBin P .gtr t (.float .f64 a) (.float .f64 b) w K = K (.bool (Ieee.double.order a b == some .gt)) w := bin_flt (by simp [binOp, Op.floatCmp, FloatKind.format])
theorem quo_some {a b r : Nat} (h : Ieee.double.div a b = some r) (hk : K (.float .f64 r) w) : wBinF P .quo t (.float .f64 a) (.float .f64 b) w K := by
  intro c
  unfold runW binS
  have : (eqGuard .quo t (if c = true then .const (.float .f64 a) else .tmp 0) (.tmp 0) (.float .f64 a) (.float .f64 b)) = pure () := rfl
  rw [this]
  simp only [binOp, Op.floatArith, Sem.run_bind, Sem.run_pure, Result.andThen_ok, FloatKind.format, h, ne_eq, not_true_eq_false, if_false]
  exact hk
def nanB (t : Nat) : Nat := (t % 2) * 2 ^ 63 + 0x7ff0000000000000 + 1 + (t / 2) % (2 ^ 52 - 1)
theorem quo_none {a b : Nat} (h : Ieee.double.div a b = none) (hk : ∀ w' x, Ex [] w w' → w'.heap = w.heap → K (.float .f64 (nanB x)) w') : wBinF P .quo t (.float .f64 a) (.float .f64 b) w K := by
  intro c
  unfold runW binS
  have : (eqGuard .quo t (if c = true then .const (.float .f64 a) else .tmp 0) (.tmp 0) (.float .f64 a) (.float .f64 b)) = pure () := rfl
  rw [this]
  simp only [binOp, Op.floatArith, Sem.run_bind, Sem.run_pure, Result.andThen_ok, FloatKind.format, h, ne_eq, not_true_eq_false, if_false, Go.choose, Sem.run]
  exact hk _ _ (Ex.refl _ _).drew rfl
end m7
end Go.Dn
end
section
/-! Control: parts that are joined, loops, guarded parts; small things on lists. -/
set_option linter.unusedVariables false
set_option linter.unusedSimpArgs false
namespace Go.Dn
open Go
abbrev ptr (h : Nat) : Value := .pointer (some ⟨h, 0, none⟩)
theorem get_mid {α : Type} {X Y : List α} {x : α} {i : Nat} (h : X.length = i) : (X ++ x :: Y)[i]? = some x := by subst h; simp
theorem set_mid {α : Type} {X Y : List α} {x y : α} {i : Nat} (h : X.length = i) : (X ++ x :: Y).set i y = X ++ y :: Y := by subst h; simp
def ivs (l : List Nat) : List Value := l.map fun (n : Nat) => Value.int .i64 (n : Int)
theorem ivs_length (l : List Nat) : (ivs l).length = l.length := by simp [ivs]
theorem ivs_append (a b : List Nat) : ivs (a ++ b) = ivs a ++ ivs b := by simp [ivs]
theorem ivs_get {l : List Nat} {i n : Nat} (h : l[i]? = some n) : (ivs l)[i]? = some (.int .i64 (n : Int)) := by simp [ivs, h]
theorem j0_of {body : (World → Prop) → Prop} {k : Env → World → Prop} (I : World → Prop) (hb : ∀ k', (∀ w', I w' → k' w') → body k') (hk : ∀ J w', I w' → k J w') : wJ0 body k :=
  hb _ fun w' h J => hk J w' h
theorem j1_of {body : (Value → World → Prop) → Prop} {k : Env → Value → World → Prop} (I : Value → World → Prop) (hb : ∀ k', (∀ v w', I v w' → k' v w') → body k') (hk : ∀ J v w', I v w' → k J v w') : wJ1 body k :=
  hb _ fun v w' h J => hk J v w' h
theorem j2_of {body : (Value → Value → World → Prop) → Prop} {k : Env → Value → Value → World → Prop} (I : Value → Value → World → Prop) (hb : ∀ k', (∀ u v w', I u v w' → k' u v w') → body k') (hk : ∀ J u v w', I u v w' → k J u v w') : wJ2 body k :=
  hb _ fun u v w' h J => hk J u v w' h
theorem j3_of {body : (Value → Value → Value → World → Prop) → Prop} {k : Env → Value → Value → Value → World → Prop} (I : Value → Value → Value → World → Prop) (hb : ∀ k', (∀ u v x w', I u v x w' → k' u v x w') → body k') (hk : ∀ J u v x w', I u v x w' → k J u v x w') : wJ3 body k :=
  hb _ fun u v x w' h J => hk J u v x w' h
theorem loop_m0 {w0 : World} {step : Env → World → (World → Prop) → Prop} (I : Nat → World → Prop) {n : Nat} (h0 : I n w0)
    (hs : ∀ n J w k, I n w → (∀ n' w', n' < n → I n' w' → k w') → step J w k) : wL0 w0 step :=
  ⟨I, ⟨n, h0⟩, fun n J w hI => hs n J w _ hI fun n' w' hlt h => ⟨n', hlt, h⟩⟩
theorem loop_m1 {w0 : World} {x0 : Value} {step : Env → Value → World → (Value → World → Prop) → Prop} (I : Nat → Value → World → Prop) {n : Nat} (h0 : I n x0 w0)
    (hs : ∀ n J x w k, I n x w → (∀ n' x' w', n' < n → I n' x' w' → k x' w') → step J x w k) : wL1 x0 w0 step :=
  ⟨I, ⟨n, h0⟩, fun n J x w hI => hs n J x w _ hI fun n' x' w' hlt h => ⟨n', hlt, h⟩⟩
theorem loop_m2 {w0 : World} {x0 y0 : Value} {step : Env → Value → Value → World → (Value → Value → World → Prop) → Prop} (I : Nat → Value → Value → World → Prop) {n : Nat} (h0 : I n x0 y0 w0)
    (hs : ∀ n J x y w k, I n x y w → (∀ n' x' y' w', n' < n → I n' x' y' w' → k x' y' w') → step J x y w k) : wL2 x0 y0 w0 step :=
  ⟨I, ⟨n, h0⟩, fun n J x y w hI => hs n J x y w _ hI fun n' x' y' w' hlt h => ⟨n', hlt, h⟩⟩
theorem loop_m3 {w0 : World} {x0 y0 z0 : Value} {step : Env → Value → Value → Value → World → (Value → Value → Value → World → Prop) → Prop} (I : Nat → Value → Value → Value → World → Prop) {n : Nat} (h0 : I n x0 y0 z0 w0)
    (hs : ∀ n J x y z w k, I n x y z w → (∀ n' x' y' z' w', n' < n → I n' x' y' z' w' → k x' y' z' w') → step J x y z w k) : wL3 x0 y0 z0 w0 step :=
  ⟨I, ⟨n, h0⟩, fun n J x y z w hI => hs n J x y z w _ hI fun n' x' y' z' w' hlt h => ⟨n', hlt, h⟩⟩
theorem or_w {b r : Bool} {body : (Value → World → Prop) → Prop} {w : World} {k : Value → World → Prop} (h : b = false → ∀ k', (∀ w', Ex [] w w' → k' (.bool r) w') → body k')
    (hk : ∀ w', Ex [] w w' → k (.bool (b || r)) w') : wGrp (.bool b) false body w fun _ v w => wPick (.bool b) (.bool true) v w k := by
  unfold wGrp
  cases b
  · simp only [if_true]
    exact h rfl _ fun w' hE J => hk w' hE
  · simp only [Bool.true_eq_false, if_false]
    exact fun J => hk w (Ex.refl _ _)
theorem and_w {b r : Bool} {body : (Value → World → Prop) → Prop} {w : World} {k : Value → World → Prop} (h : b = true → ∀ k', (∀ w', Ex [] w w' → k' (.bool r) w') → body k')
    (hk : ∀ w', Ex [] w w' → k (.bool (b && r)) w') : wGrp (.bool b) true body w fun _ v w => wPick (.bool b) v (.bool false) w k := by
  unfold wGrp
  cases b
  · simp only [Bool.false_eq_true, if_false]
    exact fun J => hk w (Ex.refl _ _)
  · simp only [if_true]
    exact h rfl _ fun w' hE J => hk w' hE
theorem ptr_ne_nil {P : Program} {w : World} {K : Value → World → Prop} {t d : TypeId} (ht : P.underlying t = some (.pointer d)) (a : Addr) : wBin P .eql t (.pointer (some a)) (.pointer none) w K = K (.bool false) w := by
  refine bin_eq_of (by simp) (by simp) (by simp) (by simp) (fun _ _ => rfl) (fun w' => ?_)
  unfold Op.equal Op.maxDepth
  rw [Op.equalIn]
  simp only [Sem.run_bind, und_run ht, Result.andThen_ok]
  rfl
theorem nil_eq_nil {P : Program} {w : World} {K : Value → World → Prop} {t d : TypeId} (ht : P.underlying t = some (.pointer d)) : wBin P .eql t (.pointer none) (.pointer none) w K = K (.bool true) w := by
  refine bin_eq_of (by simp) (by simp) (by simp) (by simp) (fun _ _ => rfl) (fun w' => ?_)
  unfold Op.equal Op.maxDepth
  rw [Op.equalIn]
  simp only [Sem.run_bind, und_run ht, Result.andThen_ok]
  rfl
theorem ptr_neq_nil {P : Program} {w : World} {K : Value → World → Prop} {t d : TypeId} (ht : P.underlying t = some (.pointer d)) (a : Addr) : wBin P .neq t (.pointer (some a)) (.pointer none) w K = K (.bool true) w := by
  refine bin_ne_of (b := false) (by simp) (by simp) (by simp) (by simp) (fun _ _ => rfl) (fun w' => ?_)
  unfold Op.equal Op.maxDepth
  rw [Op.equalIn]
  simp only [Sem.run_bind, und_run ht, Result.andThen_ok]
  rfl
theorem nil_neq_nil {P : Program} {w : World} {K : Value → World → Prop} {t d : TypeId} (ht : P.underlying t = some (.pointer d)) : wBin P .neq t (.pointer none) (.pointer none) w K = K (.bool false) w := by
  refine bin_ne_of (b := true) (by simp) (by simp) (by simp) (by simp) (fun _ _ => rfl) (fun w' => ?_)
  unfold Op.equal Op.maxDepth
  rw [Op.equalIn]
  simp only [Sem.run_bind, und_run ht, Result.andThen_ok]
  rfl
theorem Ex.back {S : List Nat} {w w' : World} {b : Nat} {t : TypeId} {cs : List Value} (h : Ex (b :: S) w w') (h1 : Blk w b t cs) (h2 : Blk w' b t cs) : Ex S w w' :=
  ⟨h.os, h.tape, h.output, h.size, fun k hk hn => by
    by_cases e : k = b
    · subst e; unfold Blk at h1 h2; rw [h1, h2]
    · exact h.block k hk (by simp [e, hn])⟩
theorem set_same {α : Type} {cs : List α} {o : Nat} {x : α} (h : cs[o]? = some x) : cs.set o x = cs := by
  obtain ⟨h1, rfl⟩ := List.getElem?_eq_some_iff.1 h
  exact List.set_getElem_self h1
theorem SlG.hi {P : Program} {w : World} {v : Value} {size n : Nat} {xs : List Value} {t : TypeId} {j : Int} {ik : IntKind} {k : Value → World → Prop} (S : SlG w size v xs) (ht : slT P t = some size) (hs : 0 < size) (hn : xs.length = n * size) (h0 : 0 ≤ j) (h1 : j ≤ n)
    (hk : ∀ v', v'.ownBlock = v.ownBlock → SlG w size v' (xs.take (j.toNat * size)) → k v' w) : wSlice P t v none (some (.int ik j)) none w k := by
  obtain ⟨A, m, c, rfl, hl, hc, hr⟩ := S
  have : m = n := Nat.eq_of_mul_eq_mul_right hs (hl.symm.trans hn)
  subst this
  rw [sliceS_hi ht h0 (by omega)]
  refine hk _ ?_ ⟨A, j.toNat, c, rfl, ?_, by omega, fun hne => ?_⟩
  · cases A <;> rfl
  · rw [List.length_take, hl]
    have : j.toNat * size ≤ m * size := Nat.mul_le_mul_right _ (by omega)
    omega
  · obtain ⟨b, o, rfl, hcs⟩ := hr (by omega)
    refine ⟨b, o, rfl, fun i v hv => ?_⟩
    rw [List.getElem?_take] at hv
    split at hv
    · exact hcs i v hv
    · cases hv
/-- What a slice of one's own owns is new, or was its own. -/
theorem Own.newb {w : World} {base size : Nat} {e : TypeId} {v : Value} {xs : List Value} (h : Own w base e size v xs) : ∀ y ∈ v.ownBlock.toList, base ≤ y ∧ y < w.heap.size := by
  intro y hy
  cases hv : v.ownBlock with
  | none => rw [hv] at hy; simp at hy
  | some g =>
    rw [hv] at hy
    simp at hy
    subst hy
    have := h.blk hv
    exact ⟨this.1, this.2.1⟩
end Go.Dn
end
section
/-! Texts of functions, printed by mkg.py. -/
set_option maxRecDepth 100000
set_option linter.unusedVariables false
namespace Go.Dn
open Go Go.Proofs
def F_codec_WriteUses (a0 : Value) (w : World) (k : Value → World → Prop) : Prop :=
  wAlloc P T_api_Sector w fun t2 w =>
  wCall P n_codec_write_LLcodec_Use [(.int .u8 5), a0, (.func (.func n_codec_passUses) #[] #[]), (.func (.func n_codec_mayUses) #[] #[])] w fun t5 w =>
  wExtract P t5 0 w fun t6 w =>
  wExtract P t5 1 w fun t7 w =>
  wStore P T_api_Sector t2 t6 w fun w =>
  wRes P T_api_Sector t2 w fun r2 =>
  k (.tuple #[r2, t7]) w

theorem call_codec_WriteUses (a0 : Value) {w : World} {k : Value → World → Prop} (h : F_codec_WriteUses a0 w k) : wCall P n_codec_WriteUses [a0] w k :=
  call_of_den mixedP Try.func48 (by kernel_rfl) .z (by kernel_rfl) (Eq.mp (by kernel_rfl) h)

def F_codec_ReadUses (a0 : Value) (w : World) (k : Value → World → Prop) : Prop :=
  wBox P T_api_Sector a0 w fun t1 w =>
  wLoad P T_api_Sector t1 w fun t4 w =>
  wCall P n_codec_read_LLcodec_Use [(.int .u8 5), t4, (.func (.func n_codec_passUses) #[] #[]), (.func (.func n_codec_mayUses) #[] #[])] w fun t5 w =>
  wExtract P t5 0 w fun t6 w =>
  wExtract P t5 1 w fun t7 w =>
  k (.tuple #[t6, t7]) w

theorem call_codec_ReadUses (a0 : Value) {w : World} {k : Value → World → Prop} (h : F_codec_ReadUses a0 w k) : wCall P n_codec_ReadUses [a0] w k :=
  call_of_den mixedP Try.func50 (by kernel_rfl) .z (by kernel_rfl) (Eq.mp (by kernel_rfl) h)

def F_codec_WriteInode (a0 : Value) (w : World) (k : Value → World → Prop) : Prop :=
  wBox P T_codec_Inode a0 w fun t1 w =>
  wAlloc P T_api_Sector w fun t2 w =>
  wLoad P T_codec_Inode t1 w fun t4 w =>
  wCall P n_codec_write_codec_Inode [(.int .u8 2), t4, (.func (.func n_codec_passInode) #[] #[]), (.func (.func n_codec_mayInode) #[] #[])] w fun t5 w =>
  wExtract P t5 0 w fun t6 w =>
  wExtract P t5 1 w fun t7 w =>
  wStore P T_api_Sector t2 t6 w fun w =>
  wRes P T_api_Sector t2 w fun r2 =>
  k (.tuple #[r2, t7]) w

theorem call_codec_WriteInode (a0 : Value) {w : World} {k : Value → World → Prop} (h : F_codec_WriteInode a0 w k) : wCall P n_codec_WriteInode [a0] w k :=
  call_of_den mixedP Try.func55 (by kernel_rfl) .z (by kernel_rfl) (Eq.mp (by kernel_rfl) h)

def F_codec_ReadInode (a0 : Value) (w : World) (k : Value → World → Prop) : Prop :=
  wBox P T_api_Sector a0 w fun t1 w =>
  wAlloc P T_codec_Inode w fun t2 w =>
  wLoad P T_api_Sector t1 w fun t4 w =>
  wCall P n_codec_read_codec_Inode [(.int .u8 2), t4, (.func (.func n_codec_passInode) #[] #[]), (.func (.func n_codec_mayInode) #[] #[])] w fun t5 w =>
  wExtract P t5 0 w fun t6 w =>
  wExtract P t5 1 w fun t7 w =>
  wStore P T_codec_Inode t2 t6 w fun w =>
  wRes P T_codec_Inode t2 w fun r2 =>
  k (.tuple #[r2, t7]) w

theorem call_codec_ReadInode (a0 : Value) {w : World} {k : Value → World → Prop} (h : F_codec_ReadInode a0 w k) : wCall P n_codec_ReadInode [a0] w k :=
  call_of_den mixedP Try.func58 (by kernel_rfl) .z (by kernel_rfl) (Eq.mp (by kernel_rfl) h)

def F_codec_WriteHeader (a0 : Value) (w : World) (k : Value → World → Prop) : Prop :=
  wBox P T_codec_Header a0 w fun t1 w =>
  wAlloc P T_api_Sector w fun t2 w =>
  wLoad P T_codec_Header t1 w fun t4 w =>
  wCall P n_codec_write_codec_Header [(.int .u8 6), t4, (.func (.func n_codec_passHeader) #[] #[]), (.func (.func n_codec_mayHeader) #[] #[])] w fun t5 w =>
  wExtract P t5 0 w fun t6 w =>
  wExtract P t5 1 w fun t7 w =>
  wStore P T_api_Sector t2 t6 w fun w =>
  wRes P T_api_Sector t2 w fun r2 =>
  k (.tuple #[r2, t7]) w

theorem call_codec_WriteHeader (a0 : Value) {w : World} {k : Value → World → Prop} (h : F_codec_WriteHeader a0 w k) : wCall P n_codec_WriteHeader [a0] w k :=
  call_of_den mixedP Try.func61 (by kernel_rfl) .z (by kernel_rfl) (Eq.mp (by kernel_rfl) h)

def F_codec_ReadHeader (a0 : Value) (w : World) (k : Value → World → Prop) : Prop :=
  wBox P T_api_Sector a0 w fun t1 w =>
  wAlloc P T_codec_Header w fun t2 w =>
  wLoad P T_api_Sector t1 w fun t4 w =>
  wCall P n_codec_read_codec_Header [(.int .u8 6), t4, (.func (.func n_codec_passHeader) #[] #[]), (.func (.func n_codec_mayHeader) #[] #[])] w fun t5 w =>
  wExtract P t5 0 w fun t6 w =>
  wExtract P t5 1 w fun t7 w =>
  wStore P T_codec_Header t2 t6 w fun w =>
  wRes P T_codec_Header t2 w fun r2 =>
  k (.tuple #[r2, t7]) w

theorem call_codec_ReadHeader (a0 : Value) {w : World} {k : Value → World → Prop} (h : F_codec_ReadHeader a0 w k) : wCall P n_codec_ReadHeader [a0] w k :=
  call_of_den mixedP Try.func63 (by kernel_rfl) .z (by kernel_rfl) (Eq.mp (by kernel_rfl) h)

def F_codec_WritePointers (a0 : Value) (w : World) (k : Value → World → Prop) : Prop :=
  wBox P T_A32int a0 w fun t1 w =>
  wAlloc P T_api_Sector w fun t2 w =>
  wAlloc P T_num_Writer w fun t4 w =>
  wJ0 (fun k1 =>
    wLoad P T_A32int t1 w fun t7 w =>
    wL1 (.int .i64 0) w (fun _ v8 w k2 =>
      wBin P .lss T_int v8 (.int .i64 32) w fun t9 w =>
      wIf t9 (
        wIndex P T_A32int t7 v8 w fun t10 w =>
        wCall P n_codec_among [t10, (.int .i64 0), (.int .i64 65535)] w fun t12 w =>
        wUn P .not t12 w fun t13 w =>
        wIf t13 (
          wBuild P T_api_Sector [] w fun t14 w =>
          wStore P T_api_Sector t2 t14 w fun w =>
          wRes P T_api_Sector t2 w fun r2 =>
          k (.tuple #[r2, (.int .i64 1)]) w) (
          wConv P T_int T_uint64 t10 w fun t16 w =>
          wCall P n_num_Writer_Num [t4, (.int .i64 4), t16] w fun _ w =>
          wBin P .add T_int v8 (.int .i64 1) w fun t18 w =>
          k2 t18 w)) (
        k1 w))) fun _ w =>
  wCall P n_num_Writer_Sector [t4] w fun t19 w =>
  wExtract P t19 0 w fun t20 w =>
  wExtract P t19 1 w fun t21 w =>
  wStore P T_api_Sector t2 t20 w fun w =>
  wRes P T_api_Sector t2 w fun r2 =>
  k (.tuple #[r2, t21]) w

theorem call_codec_WritePointers (a0 : Value) {w : World} {k : Value → World → Prop} (h : F_codec_WritePointers a0 w k) : wCall P n_codec_WritePointers [a0] w k :=
  call_of_den mixedP Try.func65 (by kernel_rfl) (.s .z (.s .z (.j [] [2, 4] (.s .z (.b (.l [8] [2, 4, 7] .z))) .z))) (by kernel_rfl) (Eq.mp (by kernel_rfl) h)

def F_codec_ReadPointers (a0 : Value) (w : World) (k : Value → World → Prop) : Prop :=
  wBox P T_api_Sector a0 w fun t1 w =>
  wAlloc P T_A32int w fun t2 w =>
  wAlloc P T_A32int w fun t4 w =>
  wLoad P T_api_Sector t1 w fun t8 w =>
  wCall P n_num_Read [t8] w fun t9 w =>
  wJ0 (fun k1 =>
    wL1 (.int .i64 0) w (fun _ v10 w k2 =>
      wBin P .lss T_int v10 (.int .i64 32) w fun t11 w =>
      wIf t11 (
        wCall P n_num_Reader_Num [t9, (.int .i64 4)] w fun t14 w =>
        wBin P .geq T_uint64 t14 (.int .u64 65536) w fun t16 w =>
        wIf t16 (
          wBuild P T_A32int [] w fun t17 w =>
          wStore P T_A32int t2 t17 w fun w =>
          wRes P T_A32int t2 w fun r2 =>
          k (.tuple #[r2, (.int .i64 21)]) w) (
          wConv P T_uint64 T_int t14 w fun t20 w =>
          wIndexA P T_A32int t4 v10 w fun t21 w =>
          wStore P T_int t21 t20 w fun w =>
          wBin P .add T_int v10 (.int .i64 1) w fun t22 w =>
          k2 t22 w)) (
        k1 w))) fun _ w =>
  wLoad P T_A32int t4 w fun t23 w =>
  wStore P T_A32int t2 t23 w fun w =>
  wRes P T_A32int t2 w fun r2 =>
  k (.tuple #[r2, (.int .i64 0)]) w

theorem call_codec_ReadPointers (a0 : Value) {w : World} {k : Value → World → Prop} (h : F_codec_ReadPointers a0 w k) : wCall P n_codec_ReadPointers [a0] w k :=
  call_of_den mixedP Try.func67 (by kernel_rfl) (.s .z (.s .z (.s .z (.j [] [2, 4] (.s .z (.b (.l [10] [2, 4, 5] .z))) .z)))) (by kernel_rfl) (Eq.mp (by kernel_rfl) h)

def F_codec_WriteSlots (a0 : Value) (w : World) (k : Value → World → Prop) : Prop :=
  wAlloc P T_api_Sector w fun t2 w =>
  wCall P n_codec_write_LLcodec_Slot [(.int .u8 4), a0, (.func (.func n_codec_passSlots) #[] #[]), (.func (.func n_codec_maySlots) #[] #[])] w fun t5 w =>
  wExtract P t5 0 w fun t6 w =>
  wExtract P t5 1 w fun t7 w =>
  wStore P T_api_Sector t2 t6 w fun w =>
  wRes P T_api_Sector t2 w fun r2 =>
  k (.tuple #[r2, t7]) w

theorem call_codec_WriteSlots (a0 : Value) {w : World} {k : Value → World → Prop} (h : F_codec_WriteSlots a0 w k) : wCall P n_codec_WriteSlots [a0] w k :=
  call_of_den mixedP Try.func74 (by kernel_rfl) .z (by kernel_rfl) (Eq.mp (by kernel_rfl) h)

def F_codec_ReadSlots (a0 : Value) (w : World) (k : Value → World → Prop) : Prop :=
  wBox P T_api_Sector a0 w fun t1 w =>
  wLoad P T_api_Sector t1 w fun t4 w =>
  wCall P n_codec_read_LLcodec_Slot [(.int .u8 4), t4, (.func (.func n_codec_passSlots) #[] #[]), (.func (.func n_codec_maySlots) #[] #[])] w fun t5 w =>
  wExtract P t5 0 w fun t6 w =>
  wExtract P t5 1 w fun t7 w =>
  k (.tuple #[t6, t7]) w

theorem call_codec_ReadSlots (a0 : Value) {w : World} {k : Value → World → Prop} (h : F_codec_ReadSlots a0 w k) : wCall P n_codec_ReadSlots [a0] w k :=
  call_of_den mixedP Try.func76 (by kernel_rfl) .z (by kernel_rfl) (Eq.mp (by kernel_rfl) h)

def F_codec_WriteRecords (a0 : Value) (w : World) (k : Value → World → Prop) : Prop :=
  wAlloc P T_api_Sector w fun t2 w =>
  wCall P n_codec_write_LLcodec_Record [(.int .u8 7), a0, (.func (.func n_codec_passRecords) #[] #[]), (.func (.func n_codec_mayRecords) #[] #[])] w fun t5 w =>
  wExtract P t5 0 w fun t6 w =>
  wExtract P t5 1 w fun t7 w =>
  wStore P T_api_Sector t2 t6 w fun w =>
  wRes P T_api_Sector t2 w fun r2 =>
  k (.tuple #[r2, t7]) w

theorem call_codec_WriteRecords (a0 : Value) {w : World} {k : Value → World → Prop} (h : F_codec_WriteRecords a0 w k) : wCall P n_codec_WriteRecords [a0] w k :=
  call_of_den mixedP Try.func78 (by kernel_rfl) .z (by kernel_rfl) (Eq.mp (by kernel_rfl) h)

def F_codec_ReadRecords (a0 : Value) (w : World) (k : Value → World → Prop) : Prop :=
  wBox P T_api_Sector a0 w fun t1 w =>
  wLoad P T_api_Sector t1 w fun t4 w =>
  wCall P n_codec_read_LLcodec_Record [(.int .u8 7), t4, (.func (.func n_codec_passRecords) #[] #[]), (.func (.func n_codec_mayRecords) #[] #[])] w fun t5 w =>
  wExtract P t5 0 w fun t6 w =>
  wExtract P t5 1 w fun t7 w =>
  k (.tuple #[t6, t7]) w

theorem call_codec_ReadRecords (a0 : Value) {w : World} {k : Value → World → Prop} (h : F_codec_ReadRecords a0 w k) : wCall P n_codec_ReadRecords [a0] w k :=
  call_of_den mixedP Try.func80 (by kernel_rfl) .z (by kernel_rfl) (Eq.mp (by kernel_rfl) h)

def F_codec_WriteSummary (a0 : Value) (w : World) (k : Value → World → Prop) : Prop :=
  wBox P T_codec_Summary a0 w fun t1 w =>
  wAlloc P T_api_Sector w fun t2 w =>
  wLoad P T_codec_Summary t1 w fun t4 w =>
  wCall P n_codec_write_codec_Summary [(.int .u8 3), t4, (.func (.func n_codec_passSummary) #[] #[]), (.func (.func n_codec_maySummary) #[] #[])] w fun t5 w =>
  wExtract P t5 0 w fun t6 w =>
  wExtract P t5 1 w fun t7 w =>
  wStore P T_api_Sector t2 t6 w fun w =>
  wRes P T_api_Sector t2 w fun r2 =>
  k (.tuple #[r2, t7]) w

theorem call_codec_WriteSummary (a0 : Value) {w : World} {k : Value → World → Prop} (h : F_codec_WriteSummary a0 w k) : wCall P n_codec_WriteSummary [a0] w k :=
  call_of_den mixedP Try.func82 (by kernel_rfl) .z (by kernel_rfl) (Eq.mp (by kernel_rfl) h)

def F_codec_ReadSummary (a0 : Value) (w : World) (k : Value → World → Prop) : Prop :=
  wBox P T_api_Sector a0 w fun t1 w =>
  wAlloc P T_codec_Summary w fun t2 w =>
  wLoad P T_api_Sector t1 w fun t9 w =>
  wCall P n_codec_read_codec_Summary [(.int .u8 3), t9, (.func (.func n_codec_passSummary) #[] #[]), (.func (.func n_codec_maySummary) #[] #[])] w fun t10 w =>
  wExtract P t10 0 w fun t11 w =>
  wExtract P t10 1 w fun t12 w =>
  wAlloc P T_codec_Summary w fun t4 w =>
  wStore P T_codec_Summary t4 t11 w fun w =>
  wLoad P T_codec_Summary t4 w fun t14 w =>
  wCall P n_codec_WriteSummary [t14] w fun t15 w =>
  wExtract P t15 0 w fun t16 w =>
  wExtract P t15 1 w fun t17 w =>
  wAlloc P T_api_Sector w fun t6 w =>
  wStore P T_api_Sector t6 t16 w fun w =>
  wBin P .neq T_api_Errno t12 (.int .i64 0) w fun t19 w =>
  wGrp t19 false (fun k22 =>
    wBin P .neq T_api_Errno t17 (.int .i64 0) w fun t22 w =>
    k22 t22 w) w fun _ t22 w =>
  wPick t19 (.bool true) t22 w fun t23 w =>
  wGrp t23 false (fun k27 =>
    wLoad P T_api_Sector t6 w fun t25 w =>
    wLoad P T_api_Sector t1 w fun t26 w =>
    wBin P .neq T_api_Sector t25 t26 w fun t27 w =>
    k27 t27 w) w fun _ t27 w =>
  wPick t23 (.bool true) t27 w fun t28 w =>
  wIf t28 (
    wBuild P T_codec_Summary [] w fun t29 w =>
    wStore P T_codec_Summary t2 t29 w fun w =>
    wRes P T_codec_Summary t2 w fun r2 =>
    k (.tuple #[r2, (.int .i64 21)]) w) (
    wLoad P T_codec_Summary t4 w fun t30 w =>
    wStore P T_codec_Summary t2 t30 w fun w =>
    wRes P T_codec_Summary t2 w fun r2 =>
    k (.tuple #[r2, (.int .i64 0)]) w)

theorem call_codec_ReadSummary (a0 : Value) {w : World} {k : Value → World → Prop} (h : F_codec_ReadSummary a0 w k) : wCall P n_codec_ReadSummary [a0] w k :=
  call_of_den mixedP Try.func85 (by kernel_rfl) (.s .z (.s .z (.s (.s .z (.s (.r (.ops [0, 1, 2] (.grp 2 false 22 [21] (.ops [3, 4] .nil) (.ops [5, 6] (.grp 6 false 27 [25, 26] (.ops [7, 8, 9] .nil) (.ops [10] .nil)))))) .z)) .z))) (by kernel_rfl) (Eq.mp (by kernel_rfl) h)

def F_codec_write_LLcodec_Use (a0 a1 a2 a3 : Value) (w : World) (k : Value → World → Prop) : Prop :=
  wBox P T_Lcodec_Use a1 w fun t5 w =>
  wAlloc P T_api_Sector w fun t8 w =>
  wBuild P T_codec_writer [] w fun t11 w =>
  wBox P T_codec_writer t11 w fun t12 w =>
  wLoad P T_Lcodec_Use t5 w fun t14 w =>
  wCallV P a3 [t14] w fun t15 w =>
  wUn P .not t15 w fun t16 w =>
  wIf t16 (
    wBuild P T_api_Sector [] w fun t17 w =>
    wStore P T_api_Sector t8 t17 w fun w =>
    wRes P T_api_Sector t8 w fun r8 =>
    k (.tuple #[r8, (.int .i64 1)]) w) (
    wIface P T_pcodec_writer t12 w fun t20 w =>
    wCallV P a2 [t20, t5] w fun _ w =>
    wNil P t12 w fun t23 w =>
    wFieldA P T_codec_writer t23 1 w fun t24 w =>
    wLoad P T_bool t24 w fun t25 w =>
    wIf t25 (
      wBuild P T_api_Sector [] w fun t26 w =>
      wStore P T_api_Sector t8 t26 w fun w =>
      wRes P T_api_Sector t8 w fun r8 =>
      k (.tuple #[r8, (.int .i64 1)]) w) (
      wNil P t12 w fun t29 w =>
      wFieldA P T_codec_writer t29 0 w fun t30 w =>
      wLoad P T_Luint8 t30 w fun t31 w =>
      wCall P n_seal_Make [a0, t31] w fun t32 w =>
      wExtract P t32 0 w fun t33 w =>
      wExtract P t32 1 w fun t34 w =>
      wStore P T_api_Sector t8 t33 w fun w =>
      wRes P T_api_Sector t8 w fun r8 =>
      k (.tuple #[r8, t34]) w))

theorem call_codec_write_LLcodec_Use (a0 a1 a2 a3 : Value) {w : World} {k : Value → World → Prop} (h : F_codec_write_LLcodec_Use a0 a1 a2 a3 w k) : wCall P n_codec_write_LLcodec_Use [a0, a1, a2, a3] w k :=
  call_of_den mixedP Try.func151 (by kernel_rfl) .z (by kernel_rfl) (Eq.mp (by kernel_rfl) h)

def F_codec_passUses (a0 a1 : Value) (w : World) (k : Value → World → Prop) : Prop :=
  wCall P n_codec_list_codec_Use [a0, a1, (.func (.func n_codec_passUse) #[] #[])] w fun _ w =>
  k (.tuple #[]) w

theorem call_codec_passUses (a0 a1 : Value) {w : World} {k : Value → World → Prop} (h : F_codec_passUses a0 a1 w k) : wCall P n_codec_passUses [a0, a1] w k :=
  call_of_den mixedP Try.func152 (by kernel_rfl) .z (by kernel_rfl) (Eq.mp (by kernel_rfl) h)

def F_codec_mayUses (a0 : Value) (w : World) (k : Value → World → Prop) : Prop :=
  wCall P n_codec_each_codec_Use [(.int .i64 15), (.func (.func n_codec_mayUses_c1) #[] #[])] w fun t3 w =>
  wCallV P t3 [a0] w fun t5 w =>
  k t5 w

theorem call_codec_mayUses (a0 : Value) {w : World} {k : Value → World → Prop} (h : F_codec_mayUses a0 w k) : wCall P n_codec_mayUses [a0] w k :=
  call_of_den mixedP Try.func153 (by kernel_rfl) .z (by kernel_rfl) (Eq.mp (by kernel_rfl) h)

def F_codec_read_LLcodec_Use (a0 a1 a2 a3 : Value) (w : World) (k : Value → World → Prop) : Prop :=
  wBox P T_api_Sector a1 w fun t5 w =>
  wAlloc P T_Lcodec_Use w fun t10 w =>
  wLoad P T_api_Sector t5 w fun t17 w =>
  wCall P n_seal_Open [t17] w fun t18 w =>
  wExtract P t18 0 w fun t19 w =>
  wExtract P t18 1 w fun t20 w =>
  wExtract P t18 2 w fun t21 w =>
  wBin P .neq T_api_Errno t21 (.int .i64 0) w fun t23 w =>
  wGrp t23 false (fun k27 =>
    wBin P .neq T_uint8 t19 a0 w fun t27 w =>
    k27 t27 w) w fun _ t27 w =>
  wPick t23 (.bool true) t27 w fun t28 w =>
  wIf t28 (
    k (.tuple #[(.slice none 0 0), (.int .i64 21)]) w) (
    wBuild P T_codec_reader [(0, t20)] w fun t31 w =>
    wBox P T_codec_reader t31 w fun t32 w =>
    wIface P T_pcodec_reader t32 w fun t35 w =>
    wCallV P a2 [t35, t10] w fun _ w =>
    wNil P t32 w fun t38 w =>
    wFieldA P T_codec_reader t38 2 w fun t39 w =>
    wLoad P T_bool t39 w fun t40 w =>
    wGrp t40 false (fun k48 =>
      wNil P t32 w fun t43 w =>
      wFieldA P T_codec_reader t43 1 w fun t44 w =>
      wLoad P T_int t44 w fun t45 w =>
      wLen P .len #[T_Luint8] [t20] w fun t47 w =>
      wBin P .neq T_int t45 t47 w fun t48 w =>
      k48 t48 w) w fun _ t48 w =>
    wPick t40 (.bool true) t48 w fun t49 w =>
    wGrp t49 false (fun k54 =>
      wLoad P T_Lcodec_Use t10 w fun t52 w =>
      wCallV P a3 [t52] w fun t53 w =>
      wUn P .not t53 w fun t54 w =>
      k54 t54 w) w fun _ t54 w =>
    wPick t49 (.bool true) t54 w fun t55 w =>
    wIf t55 (
      k (.tuple #[(.slice none 0 0), (.int .i64 21)]) w) (
      wLoad P T_Lcodec_Use t10 w fun t57 w =>
      k (.tuple #[t57, (.int .i64 0)]) w))

theorem call_codec_read_LLcodec_Use (a0 a1 a2 a3 : Value) {w : World} {k : Value → World → Prop} (h : F_codec_read_LLcodec_Use a0 a1 a2 a3 w k) : wCall P n_codec_read_LLcodec_Use [a0, a1, a2, a3] w k :=
  call_of_den mixedP Try.func155 (by kernel_rfl) (.s .z (.s .z (.s .z (.s (.s (.r (.ops [0, 1, 2] (.grp 2 false 27 [25, 26] (.ops [3, 4, 5] .nil) (.ops [6] .nil)))) .z) (.s .z (.s (.s .z (.s (.r (.ops [0, 1, 2, 3, 4] (.grp 4 false 48 [42, 43, 44, 45, 46, 47] (.ops [5, 6, 7, 8, 9, 10, 11] .nil) (.ops [12, 13] (.grp 13 false 54 [51, 52, 53] (.ops [14, 15, 16, 17] .nil) (.ops [18] .nil)))))) .z)) .z)))))) (by kernel_rfl) (Eq.mp (by kernel_rfl) h)

def F_codec_write_codec_Inode (a0 a1 a2 a3 : Value) (w : World) (k : Value → World → Prop) : Prop :=
  wBox P T_codec_Inode a1 w fun t5 w =>
  wAlloc P T_api_Sector w fun t8 w =>
  wBuild P T_codec_writer [] w fun t11 w =>
  wBox P T_codec_writer t11 w fun t12 w =>
  wLoad P T_codec_Inode t5 w fun t14 w =>
  wCallV P a3 [t14] w fun t15 w =>
  wUn P .not t15 w fun t16 w =>
  wIf t16 (
    wBuild P T_api_Sector [] w fun t17 w =>
    wStore P T_api_Sector t8 t17 w fun w =>
    wRes P T_api_Sector t8 w fun r8 =>
    k (.tuple #[r8, (.int .i64 1)]) w) (
    wIface P T_pcodec_writer t12 w fun t20 w =>
    wCallV P a2 [t20, t5] w fun _ w =>
    wNil P t12 w fun t23 w =>
    wFieldA P T_codec_writer t23 1 w fun t24 w =>
    wLoad P T_bool t24 w fun t25 w =>
    wIf t25 (
      wBuild P T_api_Sector [] w fun t26 w =>
      wStore P T_api_Sector t8 t26 w fun w =>
      wRes P T_api_Sector t8 w fun r8 =>
      k (.tuple #[r8, (.int .i64 1)]) w) (
      wNil P t12 w fun t29 w =>
      wFieldA P T_codec_writer t29 0 w fun t30 w =>
      wLoad P T_Luint8 t30 w fun t31 w =>
      wCall P n_seal_Make [a0, t31] w fun t32 w =>
      wExtract P t32 0 w fun t33 w =>
      wExtract P t32 1 w fun t34 w =>
      wStore P T_api_Sector t8 t33 w fun w =>
      wRes P T_api_Sector t8 w fun r8 =>
      k (.tuple #[r8, t34]) w))

theorem call_codec_write_codec_Inode (a0 a1 a2 a3 : Value) {w : World} {k : Value → World → Prop} (h : F_codec_write_codec_Inode a0 a1 a2 a3 w k) : wCall P n_codec_write_codec_Inode [a0, a1, a2, a3] w k :=
  call_of_den mixedP Try.func162 (by kernel_rfl) .z (by kernel_rfl) (Eq.mp (by kernel_rfl) h)

def F_codec_passInode (a0 a1 : Value) (w : World) (k : Value → World → Prop) : Prop :=
  wDraw w fun w =>
  wNil P a1 w fun t7 w =>
  wFieldA P T_codec_Inode t7 0 w fun t8 w =>
  wFunc P (.method "drumlin/codec.word") [a0] [] w fun t9 w =>
  wNil P t9 w fun _ w =>
  wInvoke P a0 "drumlin/codec.word" [(.int .i64 2), t8] w fun _ w =>
  wDraw w fun w =>
  wNil P a1 w fun t15 w =>
  wFieldA P T_codec_Inode t15 1 w fun t16 w =>
  wFunc P (.method "drumlin/codec.word") [a0] [] w fun t17 w =>
  wNil P t17 w fun _ w =>
  wInvoke P a0 "drumlin/codec.word" [(.int .i64 4), t16] w fun _ w =>
  wDraw w fun w =>
  wNil P a1 w fun t23 w =>
  wFieldA P T_codec_Inode t23 2 w fun t24 w =>
  wFunc P (.method "drumlin/codec.int") [a0] [] w fun t25 w =>
  wNil P t25 w fun _ w =>
  wInvoke P a0 "drumlin/codec.int" [(.int .i64 1), t24] w fun _ w =>
  wDraw w fun w =>
  wNil P a1 w fun t31 w =>
  wFieldA P T_codec_Inode t31 3 w fun t32 w =>
  wFunc P (.method "drumlin/codec.int") [a0] [] w fun t33 w =>
  wNil P t33 w fun _ w =>
  wInvoke P a0 "drumlin/codec.int" [(.int .i64 4), t32] w fun _ w =>
  wDraw w fun w =>
  wNil P a1 w fun t39 w =>
  wFieldA P T_codec_Inode t39 4 w fun t40 w =>
  wFunc P (.method "drumlin/codec.word") [a0] [] w fun t41 w =>
  wNil P t41 w fun _ w =>
  wInvoke P a0 "drumlin/codec.word" [(.int .i64 4), t40] w fun _ w =>
  wJ0 (fun k1 =>
    wL1 (.int .i64 0) w (fun _ v45 w k2 =>
      wBin P .lss T_int v45 (.int .i64 8) w fun t46 w =>
      wIf t46 (
        wDraw w fun w =>
        wNil P a1 w fun t51 w =>
        wFieldA P T_codec_Inode t51 5 w fun t52 w =>
        wIndexA P T_A8int t52 v45 w fun t53 w =>
        wFunc P (.method "drumlin/codec.int") [a0] [] w fun t54 w =>
        wNil P t54 w fun _ w =>
        wInvoke P a0 "drumlin/codec.int" [(.int .i64 4), t53] w fun _ w =>
        wBin P .add T_int v45 (.int .i64 1) w fun t58 w =>
        k2 t58 w) (
        k1 w))) fun _ w =>
  wDraw w fun w =>
  wNil P a1 w fun t61 w =>
  wFieldA P T_codec_Inode t61 6 w fun t62 w =>
  wFunc P (.method "drumlin/codec.int") [a0] [] w fun t63 w =>
  wNil P t63 w fun _ w =>
  wInvoke P a0 "drumlin/codec.int" [(.int .i64 4), t62] w fun _ w =>
  wDraw w fun w =>
  wNil P a1 w fun t69 w =>
  wFieldA P T_codec_Inode t69 7 w fun t70 w =>
  wFunc P (.method "drumlin/codec.int") [a0] [] w fun t71 w =>
  wNil P t71 w fun _ w =>
  wInvoke P a0 "drumlin/codec.int" [(.int .i64 4), t70] w fun _ w =>
  k (.tuple #[]) w

theorem call_codec_passInode (a0 a1 : Value) {w : World} {k : Value → World → Prop} (h : F_codec_passInode a0 a1 w k) : wCall P n_codec_passInode [a0, a1] w k :=
  call_of_den mixedP Try.func163 (by kernel_rfl) (.s (.r (.ops [0, 1, 2, 3] (.eff 4 [] (.ops [5, 6] (.eff 7 [] .nil))))) (.s (.r (.ops [0, 1, 2, 3] (.eff 4 [] (.ops [5, 6] (.eff 7 [] .nil))))) (.s (.r (.ops [0, 1, 2, 3] (.eff 4 [] (.ops [5, 6] (.eff 7 [] .nil))))) (.s (.r (.ops [0, 1, 2, 3] (.eff 4 [] (.ops [5, 6] (.eff 7 [] .nil))))) (.s (.r (.ops [0, 1, 2, 3] (.eff 4 [] (.ops [5, 6] (.eff 7 [] .nil))))) (.j [] [0, 1] (.s .z (.b (.l [45] [0, 1] (.s .z (.s .z (.s (.b (.s .z (.r (.ops [0, 1, 2, 3, 4, 5] (.eff 6 [] (.ops [7, 8] (.eff 9 [] .nil))))))) .z)))))) (.s (.r (.ops [0, 1, 2, 3] (.eff 4 [] (.ops [5, 6] (.eff 7 [] .nil))))) (.r (.ops [0, 1, 2, 3] (.eff 4 [] (.ops [5, 6] (.eff 7 [] .nil)))))))))))) (by kernel_rfl) (Eq.mp (by kernel_rfl) h)

def F_codec_mayInode (a0 : Value) (w : World) (k : Value → World → Prop) : Prop :=
  wBox P T_codec_Inode a0 w fun t1 w =>
  wFieldA P T_codec_Inode t1 2 w fun t3 w =>
  wLoad P T_int t3 w fun t4 w =>
  wCall P n_codec_among [t4, (.int .i64 1), (.int .i64 2)] w fun t5 w =>
  k t5 w

theorem call_codec_mayInode (a0 : Value) {w : World} {k : Value → World → Prop} (h : F_codec_mayInode a0 w k) : wCall P n_codec_mayInode [a0] w k :=
  call_of_den mixedP Try.func164 (by kernel_rfl) .z (by kernel_rfl) (Eq.mp (by kernel_rfl) h)

def F_codec_read_codec_Inode (a0 a1 a2 a3 : Value) (w : World) (k : Value → World → Prop) : Prop :=
  wBox P T_api_Sector a1 w fun t5 w =>
  wAlloc P T_codec_Inode w fun t8 w =>
  wAlloc P T_codec_Inode w fun t10 w =>
  wAlloc P T_codec_Inode w fun t11 w =>
  wLoad P T_api_Sector t5 w fun t17 w =>
  wCall P n_seal_Open [t17] w fun t18 w =>
  wExtract P t18 0 w fun t19 w =>
  wExtract P t18 1 w fun t20 w =>
  wExtract P t18 2 w fun t21 w =>
  wBin P .neq T_api_Errno t21 (.int .i64 0) w fun t23 w =>
  wGrp t23 false (fun k27 =>
    wBin P .neq T_uint8 t19 a0 w fun t27 w =>
    k27 t27 w) w fun _ t27 w =>
  wPick t23 (.bool true) t27 w fun t28 w =>
  wIf t28 (
    wLoad P T_codec_Inode t11 w fun t29 w =>
    wStore P T_codec_Inode t8 t29 w fun w =>
    wRes P T_codec_Inode t8 w fun r8 =>
    k (.tuple #[r8, (.int .i64 21)]) w) (
    wBuild P T_codec_reader [(0, t20)] w fun t31 w =>
    wBox P T_codec_reader t31 w fun t32 w =>
    wIface P T_pcodec_reader t32 w fun t35 w =>
    wCallV P a2 [t35, t10] w fun _ w =>
    wNil P t32 w fun t38 w =>
    wFieldA P T_codec_reader t38 2 w fun t39 w =>
    wLoad P T_bool t39 w fun t40 w =>
    wGrp t40 false (fun k48 =>
      wNil P t32 w fun t43 w =>
      wFieldA P T_codec_reader t43 1 w fun t44 w =>
      wLoad P T_int t44 w fun t45 w =>
      wLen P .len #[T_Luint8] [t20] w fun t47 w =>
      wBin P .neq T_int t45 t47 w fun t48 w =>
      k48 t48 w) w fun _ t48 w =>
    wPick t40 (.bool true) t48 w fun t49 w =>
    wGrp t49 false (fun k54 =>
      wLoad P T_codec_Inode t10 w fun t52 w =>
      wCallV P a3 [t52] w fun t53 w =>
      wUn P .not t53 w fun t54 w =>
      k54 t54 w) w fun _ t54 w =>
    wPick t49 (.bool true) t54 w fun t55 w =>
    wIf t55 (
      wLoad P T_codec_Inode t11 w fun t56 w =>
      wStore P T_codec_Inode t8 t56 w fun w =>
      wRes P T_codec_Inode t8 w fun r8 =>
      k (.tuple #[r8, (.int .i64 21)]) w) (
      wLoad P T_codec_Inode t10 w fun t57 w =>
      wStore P T_codec_Inode t8 t57 w fun w =>
      wRes P T_codec_Inode t8 w fun r8 =>
      k (.tuple #[r8, (.int .i64 0)]) w))

theorem call_codec_read_codec_Inode (a0 a1 a2 a3 : Value) {w : World} {k : Value → World → Prop} (h : F_codec_read_codec_Inode a0 a1 a2 a3 w k) : wCall P n_codec_read_codec_Inode [a0, a1, a2, a3] w k :=
  call_of_den mixedP Try.func167 (by kernel_rfl) (.s .z (.s .z (.s .z (.s (.s (.r (.ops [0, 1, 2] (.grp 2 false 27 [25, 26] (.ops [3, 4, 5] .nil) (.ops [6] .nil)))) .z) (.s .z (.s (.s .z (.s (.r (.ops [0, 1, 2, 3, 4] (.grp 4 false 48 [42, 43, 44, 45, 46, 47] (.ops [5, 6, 7, 8, 9, 10, 11] .nil) (.ops [12, 13] (.grp 13 false 54 [51, 52, 53] (.ops [14, 15, 16, 17] .nil) (.ops [18] .nil)))))) .z)) .z)))))) (by kernel_rfl) (Eq.mp (by kernel_rfl) h)

def F_codec_write_codec_Header (a0 a1 a2 a3 : Value) (w : World) (k : Value → World → Prop) : Prop :=
  wBox P T_codec_Header a1 w fun t5 w =>
  wAlloc P T_api_Sector w fun t8 w =>
  wBuild P T_codec_writer [] w fun t11 w =>
  wBox P T_codec_writer t11 w fun t12 w =>
  wLoad P T_codec_Header t5 w fun t14 w =>
  wCallV P a3 [t14] w fun t15 w =>
  wUn P .not t15 w fun t16 w =>
  wIf t16 (
    wBuild P T_api_Sector [] w fun t17 w =>
    wStore P T_api_Sector t8 t17 w fun w =>
    wRes P T_api_Sector t8 w fun r8 =>
    k (.tuple #[r8, (.int .i64 1)]) w) (
    wIface P T_pcodec_writer t12 w fun t20 w =>
    wCallV P a2 [t20, t5] w fun _ w =>
    wNil P t12 w fun t23 w =>
    wFieldA P T_codec_writer t23 1 w fun t24 w =>
    wLoad P T_bool t24 w fun t25 w =>
    wIf t25 (
      wBuild P T_api_Sector [] w fun t26 w =>
      wStore P T_api_Sector t8 t26 w fun w =>
      wRes P T_api_Sector t8 w fun r8 =>
      k (.tuple #[r8, (.int .i64 1)]) w) (
      wNil P t12 w fun t29 w =>
      wFieldA P T_codec_writer t29 0 w fun t30 w =>
      wLoad P T_Luint8 t30 w fun t31 w =>
      wCall P n_seal_Make [a0, t31] w fun t32 w =>
      wExtract P t32 0 w fun t33 w =>
      wExtract P t32 1 w fun t34 w =>
      wStore P T_api_Sector t8 t33 w fun w =>
      wRes P T_api_Sector t8 w fun r8 =>
      k (.tuple #[r8, t34]) w))

theorem call_codec_write_codec_Header (a0 a1 a2 a3 : Value) {w : World} {k : Value → World → Prop} (h : F_codec_write_codec_Header a0 a1 a2 a3 w k) : wCall P n_codec_write_codec_Header [a0, a1, a2, a3] w k :=
  call_of_den mixedP Try.func170 (by kernel_rfl) .z (by kernel_rfl) (Eq.mp (by kernel_rfl) h)

def F_codec_passHeader (a0 a1 : Value) (w : World) (k : Value → World → Prop) : Prop :=
  wDraw w fun w =>
  wNil P a1 w fun t6 w =>
  wFieldA P T_codec_Header t6 0 w fun t7 w =>
  wFunc P (.method "drumlin/codec.wide") [a0] [] w fun t8 w =>
  wNil P t8 w fun _ w =>
  wInvoke P a0 "drumlin/codec.wide" [(.int .i64 8), t7] w fun _ w =>
  wDraw w fun w =>
  wNil P a1 w fun t14 w =>
  wFieldA P T_codec_Header t14 1 w fun t15 w =>
  wFunc P (.method "drumlin/codec.wide") [a0] [] w fun t16 w =>
  wNil P t16 w fun _ w =>
  wInvoke P a0 "drumlin/codec.wide" [(.int .i64 8), t15] w fun _ w =>
  wDraw w fun w =>
  wNil P a1 w fun t22 w =>
  wFieldA P T_codec_Header t22 2 w fun t23 w =>
  wFunc P (.method "drumlin/codec.int") [a0] [] w fun t24 w =>
  wNil P t24 w fun _ w =>
  wInvoke P a0 "drumlin/codec.int" [(.int .i64 2), t23] w fun _ w =>
  wDraw w fun w =>
  wNil P a1 w fun t30 w =>
  wFieldA P T_codec_Header t30 3 w fun t31 w =>
  wFunc P (.method "drumlin/codec.int") [a0] [] w fun t32 w =>
  wNil P t32 w fun _ w =>
  wInvoke P a0 "drumlin/codec.int" [(.int .i64 2), t31] w fun _ w =>
  wDraw w fun w =>
  wNil P a1 w fun t38 w =>
  wFieldA P T_codec_Header t38 4 w fun t39 w =>
  wFunc P (.method "drumlin/codec.int") [a0] [] w fun t40 w =>
  wNil P t40 w fun _ w =>
  wInvoke P a0 "drumlin/codec.int" [(.int .i64 2), t39] w fun _ w =>
  wDraw w fun w =>
  wNil P a1 w fun t46 w =>
  wFieldA P T_codec_Header t46 5 w fun t47 w =>
  wFunc P (.method "drumlin/codec.word") [a0] [] w fun t48 w =>
  wNil P t48 w fun _ w =>
  wInvoke P a0 "drumlin/codec.word" [(.int .i64 4), t47] w fun _ w =>
  k (.tuple #[]) w

theorem call_codec_passHeader (a0 a1 : Value) {w : World} {k : Value → World → Prop} (h : F_codec_passHeader a0 a1 w k) : wCall P n_codec_passHeader [a0, a1] w k :=
  call_of_den mixedP Try.func171 (by kernel_rfl) (.s (.r (.ops [0, 1, 2, 3] (.eff 4 [] (.ops [5, 6] (.eff 7 [] .nil))))) (.s (.r (.ops [0, 1, 2, 3] (.eff 4 [] (.ops [5, 6] (.eff 7 [] .nil))))) (.s (.r (.ops [0, 1, 2, 3] (.eff 4 [] (.ops [5, 6] (.eff 7 [] .nil))))) (.s (.r (.ops [0, 1, 2, 3] (.eff 4 [] (.ops [5, 6] (.eff 7 [] .nil))))) (.s (.r (.ops [0, 1, 2, 3] (.eff 4 [] (.ops [5, 6] (.eff 7 [] .nil))))) (.r (.ops [0, 1, 2, 3] (.eff 4 [] (.ops [5, 6] (.eff 7 [] .nil)))))))))) (by kernel_rfl) (Eq.mp (by kernel_rfl) h)

def F_codec_mayHeader (a0 : Value) (w : World) (k : Value → World → Prop) : Prop :=
  wBox P T_codec_Header a0 w fun _ w =>
  k (.bool true) w

theorem call_codec_mayHeader (a0 : Value) {w : World} {k : Value → World → Prop} (h : F_codec_mayHeader a0 w k) : wCall P n_codec_mayHeader [a0] w k :=
  call_of_den mixedP Try.func172 (by kernel_rfl) .z (by kernel_rfl) (Eq.mp (by kernel_rfl) h)

def F_codec_read_codec_Header (a0 a1 a2 a3 : Value) (w : World) (k : Value → World → Prop) : Prop :=
  wBox P T_api_Sector a1 w fun t5 w =>
  wAlloc P T_codec_Header w fun t8 w =>
  wAlloc P T_codec_Header w fun t10 w =>
  wAlloc P T_codec_Header w fun t11 w =>
  wLoad P T_api_Sector t5 w fun t17 w =>
  wCall P n_seal_Open [t17] w fun t18 w =>
  wExtract P t18 0 w fun t19 w =>
  wExtract P t18 1 w fun t20 w =>
  wExtract P t18 2 w fun t21 w =>
  wBin P .neq T_api_Errno t21 (.int .i64 0) w fun t23 w =>
  wGrp t23 false (fun k27 =>
    wBin P .neq T_uint8 t19 a0 w fun t27 w =>
    k27 t27 w) w fun _ t27 w =>
  wPick t23 (.bool true) t27 w fun t28 w =>
  wIf t28 (
    wLoad P T_codec_Header t11 w fun t29 w =>
    wStore P T_codec_Header t8 t29 w fun w =>
    wRes P T_codec_Header t8 w fun r8 =>
    k (.tuple #[r8, (.int .i64 21)]) w) (
    wBuild P T_codec_reader [(0, t20)] w fun t31 w =>
    wBox P T_codec_reader t31 w fun t32 w =>
    wIface P T_pcodec_reader t32 w fun t35 w =>
    wCallV P a2 [t35, t10] w fun _ w =>
    wNil P t32 w fun t38 w =>
    wFieldA P T_codec_reader t38 2 w fun t39 w =>
    wLoad P T_bool t39 w fun t40 w =>
    wGrp t40 false (fun k48 =>
      wNil P t32 w fun t43 w =>
      wFieldA P T_codec_reader t43 1 w fun t44 w =>
      wLoad P T_int t44 w fun t45 w =>
      wLen P .len #[T_Luint8] [t20] w fun t47 w =>
      wBin P .neq T_int t45 t47 w fun t48 w =>
      k48 t48 w) w fun _ t48 w =>
    wPick t40 (.bool true) t48 w fun t49 w =>
    wGrp t49 false (fun k54 =>
      wLoad P T_codec_Header t10 w fun t52 w =>
      wCallV P a3 [t52] w fun t53 w =>
      wUn P .not t53 w fun t54 w =>
      k54 t54 w) w fun _ t54 w =>
    wPick t49 (.bool true) t54 w fun t55 w =>
    wIf t55 (
      wLoad P T_codec_Header t11 w fun t56 w =>
      wStore P T_codec_Header t8 t56 w fun w =>
      wRes P T_codec_Header t8 w fun r8 =>
      k (.tuple #[r8, (.int .i64 21)]) w) (
      wLoad P T_codec_Header t10 w fun t57 w =>
      wStore P T_codec_Header t8 t57 w fun w =>
      wRes P T_codec_Header t8 w fun r8 =>
      k (.tuple #[r8, (.int .i64 0)]) w))

theorem call_codec_read_codec_Header (a0 a1 a2 a3 : Value) {w : World} {k : Value → World → Prop} (h : F_codec_read_codec_Header a0 a1 a2 a3 w k) : wCall P n_codec_read_codec_Header [a0, a1, a2, a3] w k :=
  call_of_den mixedP Try.func175 (by kernel_rfl) (.s .z (.s .z (.s .z (.s (.s (.r (.ops [0, 1, 2] (.grp 2 false 27 [25, 26] (.ops [3, 4, 5] .nil) (.ops [6] .nil)))) .z) (.s .z (.s (.s .z (.s (.r (.ops [0, 1, 2, 3, 4] (.grp 4 false 48 [42, 43, 44, 45, 46, 47] (.ops [5, 6, 7, 8, 9, 10, 11] .nil) (.ops [12, 13] (.grp 13 false 54 [51, 52, 53] (.ops [14, 15, 16, 17] .nil) (.ops [18] .nil)))))) .z)) .z)))))) (by kernel_rfl) (Eq.mp (by kernel_rfl) h)

def F_codec_among (a0 a1 a2 : Value) (w : World) (k : Value → World → Prop) : Prop :=
  wBin P .geq T_int a0 a1 w fun t9 w =>
  wGrp t9 true (fun k13 =>
    wBin P .leq T_int a0 a2 w fun t13 w =>
    k13 t13 w) w fun _ t13 w =>
  wPick t9 t13 (.bool false) w fun t14 w =>
  k t14 w

theorem call_codec_among (a0 a1 a2 : Value) {w : World} {k : Value → World → Prop} (h : F_codec_among a0 a1 a2 w k) : wCall P n_codec_among [a0, a1, a2] w k :=
  call_of_den mixedP Try.func178 (by kernel_rfl) (.s .z (.s (.r (.ops [0, 1, 2, 3] (.grp 3 true 13 [11, 12] (.ops [4, 5, 6] .nil) (.ops [7, 8] .nil)))) .z)) (by kernel_rfl) (Eq.mp (by kernel_rfl) h)

def F_codec_write_LLcodec_Slot (a0 a1 a2 a3 : Value) (w : World) (k : Value → World → Prop) : Prop :=
  wBox P T_Lcodec_Slot a1 w fun t5 w =>
  wAlloc P T_api_Sector w fun t8 w =>
  wBuild P T_codec_writer [] w fun t11 w =>
  wBox P T_codec_writer t11 w fun t12 w =>
  wLoad P T_Lcodec_Slot t5 w fun t14 w =>
  wCallV P a3 [t14] w fun t15 w =>
  wUn P .not t15 w fun t16 w =>
  wIf t16 (
    wBuild P T_api_Sector [] w fun t17 w =>
    wStore P T_api_Sector t8 t17 w fun w =>
    wRes P T_api_Sector t8 w fun r8 =>
    k (.tuple #[r8, (.int .i64 1)]) w) (
    wIface P T_pcodec_writer t12 w fun t20 w =>
    wCallV P a2 [t20, t5] w fun _ w =>
    wNil P t12 w fun t23 w =>
    wFieldA P T_codec_writer t23 1 w fun t24 w =>
    wLoad P T_bool t24 w fun t25 w =>
    wIf t25 (
      wBuild P T_api_Sector [] w fun t26 w =>
      wStore P T_api_Sector t8 t26 w fun w =>
      wRes P T_api_Sector t8 w fun r8 =>
      k (.tuple #[r8, (.int .i64 1)]) w) (
      wNil P t12 w fun t29 w =>
      wFieldA P T_codec_writer t29 0 w fun t30 w =>
      wLoad P T_Luint8 t30 w fun t31 w =>
      wCall P n_seal_Make [a0, t31] w fun t32 w =>
      wExtract P t32 0 w fun t33 w =>
      wExtract P t32 1 w fun t34 w =>
      wStore P T_api_Sector t8 t33 w fun w =>
      wRes P T_api_Sector t8 w fun r8 =>
      k (.tuple #[r8, t34]) w))

theorem call_codec_write_LLcodec_Slot (a0 a1 a2 a3 : Value) {w : World} {k : Value → World → Prop} (h : F_codec_write_LLcodec_Slot a0 a1 a2 a3 w k) : wCall P n_codec_write_LLcodec_Slot [a0, a1, a2, a3] w k :=
  call_of_den mixedP Try.func183 (by kernel_rfl) .z (by kernel_rfl) (Eq.mp (by kernel_rfl) h)

def F_codec_passSlots (a0 a1 : Value) (w : World) (k : Value → World → Prop) : Prop :=
  wCall P n_codec_list_codec_Slot [a0, a1, (.func (.func n_codec_passSlot) #[] #[])] w fun _ w =>
  k (.tuple #[]) w

theorem call_codec_passSlots (a0 a1 : Value) {w : World} {k : Value → World → Prop} (h : F_codec_passSlots a0 a1 w k) : wCall P n_codec_passSlots [a0, a1] w k :=
  call_of_den mixedP Try.func184 (by kernel_rfl) .z (by kernel_rfl) (Eq.mp (by kernel_rfl) h)

def F_codec_maySlots (a0 : Value) (w : World) (k : Value → World → Prop) : Prop :=
  wCall P n_codec_each_codec_Slot [(.int .i64 10), (.func (.func n_codec_maySlots_c1) #[] #[])] w fun t3 w =>
  wCallV P t3 [a0] w fun t5 w =>
  k t5 w

theorem call_codec_maySlots (a0 : Value) {w : World} {k : Value → World → Prop} (h : F_codec_maySlots a0 w k) : wCall P n_codec_maySlots [a0] w k :=
  call_of_den mixedP Try.func185 (by kernel_rfl) .z (by kernel_rfl) (Eq.mp (by kernel_rfl) h)

def F_codec_read_LLcodec_Slot (a0 a1 a2 a3 : Value) (w : World) (k : Value → World → Prop) : Prop :=
  wBox P T_api_Sector a1 w fun t5 w =>
  wAlloc P T_Lcodec_Slot w fun t10 w =>
  wLoad P T_api_Sector t5 w fun t17 w =>
  wCall P n_seal_Open [t17] w fun t18 w =>
  wExtract P t18 0 w fun t19 w =>
  wExtract P t18 1 w fun t20 w =>
  wExtract P t18 2 w fun t21 w =>
  wBin P .neq T_api_Errno t21 (.int .i64 0) w fun t23 w =>
  wGrp t23 false (fun k27 =>
    wBin P .neq T_uint8 t19 a0 w fun t27 w =>
    k27 t27 w) w fun _ t27 w =>
  wPick t23 (.bool true) t27 w fun t28 w =>
  wIf t28 (
    k (.tuple #[(.slice none 0 0), (.int .i64 21)]) w) (
    wBuild P T_codec_reader [(0, t20)] w fun t31 w =>
    wBox P T_codec_reader t31 w fun t32 w =>
    wIface P T_pcodec_reader t32 w fun t35 w =>
    wCallV P a2 [t35, t10] w fun _ w =>
    wNil P t32 w fun t38 w =>
    wFieldA P T_codec_reader t38 2 w fun t39 w =>
    wLoad P T_bool t39 w fun t40 w =>
    wGrp t40 false (fun k48 =>
      wNil P t32 w fun t43 w =>
      wFieldA P T_codec_reader t43 1 w fun t44 w =>
      wLoad P T_int t44 w fun t45 w =>
      wLen P .len #[T_Luint8] [t20] w fun t47 w =>
      wBin P .neq T_int t45 t47 w fun t48 w =>
      k48 t48 w) w fun _ t48 w =>
    wPick t40 (.bool true) t48 w fun t49 w =>
    wGrp t49 false (fun k54 =>
      wLoad P T_Lcodec_Slot t10 w fun t52 w =>
      wCallV P a3 [t52] w fun t53 w =>
      wUn P .not t53 w fun t54 w =>
      k54 t54 w) w fun _ t54 w =>
    wPick t49 (.bool true) t54 w fun t55 w =>
    wIf t55 (
      k (.tuple #[(.slice none 0 0), (.int .i64 21)]) w) (
      wLoad P T_Lcodec_Slot t10 w fun t57 w =>
      k (.tuple #[t57, (.int .i64 0)]) w))

theorem call_codec_read_LLcodec_Slot (a0 a1 a2 a3 : Value) {w : World} {k : Value → World → Prop} (h : F_codec_read_LLcodec_Slot a0 a1 a2 a3 w k) : wCall P n_codec_read_LLcodec_Slot [a0, a1, a2, a3] w k :=
  call_of_den mixedP Try.func186 (by kernel_rfl) (.s .z (.s .z (.s .z (.s (.s (.r (.ops [0, 1, 2] (.grp 2 false 27 [25, 26] (.ops [3, 4, 5] .nil) (.ops [6] .nil)))) .z) (.s .z (.s (.s .z (.s (.r (.ops [0, 1, 2, 3, 4] (.grp 4 false 48 [42, 43, 44, 45, 46, 47] (.ops [5, 6, 7, 8, 9, 10, 11] .nil) (.ops [12, 13] (.grp 13 false 54 [51, 52, 53] (.ops [14, 15, 16, 17] .nil) (.ops [18] .nil)))))) .z)) .z)))))) (by kernel_rfl) (Eq.mp (by kernel_rfl) h)

def F_codec_write_LLcodec_Record (a0 a1 a2 a3 : Value) (w : World) (k : Value → World → Prop) : Prop :=
  wBox P T_Lcodec_Record a1 w fun t5 w =>
  wAlloc P T_api_Sector w fun t8 w =>
  wBuild P T_codec_writer [] w fun t11 w =>
  wBox P T_codec_writer t11 w fun t12 w =>
  wLoad P T_Lcodec_Record t5 w fun t14 w =>
  wCallV P a3 [t14] w fun t15 w =>
  wUn P .not t15 w fun t16 w =>
  wIf t16 (
    wBuild P T_api_Sector [] w fun t17 w =>
    wStore P T_api_Sector t8 t17 w fun w =>
    wRes P T_api_Sector t8 w fun r8 =>
    k (.tuple #[r8, (.int .i64 1)]) w) (
    wIface P T_pcodec_writer t12 w fun t20 w =>
    wCallV P a2 [t20, t5] w fun _ w =>
    wNil P t12 w fun t23 w =>
    wFieldA P T_codec_writer t23 1 w fun t24 w =>
    wLoad P T_bool t24 w fun t25 w =>
    wIf t25 (
      wBuild P T_api_Sector [] w fun t26 w =>
      wStore P T_api_Sector t8 t26 w fun w =>
      wRes P T_api_Sector t8 w fun r8 =>
      k (.tuple #[r8, (.int .i64 1)]) w) (
      wNil P t12 w fun t29 w =>
      wFieldA P T_codec_writer t29 0 w fun t30 w =>
      wLoad P T_Luint8 t30 w fun t31 w =>
      wCall P n_seal_Make [a0, t31] w fun t32 w =>
      wExtract P t32 0 w fun t33 w =>
      wExtract P t32 1 w fun t34 w =>
      wStore P T_api_Sector t8 t33 w fun w =>
      wRes P T_api_Sector t8 w fun r8 =>
      k (.tuple #[r8, t34]) w))

theorem call_codec_write_LLcodec_Record (a0 a1 a2 a3 : Value) {w : World} {k : Value → World → Prop} (h : F_codec_write_LLcodec_Record a0 a1 a2 a3 w k) : wCall P n_codec_write_LLcodec_Record [a0, a1, a2, a3] w k :=
  call_of_den mixedP Try.func187 (by kernel_rfl) .z (by kernel_rfl) (Eq.mp (by kernel_rfl) h)

def F_codec_passRecords (a0 a1 : Value) (w : World) (k : Value → World → Prop) : Prop :=
  wCall P n_codec_list_codec_Record [a0, a1, (.func (.func n_codec_passRecord) #[] #[])] w fun _ w =>
  k (.tuple #[]) w

theorem call_codec_passRecords (a0 a1 : Value) {w : World} {k : Value → World → Prop} (h : F_codec_passRecords a0 a1 w k) : wCall P n_codec_passRecords [a0, a1] w k :=
  call_of_den mixedP Try.func188 (by kernel_rfl) .z (by kernel_rfl) (Eq.mp (by kernel_rfl) h)

def F_codec_mayRecords (a0 : Value) (w : World) (k : Value → World → Prop) : Prop :=
  wCall P n_codec_each_codec_Record [(.int .i64 13), (.func (.func n_codec_mayRecords_c1) #[] #[])] w fun t3 w =>
  wCallV P t3 [a0] w fun t5 w =>
  k t5 w

theorem call_codec_mayRecords (a0 : Value) {w : World} {k : Value → World → Prop} (h : F_codec_mayRecords a0 w k) : wCall P n_codec_mayRecords [a0] w k :=
  call_of_den mixedP Try.func189 (by kernel_rfl) .z (by kernel_rfl) (Eq.mp (by kernel_rfl) h)

def F_codec_read_LLcodec_Record (a0 a1 a2 a3 : Value) (w : World) (k : Value → World → Prop) : Prop :=
  wBox P T_api_Sector a1 w fun t5 w =>
  wAlloc P T_Lcodec_Record w fun t10 w =>
  wLoad P T_api_Sector t5 w fun t17 w =>
  wCall P n_seal_Open [t17] w fun t18 w =>
  wExtract P t18 0 w fun t19 w =>
  wExtract P t18 1 w fun t20 w =>
  wExtract P t18 2 w fun t21 w =>
  wBin P .neq T_api_Errno t21 (.int .i64 0) w fun t23 w =>
  wGrp t23 false (fun k27 =>
    wBin P .neq T_uint8 t19 a0 w fun t27 w =>
    k27 t27 w) w fun _ t27 w =>
  wPick t23 (.bool true) t27 w fun t28 w =>
  wIf t28 (
    k (.tuple #[(.slice none 0 0), (.int .i64 21)]) w) (
    wBuild P T_codec_reader [(0, t20)] w fun t31 w =>
    wBox P T_codec_reader t31 w fun t32 w =>
    wIface P T_pcodec_reader t32 w fun t35 w =>
    wCallV P a2 [t35, t10] w fun _ w =>
    wNil P t32 w fun t38 w =>
    wFieldA P T_codec_reader t38 2 w fun t39 w =>
    wLoad P T_bool t39 w fun t40 w =>
    wGrp t40 false (fun k48 =>
      wNil P t32 w fun t43 w =>
      wFieldA P T_codec_reader t43 1 w fun t44 w =>
      wLoad P T_int t44 w fun t45 w =>
      wLen P .len #[T_Luint8] [t20] w fun t47 w =>
      wBin P .neq T_int t45 t47 w fun t48 w =>
      k48 t48 w) w fun _ t48 w =>
    wPick t40 (.bool true) t48 w fun t49 w =>
    wGrp t49 false (fun k54 =>
      wLoad P T_Lcodec_Record t10 w fun t52 w =>
      wCallV P a3 [t52] w fun t53 w =>
      wUn P .not t53 w fun t54 w =>
      k54 t54 w) w fun _ t54 w =>
    wPick t49 (.bool true) t54 w fun t55 w =>
    wIf t55 (
      k (.tuple #[(.slice none 0 0), (.int .i64 21)]) w) (
      wLoad P T_Lcodec_Record t10 w fun t57 w =>
      k (.tuple #[t57, (.int .i64 0)]) w))

theorem call_codec_read_LLcodec_Record (a0 a1 a2 a3 : Value) {w : World} {k : Value → World → Prop} (h : F_codec_read_LLcodec_Record a0 a1 a2 a3 w k) : wCall P n_codec_read_LLcodec_Record [a0, a1, a2, a3] w k :=
  call_of_den mixedP Try.func190 (by kernel_rfl) (.s .z (.s .z (.s .z (.s (.s (.r (.ops [0, 1, 2] (.grp 2 false 27 [25, 26] (.ops [3, 4, 5] .nil) (.ops [6] .nil)))) .z) (.s .z (.s (.s .z (.s (.r (.ops [0, 1, 2, 3, 4] (.grp 4 false 48 [42, 43, 44, 45, 46, 47] (.ops [5, 6, 7, 8, 9, 10, 11] .nil) (.ops [12, 13] (.grp 13 false 54 [51, 52, 53] (.ops [14, 15, 16, 17] .nil) (.ops [18] .nil)))))) .z)) .z)))))) (by kernel_rfl) (Eq.mp (by kernel_rfl) h)

def F_codec_write_codec_Summary (a0 a1 a2 a3 : Value) (w : World) (k : Value → World → Prop) : Prop :=
  wBox P T_codec_Summary a1 w fun t5 w =>
  wAlloc P T_api_Sector w fun t8 w =>
  wBuild P T_codec_writer [] w fun t11 w =>
  wBox P T_codec_writer t11 w fun t12 w =>
  wLoad P T_codec_Summary t5 w fun t14 w =>
  wCallV P a3 [t14] w fun t15 w =>
  wUn P .not t15 w fun t16 w =>
  wIf t16 (
    wBuild P T_api_Sector [] w fun t17 w =>
    wStore P T_api_Sector t8 t17 w fun w =>
    wRes P T_api_Sector t8 w fun r8 =>
    k (.tuple #[r8, (.int .i64 1)]) w) (
    wIface P T_pcodec_writer t12 w fun t20 w =>
    wCallV P a2 [t20, t5] w fun _ w =>
    wNil P t12 w fun t23 w =>
    wFieldA P T_codec_writer t23 1 w fun t24 w =>
    wLoad P T_bool t24 w fun t25 w =>
    wIf t25 (
      wBuild P T_api_Sector [] w fun t26 w =>
      wStore P T_api_Sector t8 t26 w fun w =>
      wRes P T_api_Sector t8 w fun r8 =>
      k (.tuple #[r8, (.int .i64 1)]) w) (
      wNil P t12 w fun t29 w =>
      wFieldA P T_codec_writer t29 0 w fun t30 w =>
      wLoad P T_Luint8 t30 w fun t31 w =>
      wCall P n_seal_Make [a0, t31] w fun t32 w =>
      wExtract P t32 0 w fun t33 w =>
      wExtract P t32 1 w fun t34 w =>
      wStore P T_api_Sector t8 t33 w fun w =>
      wRes P T_api_Sector t8 w fun r8 =>
      k (.tuple #[r8, t34]) w))

theorem call_codec_write_codec_Summary (a0 a1 a2 a3 : Value) {w : World} {k : Value → World → Prop} (h : F_codec_write_codec_Summary a0 a1 a2 a3 w k) : wCall P n_codec_write_codec_Summary [a0, a1, a2, a3] w k :=
  call_of_den mixedP Try.func191 (by kernel_rfl) .z (by kernel_rfl) (Eq.mp (by kernel_rfl) h)

def F_codec_passSummary (a0 a1 : Value) (w : World) (k : Value → World → Prop) : Prop :=
  wDraw w fun w =>
  wNil P a1 w fun t7 w =>
  wFieldA P T_codec_Summary t7 0 w fun t8 w =>
  wFunc P (.method "drumlin/codec.wide") [a0] [] w fun t9 w =>
  wNil P t9 w fun _ w =>
  wInvoke P a0 "drumlin/codec.wide" [(.int .i64 8), t8] w fun _ w =>
  wDraw w fun w =>
  wNil P a1 w fun t15 w =>
  wFieldA P T_codec_Summary t15 1 w fun t16 w =>
  wFunc P (.method "drumlin/codec.wide") [a0] [] w fun t17 w =>
  wNil P t17 w fun _ w =>
  wInvoke P a0 "drumlin/codec.wide" [(.int .i64 8), t16] w fun _ w =>
  wNil P a1 w fun t23 w =>
  wFieldA P T_codec_Summary t23 2 w fun t24 w =>
  wCall P n_codec_flag [a0, t24] w fun _ w =>
  wNil P a1 w fun t27 w =>
  wFieldA P T_codec_Summary t27 5 w fun t28 w =>
  wLoad P T_Lcodec_Entry t28 w fun t29 w =>
  wLen P .len #[T_Lcodec_Entry] [t29] w fun t30 w =>
  wAlloc P T_int w fun t4 w =>
  wStore P T_int t4 t30 w fun w =>
  wInvoke P a0 "drumlin/codec.int" [(.int .i64 1), t4] w fun _ w =>
  wDraw w fun w =>
  wNil P a1 w fun t35 w =>
  wFieldA P T_codec_Summary t35 3 w fun t36 w =>
  wFunc P (.method "drumlin/codec.int") [a0] [] w fun t37 w =>
  wNil P t37 w fun _ w =>
  wInvoke P a0 "drumlin/codec.int" [(.int .i64 2), t36] w fun _ w =>
  wDraw w fun w =>
  wNil P a1 w fun t43 w =>
  wFieldA P T_codec_Summary t43 4 w fun t44 w =>
  wFunc P (.method "drumlin/codec.word") [a0] [] w fun t45 w =>
  wNil P t45 w fun _ w =>
  wInvoke P a0 "drumlin/codec.word" [(.int .i64 4), t44] w fun _ w =>
  wNil P a1 w fun t51 w =>
  wFieldA P T_codec_Summary t51 5 w fun t52 w =>
  wCall P n_codec_list_codec_Entry [a0, t52, (.func (.func n_codec_passEntry) #[] #[])] w fun _ w =>
  k (.tuple #[]) w

theorem call_codec_passSummary (a0 a1 : Value) {w : World} {k : Value → World → Prop} (h : F_codec_passSummary a0 a1 w k) : wCall P n_codec_passSummary [a0, a1] w k :=
  call_of_den mixedP Try.func192 (by kernel_rfl) (.s (.r (.ops [0, 1, 2, 3] (.eff 4 [] (.ops [5, 6] (.eff 7 [] .nil))))) (.s (.r (.ops [0, 1, 2, 3] (.eff 4 [] (.ops [5, 6] (.eff 7 [] .nil))))) (.s .z (.s .z (.s .z (.s (.r (.ops [0, 1, 2, 3] (.eff 4 [] (.ops [5, 6] (.eff 7 [] .nil))))) (.s (.r (.ops [0, 1, 2, 3] (.eff 4 [] (.ops [5, 6] (.eff 7 [] .nil))))) .z))))))) (by kernel_rfl) (Eq.mp (by kernel_rfl) h)

def F_codec_maySummary (a0 : Value) (w : World) (k : Value → World → Prop) : Prop :=
  wBox P T_codec_Summary a0 w fun t1 w =>
  wDraw w fun w =>
  wFieldA P T_codec_Summary t1 5 w fun t4 w =>
  wLoad P T_Lcodec_Entry t4 w fun t5 w =>
  wCall P n_codec_each_codec_Entry [(.int .i64 8), (.func (.func n_codec_maySummary_c1) #[] #[])] w fun t3 w =>
  wKeep P [(T_Lcodec_Entry, t4, t5)] w ∧ wCallV P t3 [t5] w fun t6 w =>
  k t6 w

theorem call_codec_maySummary (a0 : Value) {w : World} {k : Value → World → Prop} (h : F_codec_maySummary a0 w k) : wCall P n_codec_maySummary [a0] w k :=
  call_of_den mixedP Try.func193 (by kernel_rfl) (.s .z (.s (.r (.ops [1, 2] (.eff 0 [2] (.eff 3 [] (.ops [4] .nil))))) .z)) (by kernel_rfl) (Eq.mp (by kernel_rfl) h)

def F_codec_read_codec_Summary (a0 a1 a2 a3 : Value) (w : World) (k : Value → World → Prop) : Prop :=
  wBox P T_api_Sector a1 w fun t5 w =>
  wAlloc P T_codec_Summary w fun t8 w =>
  wAlloc P T_codec_Summary w fun t10 w =>
  wAlloc P T_codec_Summary w fun t11 w =>
  wLoad P T_api_Sector t5 w fun t17 w =>
  wCall P n_seal_Open [t17] w fun t18 w =>
  wExtract P t18 0 w fun t19 w =>
  wExtract P t18 1 w fun t20 w =>
  wExtract P t18 2 w fun t21 w =>
  wBin P .neq T_api_Errno t21 (.int .i64 0) w fun t23 w =>
  wGrp t23 false (fun k27 =>
    wBin P .neq T_uint8 t19 a0 w fun t27 w =>
    k27 t27 w) w fun _ t27 w =>
  wPick t23 (.bool true) t27 w fun t28 w =>
  wIf t28 (
    wLoad P T_codec_Summary t11 w fun t29 w =>
    wStore P T_codec_Summary t8 t29 w fun w =>
    wRes P T_codec_Summary t8 w fun r8 =>
    k (.tuple #[r8, (.int .i64 21)]) w) (
    wBuild P T_codec_reader [(0, t20)] w fun t31 w =>
    wBox P T_codec_reader t31 w fun t32 w =>
    wIface P T_pcodec_reader t32 w fun t35 w =>
    wCallV P a2 [t35, t10] w fun _ w =>
    wNil P t32 w fun t38 w =>
    wFieldA P T_codec_reader t38 2 w fun t39 w =>
    wLoad P T_bool t39 w fun t40 w =>
    wGrp t40 false (fun k48 =>
      wNil P t32 w fun t43 w =>
      wFieldA P T_codec_reader t43 1 w fun t44 w =>
      wLoad P T_int t44 w fun t45 w =>
      wLen P .len #[T_Luint8] [t20] w fun t47 w =>
      wBin P .neq T_int t45 t47 w fun t48 w =>
      k48 t48 w) w fun _ t48 w =>
    wPick t40 (.bool true) t48 w fun t49 w =>
    wGrp t49 false (fun k54 =>
      wLoad P T_codec_Summary t10 w fun t52 w =>
      wCallV P a3 [t52] w fun t53 w =>
      wUn P .not t53 w fun t54 w =>
      k54 t54 w) w fun _ t54 w =>
    wPick t49 (.bool true) t54 w fun t55 w =>
    wIf t55 (
      wLoad P T_codec_Summary t11 w fun t56 w =>
      wStore P T_codec_Summary t8 t56 w fun w =>
      wRes P T_codec_Summary t8 w fun r8 =>
      k (.tuple #[r8, (.int .i64 21)]) w) (
      wLoad P T_codec_Summary t10 w fun t57 w =>
      wStore P T_codec_Summary t8 t57 w fun w =>
      wRes P T_codec_Summary t8 w fun r8 =>
      k (.tuple #[r8, (.int .i64 0)]) w))

theorem call_codec_read_codec_Summary (a0 a1 a2 a3 : Value) {w : World} {k : Value → World → Prop} (h : F_codec_read_codec_Summary a0 a1 a2 a3 w k) : wCall P n_codec_read_codec_Summary [a0, a1, a2, a3] w k :=
  call_of_den mixedP Try.func194 (by kernel_rfl) (.s .z (.s .z (.s .z (.s (.s (.r (.ops [0, 1, 2] (.grp 2 false 27 [25, 26] (.ops [3, 4, 5] .nil) (.ops [6] .nil)))) .z) (.s .z (.s (.s .z (.s (.r (.ops [0, 1, 2, 3, 4] (.grp 4 false 48 [42, 43, 44, 45, 46, 47] (.ops [5, 6, 7, 8, 9, 10, 11] .nil) (.ops [12, 13] (.grp 13 false 54 [51, 52, 53] (.ops [14, 15, 16, 17] .nil) (.ops [18] .nil)))))) .z)) .z)))))) (by kernel_rfl) (Eq.mp (by kernel_rfl) h)

def F_codec_list_codec_Use (a0 a1 a2 : Value) (w : World) (k : Value → World → Prop) : Prop :=
  wJ0 (fun k1 =>
    wNil P a1 w fun t9 w =>
    wLoad P T_Lcodec_Use t9 w fun t10 w =>
    wLen P .len #[T_Lcodec_Use] [t10] w fun t11 w =>
    wL1 (.int .i64 0) w (fun _ v12 w k2 =>
      wBin P .lss T_int v12 t11 w fun t13 w =>
      wIf t13 (
        wNil P a1 w fun t18 w =>
        wLoad P T_Lcodec_Use t18 w fun t19 w =>
        wIndexA P T_Lcodec_Use t19 v12 w fun t21 w =>
        wCallV P a2 [a0, t21] w fun _ w =>
        wBin P .add T_int v12 (.int .i64 1) w fun t23 w =>
        k2 t23 w) (
        k1 w))) fun _ w =>
  wL0 w (fun _ w k1 =>
    wInvoke P a0 "drumlin/codec.more" [] w fun t25 w =>
    wIf t25 (
      wAlloc P T_codec_Use w fun t7 w =>
      wCallV P a2 [a0, t7] w fun _ w =>
      wDraw w fun w =>
      wNil P a1 w fun t31 w =>
      wLoad P T_Lcodec_Use t31 w fun t32 w =>
      wLoad P T_codec_Use t7 w fun t33 w =>
      wBuildS P T_Lcodec_Use 1 [(0, t33)] w fun t34 w =>
      wKeep P [(T_Lcodec_Use, t31, t32)] w ∧ wBuiltin P .append #[T_Lcodec_Use, T_Lcodec_Use] [t32, t34] w fun t35 w =>
      wNil P a1 w fun t36 w =>
      wStore P T_Lcodec_Use t36 t35 w fun w =>
      k1 w) (
      k (.tuple #[]) w))

theorem call_codec_list_codec_Use (a0 a1 a2 : Value) {w : World} {k : Value → World → Prop} (h : F_codec_list_codec_Use a0 a1 a2 w k) : wCall P n_codec_list_codec_Use [a0, a1, a2] w k :=
  call_of_den mixedP Try.func236 (by kernel_rfl) (.j [] [0, 1, 2] (.s .z (.b (.l [12] [0, 1, 2, 11] .z))) (.b (.l [] [0, 1, 2] (.s .z (.b (.s .z (.s .z (.r (.ops [0, 1, 2, 3, 4] (.eff 5 [3] (.eff 6 [] (.ops [7] (.eff 8 [] .nil))))))))))))) (by kernel_rfl) (Eq.mp (by kernel_rfl) h)

def F_codec_passUse (a0 a1 : Value) (w : World) (k : Value → World → Prop) : Prop :=
  wDraw w fun w =>
  wNil P a1 w fun t6 w =>
  wFieldA P T_codec_Use t6 0 w fun t7 w =>
  wFunc P (.method "drumlin/codec.int") [a0] [] w fun t8 w =>
  wNil P t8 w fun _ w =>
  wInvoke P a0 "drumlin/codec.int" [(.int .i64 2), t7] w fun _ w =>
  wDraw w fun w =>
  wNil P a1 w fun t14 w =>
  wFieldA P T_codec_Use t14 1 w fun t15 w =>
  wFunc P (.method "drumlin/codec.int") [a0] [] w fun t16 w =>
  wNil P t16 w fun _ w =>
  wInvoke P a0 "drumlin/codec.int" [(.int .i64 1), t15] w fun _ w =>
  wDraw w fun w =>
  wNil P a1 w fun t22 w =>
  wFieldA P T_codec_Use t22 2 w fun t23 w =>
  wFunc P (.method "drumlin/codec.word") [a0] [] w fun t24 w =>
  wNil P t24 w fun _ w =>
  wInvoke P a0 "drumlin/codec.word" [(.int .i64 4), t23] w fun _ w =>
  k (.tuple #[]) w

theorem call_codec_passUse (a0 a1 : Value) {w : World} {k : Value → World → Prop} (h : F_codec_passUse a0 a1 w k) : wCall P n_codec_passUse [a0, a1] w k :=
  call_of_den mixedP Try.func237 (by kernel_rfl) (.s (.r (.ops [0, 1, 2, 3] (.eff 4 [] (.ops [5, 6] (.eff 7 [] .nil))))) (.s (.r (.ops [0, 1, 2, 3] (.eff 4 [] (.ops [5, 6] (.eff 7 [] .nil))))) (.r (.ops [0, 1, 2, 3] (.eff 4 [] (.ops [5, 6] (.eff 7 [] .nil))))))) (by kernel_rfl) (Eq.mp (by kernel_rfl) h)

def F_codec_each_codec_Use (a0 a1 : Value) (w : World) (k : Value → World → Prop) : Prop :=
  wBox P T_int a0 w fun t2 w =>
  wBox P T_func_codec_Use__bool a1 w fun t3 w =>
  wFunc P (.func n_codec_each_codec_Use_c1) [] [t3, t2] w fun t5 w =>
  k t5 w

theorem call_codec_each_codec_Use (a0 a1 : Value) {w : World} {k : Value → World → Prop} (h : F_codec_each_codec_Use a0 a1 w k) : wCall P n_codec_each_codec_Use [a0, a1] w k :=
  call_of_den mixedP Try.func238 (by kernel_rfl) .z (by kernel_rfl) (Eq.mp (by kernel_rfl) h)

def F_codec_mayUses_c1 (a0 : Value) (w : World) (k : Value → World → Prop) : Prop :=
  wBox P T_codec_Use a0 w fun t1 w =>
  wFieldA P T_codec_Use t1 1 w fun t3 w =>
  wLoad P T_int t3 w fun t4 w =>
  wCall P n_codec_among [t4, (.int .i64 0), (.int .i64 3)] w fun t5 w =>
  k t5 w

theorem call_codec_mayUses_c1 (a0 : Value) {w : World} {k : Value → World → Prop} (h : F_codec_mayUses_c1 a0 w k) : wCall P n_codec_mayUses_c1 [a0] w k :=
  call_of_den mixedP Try.func239 (by kernel_rfl) .z (by kernel_rfl) (Eq.mp (by kernel_rfl) h)

def F_codec_list_codec_Slot (a0 a1 a2 : Value) (w : World) (k : Value → World → Prop) : Prop :=
  wJ0 (fun k1 =>
    wNil P a1 w fun t9 w =>
    wLoad P T_Lcodec_Slot t9 w fun t10 w =>
    wLen P .len #[T_Lcodec_Slot] [t10] w fun t11 w =>
    wL1 (.int .i64 0) w (fun _ v12 w k2 =>
      wBin P .lss T_int v12 t11 w fun t13 w =>
      wIf t13 (
        wNil P a1 w fun t18 w =>
        wLoad P T_Lcodec_Slot t18 w fun t19 w =>
        wIndexA P T_Lcodec_Slot t19 v12 w fun t21 w =>
        wCallV P a2 [a0, t21] w fun _ w =>
        wBin P .add T_int v12 (.int .i64 1) w fun t23 w =>
        k2 t23 w) (
        k1 w))) fun _ w =>
  wL0 w (fun _ w k1 =>
    wInvoke P a0 "drumlin/codec.more" [] w fun t25 w =>
    wIf t25 (
      wAlloc P T_codec_Slot w fun t7 w =>
      wCallV P a2 [a0, t7] w fun _ w =>
      wDraw w fun w =>
      wNil P a1 w fun t31 w =>
      wLoad P T_Lcodec_Slot t31 w fun t32 w =>
      wLoad P T_codec_Slot t7 w fun t33 w =>
      wBuildS P T_Lcodec_Slot 1 [(0, t33)] w fun t34 w =>
      wKeep P [(T_Lcodec_Slot, t31, t32)] w ∧ wBuiltin P .append #[T_Lcodec_Slot, T_Lcodec_Slot] [t32, t34] w fun t35 w =>
      wNil P a1 w fun t36 w =>
      wStore P T_Lcodec_Slot t36 t35 w fun w =>
      k1 w) (
      k (.tuple #[]) w))

theorem call_codec_list_codec_Slot (a0 a1 a2 : Value) {w : World} {k : Value → World → Prop} (h : F_codec_list_codec_Slot a0 a1 a2 w k) : wCall P n_codec_list_codec_Slot [a0, a1, a2] w k :=
  call_of_den mixedP Try.func246 (by kernel_rfl) (.j [] [0, 1, 2] (.s .z (.b (.l [12] [0, 1, 2, 11] .z))) (.b (.l [] [0, 1, 2] (.s .z (.b (.s .z (.s .z (.r (.ops [0, 1, 2, 3, 4] (.eff 5 [3] (.eff 6 [] (.ops [7] (.eff 8 [] .nil))))))))))))) (by kernel_rfl) (Eq.mp (by kernel_rfl) h)

def F_codec_passSlot (a0 a1 : Value) (w : World) (k : Value → World → Prop) : Prop :=
  wDraw w fun w =>
  wNil P a1 w fun t6 w =>
  wFieldA P T_codec_Slot t6 0 w fun t7 w =>
  wFunc P (.method "drumlin/codec.int") [a0] [] w fun t8 w =>
  wNil P t8 w fun _ w =>
  wInvoke P a0 "drumlin/codec.int" [(.int .i64 4), t7] w fun _ w =>
  wDraw w fun w =>
  wNil P a1 w fun t14 w =>
  wFieldA P T_codec_Slot t14 1 w fun t15 w =>
  wFunc P (.method "drumlin/codec.word") [a0] [] w fun t16 w =>
  wNil P t16 w fun _ w =>
  wInvoke P a0 "drumlin/codec.word" [(.int .i64 4), t15] w fun _ w =>
  wDraw w fun w =>
  wNil P a1 w fun t22 w =>
  wFieldA P T_codec_Slot t22 2 w fun t23 w =>
  wFunc P (.method "drumlin/codec.int") [a0] [] w fun t24 w =>
  wNil P t24 w fun _ w =>
  wInvoke P a0 "drumlin/codec.int" [(.int .i64 2), t23] w fun _ w =>
  wDraw w fun w =>
  wNil P a1 w fun t30 w =>
  wFieldA P T_codec_Slot t30 3 w fun t31 w =>
  wFunc P (.method "drumlin/codec.int") [a0] [] w fun t32 w =>
  wNil P t32 w fun _ w =>
  wInvoke P a0 "drumlin/codec.int" [(.int .i64 1), t31] w fun _ w =>
  k (.tuple #[]) w

theorem call_codec_passSlot (a0 a1 : Value) {w : World} {k : Value → World → Prop} (h : F_codec_passSlot a0 a1 w k) : wCall P n_codec_passSlot [a0, a1] w k :=
  call_of_den mixedP Try.func247 (by kernel_rfl) (.s (.r (.ops [0, 1, 2, 3] (.eff 4 [] (.ops [5, 6] (.eff 7 [] .nil))))) (.s (.r (.ops [0, 1, 2, 3] (.eff 4 [] (.ops [5, 6] (.eff 7 [] .nil))))) (.s (.r (.ops [0, 1, 2, 3] (.eff 4 [] (.ops [5, 6] (.eff 7 [] .nil))))) (.r (.ops [0, 1, 2, 3] (.eff 4 [] (.ops [5, 6] (.eff 7 [] .nil)))))))) (by kernel_rfl) (Eq.mp (by kernel_rfl) h)

def F_codec_each_codec_Slot (a0 a1 : Value) (w : World) (k : Value → World → Prop) : Prop :=
  wBox P T_int a0 w fun t2 w =>
  wBox P T_func_codec_Slot__bool a1 w fun t3 w =>
  wFunc P (.func n_codec_each_codec_Slot_c1) [] [t3, t2] w fun t5 w =>
  k t5 w

theorem call_codec_each_codec_Slot (a0 a1 : Value) {w : World} {k : Value → World → Prop} (h : F_codec_each_codec_Slot a0 a1 w k) : wCall P n_codec_each_codec_Slot [a0, a1] w k :=
  call_of_den mixedP Try.func248 (by kernel_rfl) .z (by kernel_rfl) (Eq.mp (by kernel_rfl) h)

def F_codec_maySlots_c1 (a0 : Value) (w : World) (k : Value → World → Prop) : Prop :=
  wBox P T_codec_Slot a0 w fun t1 w =>
  wFieldA P T_codec_Slot t1 3 w fun t3 w =>
  wLoad P T_int t3 w fun t4 w =>
  wCall P n_codec_among [t4, (.int .i64 0), (.int .i64 2)] w fun t5 w =>
  k t5 w

theorem call_codec_maySlots_c1 (a0 : Value) {w : World} {k : Value → World → Prop} (h : F_codec_maySlots_c1 a0 w k) : wCall P n_codec_maySlots_c1 [a0] w k :=
  call_of_den mixedP Try.func249 (by kernel_rfl) .z (by kernel_rfl) (Eq.mp (by kernel_rfl) h)

def F_codec_list_codec_Record (a0 a1 a2 : Value) (w : World) (k : Value → World → Prop) : Prop :=
  wJ0 (fun k1 =>
    wNil P a1 w fun t9 w =>
    wLoad P T_Lcodec_Record t9 w fun t10 w =>
    wLen P .len #[T_Lcodec_Record] [t10] w fun t11 w =>
    wL1 (.int .i64 0) w (fun _ v12 w k2 =>
      wBin P .lss T_int v12 t11 w fun t13 w =>
      wIf t13 (
        wNil P a1 w fun t18 w =>
        wLoad P T_Lcodec_Record t18 w fun t19 w =>
        wIndexA P T_Lcodec_Record t19 v12 w fun t21 w =>
        wCallV P a2 [a0, t21] w fun _ w =>
        wBin P .add T_int v12 (.int .i64 1) w fun t23 w =>
        k2 t23 w) (
        k1 w))) fun _ w =>
  wL0 w (fun _ w k1 =>
    wInvoke P a0 "drumlin/codec.more" [] w fun t25 w =>
    wIf t25 (
      wAlloc P T_codec_Record w fun t7 w =>
      wCallV P a2 [a0, t7] w fun _ w =>
      wDraw w fun w =>
      wNil P a1 w fun t31 w =>
      wLoad P T_Lcodec_Record t31 w fun t32 w =>
      wLoad P T_codec_Record t7 w fun t33 w =>
      wBuildS P T_Lcodec_Record 1 [(0, t33)] w fun t34 w =>
      wKeep P [(T_Lcodec_Record, t31, t32)] w ∧ wBuiltin P .append #[T_Lcodec_Record, T_Lcodec_Record] [t32, t34] w fun t35 w =>
      wNil P a1 w fun t36 w =>
      wStore P T_Lcodec_Record t36 t35 w fun w =>
      k1 w) (
      k (.tuple #[]) w))

theorem call_codec_list_codec_Record (a0 a1 a2 : Value) {w : World} {k : Value → World → Prop} (h : F_codec_list_codec_Record a0 a1 a2 w k) : wCall P n_codec_list_codec_Record [a0, a1, a2] w k :=
  call_of_den mixedP Try.func250 (by kernel_rfl) (.j [] [0, 1, 2] (.s .z (.b (.l [12] [0, 1, 2, 11] .z))) (.b (.l [] [0, 1, 2] (.s .z (.b (.s .z (.s .z (.r (.ops [0, 1, 2, 3, 4] (.eff 5 [3] (.eff 6 [] (.ops [7] (.eff 8 [] .nil))))))))))))) (by kernel_rfl) (Eq.mp (by kernel_rfl) h)

def F_codec_passRecord (a0 a1 : Value) (w : World) (k : Value → World → Prop) : Prop :=
  wDraw w fun w =>
  wNil P a1 w fun t6 w =>
  wFieldA P T_codec_Record t6 0 w fun t7 w =>
  wFunc P (.method "drumlin/codec.word") [a0] [] w fun t8 w =>
  wNil P t8 w fun _ w =>
  wInvoke P a0 "drumlin/codec.word" [(.int .i64 2), t7] w fun _ w =>
  wDraw w fun w =>
  wNil P a1 w fun t14 w =>
  wFieldA P T_codec_Record t14 1 w fun t15 w =>
  wFunc P (.method "drumlin/codec.word") [a0] [] w fun t16 w =>
  wNil P t16 w fun _ w =>
  wInvoke P a0 "drumlin/codec.word" [(.int .i64 4), t15] w fun _ w =>
  wDraw w fun w =>
  wNil P a1 w fun t22 w =>
  wFieldA P T_codec_Record t22 2 w fun t23 w =>
  wFunc P (.method "drumlin/codec.int") [a0] [] w fun t24 w =>
  wNil P t24 w fun _ w =>
  wInvoke P a0 "drumlin/codec.int" [(.int .i64 2), t23] w fun _ w =>
  wDraw w fun w =>
  wNil P a1 w fun t30 w =>
  wFieldA P T_codec_Record t30 3 w fun t31 w =>
  wFunc P (.method "drumlin/codec.int") [a0] [] w fun t32 w =>
  wNil P t32 w fun _ w =>
  wInvoke P a0 "drumlin/codec.int" [(.int .i64 1), t31] w fun _ w =>
  k (.tuple #[]) w

theorem call_codec_passRecord (a0 a1 : Value) {w : World} {k : Value → World → Prop} (h : F_codec_passRecord a0 a1 w k) : wCall P n_codec_passRecord [a0, a1] w k :=
  call_of_den mixedP Try.func251 (by kernel_rfl) (.s (.r (.ops [0, 1, 2, 3] (.eff 4 [] (.ops [5, 6] (.eff 7 [] .nil))))) (.s (.r (.ops [0, 1, 2, 3] (.eff 4 [] (.ops [5, 6] (.eff 7 [] .nil))))) (.s (.r (.ops [0, 1, 2, 3] (.eff 4 [] (.ops [5, 6] (.eff 7 [] .nil))))) (.r (.ops [0, 1, 2, 3] (.eff 4 [] (.ops [5, 6] (.eff 7 [] .nil)))))))) (by kernel_rfl) (Eq.mp (by kernel_rfl) h)

def F_codec_each_codec_Record (a0 a1 : Value) (w : World) (k : Value → World → Prop) : Prop :=
  wBox P T_int a0 w fun t2 w =>
  wBox P T_func_codec_Record__bool a1 w fun t3 w =>
  wFunc P (.func n_codec_each_codec_Record_c1) [] [t3, t2] w fun t5 w =>
  k t5 w

theorem call_codec_each_codec_Record (a0 a1 : Value) {w : World} {k : Value → World → Prop} (h : F_codec_each_codec_Record a0 a1 w k) : wCall P n_codec_each_codec_Record [a0, a1] w k :=
  call_of_den mixedP Try.func252 (by kernel_rfl) .z (by kernel_rfl) (Eq.mp (by kernel_rfl) h)

def F_codec_mayRecords_c1 (a0 : Value) (w : World) (k : Value → World → Prop) : Prop :=
  wBox P T_codec_Record a0 w fun t1 w =>
  wFieldA P T_codec_Record t1 3 w fun t3 w =>
  wLoad P T_int t3 w fun t4 w =>
  wCall P n_codec_among [t4, (.int .i64 0), (.int .i64 2)] w fun t5 w =>
  k t5 w

theorem call_codec_mayRecords_c1 (a0 : Value) {w : World} {k : Value → World → Prop} (h : F_codec_mayRecords_c1 a0 w k) : wCall P n_codec_mayRecords_c1 [a0] w k :=
  call_of_den mixedP Try.func253 (by kernel_rfl) .z (by kernel_rfl) (Eq.mp (by kernel_rfl) h)

def F_codec_flag (a0 a1 : Value) (w : World) (k : Value → World → Prop) : Prop :=
  wAlloc P T_int w fun t4 w =>
  wStore P T_int t4 (.int .i64 0) w fun w =>
  wJ0 (fun k1 =>
    wNil P a1 w fun t6 w =>
    wLoad P T_bool t6 w fun t7 w =>
    wIf t7 (
      wStore P T_int t4 (.int .i64 1) w fun w =>
      k1 w) (
      k1 w)) fun _ w =>
  wInvoke P a0 "drumlin/codec.int" [(.int .i64 1), t4] w fun _ w =>
  wLoad P T_int t4 w fun t11 w =>
  wBin P .eql T_int t11 (.int .i64 1) w fun t12 w =>
  wNil P a1 w fun t13 w =>
  wStore P T_bool t13 t12 w fun w =>
  k (.tuple #[]) w

theorem call_codec_flag (a0 a1 : Value) {w : World} {k : Value → World → Prop} (h : F_codec_flag a0 a1 w k) : wCall P n_codec_flag [a0, a1] w k :=
  call_of_den mixedP Try.func254 (by kernel_rfl) (.s .z (.j [] [0, 1, 4] .z .z)) (by kernel_rfl) (Eq.mp (by kernel_rfl) h)

def F_codec_list_codec_Entry (a0 a1 a2 : Value) (w : World) (k : Value → World → Prop) : Prop :=
  wJ0 (fun k1 =>
    wNil P a1 w fun t9 w =>
    wLoad P T_Lcodec_Entry t9 w fun t10 w =>
    wLen P .len #[T_Lcodec_Entry] [t10] w fun t11 w =>
    wL1 (.int .i64 0) w (fun _ v12 w k2 =>
      wBin P .lss T_int v12 t11 w fun t13 w =>
      wIf t13 (
        wNil P a1 w fun t18 w =>
        wLoad P T_Lcodec_Entry t18 w fun t19 w =>
        wIndexA P T_Lcodec_Entry t19 v12 w fun t21 w =>
        wCallV P a2 [a0, t21] w fun _ w =>
        wBin P .add T_int v12 (.int .i64 1) w fun t23 w =>
        k2 t23 w) (
        k1 w))) fun _ w =>
  wL0 w (fun _ w k1 =>
    wInvoke P a0 "drumlin/codec.more" [] w fun t25 w =>
    wIf t25 (
      wAlloc P T_codec_Entry w fun t7 w =>
      wCallV P a2 [a0, t7] w fun _ w =>
      wDraw w fun w =>
      wNil P a1 w fun t31 w =>
      wLoad P T_Lcodec_Entry t31 w fun t32 w =>
      wLoad P T_codec_Entry t7 w fun t33 w =>
      wBuildS P T_Lcodec_Entry 1 [(0, t33)] w fun t34 w =>
      wKeep P [(T_Lcodec_Entry, t31, t32)] w ∧ wBuiltin P .append #[T_Lcodec_Entry, T_Lcodec_Entry] [t32, t34] w fun t35 w =>
      wNil P a1 w fun t36 w =>
      wStore P T_Lcodec_Entry t36 t35 w fun w =>
      k1 w) (
      k (.tuple #[]) w))

theorem call_codec_list_codec_Entry (a0 a1 a2 : Value) {w : World} {k : Value → World → Prop} (h : F_codec_list_codec_Entry a0 a1 a2 w k) : wCall P n_codec_list_codec_Entry [a0, a1, a2] w k :=
  call_of_den mixedP Try.func255 (by kernel_rfl) (.j [] [0, 1, 2] (.s .z (.b (.l [12] [0, 1, 2, 11] .z))) (.b (.l [] [0, 1, 2] (.s .z (.b (.s .z (.s .z (.r (.ops [0, 1, 2, 3, 4] (.eff 5 [3] (.eff 6 [] (.ops [7] (.eff 8 [] .nil))))))))))))) (by kernel_rfl) (Eq.mp (by kernel_rfl) h)

def F_codec_passEntry (a0 a1 : Value) (w : World) (k : Value → World → Prop) : Prop :=
  wDraw w fun w =>
  wNil P a1 w fun t6 w =>
  wFieldA P T_codec_Entry t6 0 w fun t7 w =>
  wFunc P (.method "drumlin/codec.int") [a0] [] w fun t8 w =>
  wNil P t8 w fun _ w =>
  wInvoke P a0 "drumlin/codec.int" [(.int .i64 1), t7] w fun _ w =>
  wDraw w fun w =>
  wNil P a1 w fun t14 w =>
  wFieldA P T_codec_Entry t14 1 w fun t15 w =>
  wFunc P (.method "drumlin/codec.word") [a0] [] w fun t16 w =>
  wNil P t16 w fun _ w =>
  wInvoke P a0 "drumlin/codec.word" [(.int .i64 2), t15] w fun _ w =>
  wDraw w fun w =>
  wNil P a1 w fun t22 w =>
  wFieldA P T_codec_Entry t22 2 w fun t23 w =>
  wFunc P (.method "drumlin/codec.word") [a0] [] w fun t24 w =>
  wNil P t24 w fun _ w =>
  wInvoke P a0 "drumlin/codec.word" [(.int .i64 4), t23] w fun _ w =>
  wDraw w fun w =>
  wNil P a1 w fun t30 w =>
  wFieldA P T_codec_Entry t30 3 w fun t31 w =>
  wFunc P (.method "drumlin/codec.int") [a0] [] w fun t32 w =>
  wNil P t32 w fun _ w =>
  wInvoke P a0 "drumlin/codec.int" [(.int .i64 2), t31] w fun _ w =>
  k (.tuple #[]) w

theorem call_codec_passEntry (a0 a1 : Value) {w : World} {k : Value → World → Prop} (h : F_codec_passEntry a0 a1 w k) : wCall P n_codec_passEntry [a0, a1] w k :=
  call_of_den mixedP Try.func256 (by kernel_rfl) (.s (.r (.ops [0, 1, 2, 3] (.eff 4 [] (.ops [5, 6] (.eff 7 [] .nil))))) (.s (.r (.ops [0, 1, 2, 3] (.eff 4 [] (.ops [5, 6] (.eff 7 [] .nil))))) (.s (.r (.ops [0, 1, 2, 3] (.eff 4 [] (.ops [5, 6] (.eff 7 [] .nil))))) (.r (.ops [0, 1, 2, 3] (.eff 4 [] (.ops [5, 6] (.eff 7 [] .nil)))))))) (by kernel_rfl) (Eq.mp (by kernel_rfl) h)

def F_codec_each_codec_Entry (a0 a1 : Value) (w : World) (k : Value → World → Prop) : Prop :=
  wBox P T_int a0 w fun t2 w =>
  wBox P T_func_codec_Entry__bool a1 w fun t3 w =>
  wFunc P (.func n_codec_each_codec_Entry_c1) [] [t3, t2] w fun t5 w =>
  k t5 w

theorem call_codec_each_codec_Entry (a0 a1 : Value) {w : World} {k : Value → World → Prop} (h : F_codec_each_codec_Entry a0 a1 w k) : wCall P n_codec_each_codec_Entry [a0, a1] w k :=
  call_of_den mixedP Try.func257 (by kernel_rfl) .z (by kernel_rfl) (Eq.mp (by kernel_rfl) h)

def F_codec_maySummary_c1 (a0 : Value) (w : World) (k : Value → World → Prop) : Prop :=
  wBox P T_codec_Entry a0 w fun t1 w =>
  wFieldA P T_codec_Entry t1 0 w fun t3 w =>
  wLoad P T_int t3 w fun t4 w =>
  wCall P n_codec_among [t4, (.int .i64 1), (.int .i64 6)] w fun t5 w =>
  k t5 w

theorem call_codec_maySummary_c1 (a0 : Value) {w : World} {k : Value → World → Prop} (h : F_codec_maySummary_c1 a0 w k) : wCall P n_codec_maySummary_c1 [a0] w k :=
  call_of_den mixedP Try.func258 (by kernel_rfl) .z (by kernel_rfl) (Eq.mp (by kernel_rfl) h)

def F_codec_each_codec_Use_c1 (a0 a1 a2 : Value) (w : World) (k : Value → World → Prop) : Prop :=
  wJ0 (fun k1 =>
    wLen P .len #[T_Lcodec_Use] [a0] w fun t8 w =>
    wL1 (.int .i64 0) w (fun _ v9 w k2 =>
      wBin P .lss T_int v9 t8 w fun t10 w =>
      wIf t10 (
        wIndexA P T_Lcodec_Use a0 v9 w fun t11 w =>
        wLoad P T_codec_Use t11 w fun t12 w =>
        wAlloc P T_codec_Use w fun t6 w =>
        wStore P T_codec_Use t6 t12 w fun w =>
        wLoad P T_func_codec_Use__bool a1 w fun t13 w =>
        wLoad P T_codec_Use t6 w fun t14 w =>
        wCallV P t13 [t14] w fun t15 w =>
        wUn P .not t15 w fun t16 w =>
        wIf t16 (
          k (.bool false) w) (
          wBin P .add T_int v9 (.int .i64 1) w fun t17 w =>
          k2 t17 w)) (
        k1 w))) fun _ w =>
  wLen P .len #[T_Lcodec_Use] [a0] w fun t19 w =>
  wLoad P T_int a2 w fun t20 w =>
  wBin P .leq T_int t19 t20 w fun t21 w =>
  k t21 w

theorem call_codec_each_codec_Use_c1 (a0 a1 a2 : Value) {w : World} {k : Value → World → Prop} (h : F_codec_each_codec_Use_c1 a0 a1 a2 w k) : wCall P n_codec_each_codec_Use_c1 [a0, a1, a2] w k :=
  call_of_den mixedP Try.func280 (by kernel_rfl) (.s .z (.j [] [0, 2] (.s .z (.b (.l [9] [0, 1, 2, 7, 8] .z))) .z)) (by kernel_rfl) (Eq.mp (by kernel_rfl) h)

def F_codec_each_codec_Slot_c1 (a0 a1 a2 : Value) (w : World) (k : Value → World → Prop) : Prop :=
  wJ0 (fun k1 =>
    wLen P .len #[T_Lcodec_Slot] [a0] w fun t8 w =>
    wL1 (.int .i64 0) w (fun _ v9 w k2 =>
      wBin P .lss T_int v9 t8 w fun t10 w =>
      wIf t10 (
        wIndexA P T_Lcodec_Slot a0 v9 w fun t11 w =>
        wLoad P T_codec_Slot t11 w fun t12 w =>
        wAlloc P T_codec_Slot w fun t6 w =>
        wStore P T_codec_Slot t6 t12 w fun w =>
        wLoad P T_func_codec_Slot__bool a1 w fun t13 w =>
        wLoad P T_codec_Slot t6 w fun t14 w =>
        wCallV P t13 [t14] w fun t15 w =>
        wUn P .not t15 w fun t16 w =>
        wIf t16 (
          k (.bool false) w) (
          wBin P .add T_int v9 (.int .i64 1) w fun t17 w =>
          k2 t17 w)) (
        k1 w))) fun _ w =>
  wLen P .len #[T_Lcodec_Slot] [a0] w fun t19 w =>
  wLoad P T_int a2 w fun t20 w =>
  wBin P .leq T_int t19 t20 w fun t21 w =>
  k t21 w

theorem call_codec_each_codec_Slot_c1 (a0 a1 a2 : Value) {w : World} {k : Value → World → Prop} (h : F_codec_each_codec_Slot_c1 a0 a1 a2 w k) : wCall P n_codec_each_codec_Slot_c1 [a0, a1, a2] w k :=
  call_of_den mixedP Try.func285 (by kernel_rfl) (.s .z (.j [] [0, 2] (.s .z (.b (.l [9] [0, 1, 2, 7, 8] .z))) .z)) (by kernel_rfl) (Eq.mp (by kernel_rfl) h)

def F_codec_each_codec_Record_c1 (a0 a1 a2 : Value) (w : World) (k : Value → World → Prop) : Prop :=
  wJ0 (fun k1 =>
    wLen P .len #[T_Lcodec_Record] [a0] w fun t8 w =>
    wL1 (.int .i64 0) w (fun _ v9 w k2 =>
      wBin P .lss T_int v9 t8 w fun t10 w =>
      wIf t10 (
        wIndexA P T_Lcodec_Record a0 v9 w fun t11 w =>
        wLoad P T_codec_Record t11 w fun t12 w =>
        wAlloc P T_codec_Record w fun t6 w =>
        wStore P T_codec_Record t6 t12 w fun w =>
        wLoad P T_func_codec_Record__bool a1 w fun t13 w =>
        wLoad P T_codec_Record t6 w fun t14 w =>
        wCallV P t13 [t14] w fun t15 w =>
        wUn P .not t15 w fun t16 w =>
        wIf t16 (
          k (.bool false) w) (
          wBin P .add T_int v9 (.int .i64 1) w fun t17 w =>
          k2 t17 w)) (
        k1 w))) fun _ w =>
  wLen P .len #[T_Lcodec_Record] [a0] w fun t19 w =>
  wLoad P T_int a2 w fun t20 w =>
  wBin P .leq T_int t19 t20 w fun t21 w =>
  k t21 w

theorem call_codec_each_codec_Record_c1 (a0 a1 a2 : Value) {w : World} {k : Value → World → Prop} (h : F_codec_each_codec_Record_c1 a0 a1 a2 w k) : wCall P n_codec_each_codec_Record_c1 [a0, a1, a2] w k :=
  call_of_den mixedP Try.func286 (by kernel_rfl) (.s .z (.j [] [0, 2] (.s .z (.b (.l [9] [0, 1, 2, 7, 8] .z))) .z)) (by kernel_rfl) (Eq.mp (by kernel_rfl) h)

def F_codec_each_codec_Entry_c1 (a0 a1 a2 : Value) (w : World) (k : Value → World → Prop) : Prop :=
  wJ0 (fun k1 =>
    wLen P .len #[T_Lcodec_Entry] [a0] w fun t8 w =>
    wL1 (.int .i64 0) w (fun _ v9 w k2 =>
      wBin P .lss T_int v9 t8 w fun t10 w =>
      wIf t10 (
        wIndexA P T_Lcodec_Entry a0 v9 w fun t11 w =>
        wLoad P T_codec_Entry t11 w fun t12 w =>
        wAlloc P T_codec_Entry w fun t6 w =>
        wStore P T_codec_Entry t6 t12 w fun w =>
        wLoad P T_func_codec_Entry__bool a1 w fun t13 w =>
        wLoad P T_codec_Entry t6 w fun t14 w =>
        wCallV P t13 [t14] w fun t15 w =>
        wUn P .not t15 w fun t16 w =>
        wIf t16 (
          k (.bool false) w) (
          wBin P .add T_int v9 (.int .i64 1) w fun t17 w =>
          k2 t17 w)) (
        k1 w))) fun _ w =>
  wLen P .len #[T_Lcodec_Entry] [a0] w fun t19 w =>
  wLoad P T_int a2 w fun t20 w =>
  wBin P .leq T_int t19 t20 w fun t21 w =>
  k t21 w

theorem call_codec_each_codec_Entry_c1 (a0 a1 a2 : Value) {w : World} {k : Value → World → Prop} (h : F_codec_each_codec_Entry_c1 a0 a1 a2 w k) : wCall P n_codec_each_codec_Entry_c1 [a0, a1, a2] w k :=
  call_of_den mixedP Try.func287 (by kernel_rfl) (.s .z (.j [] [0, 2] (.s .z (.b (.l [9] [0, 1, 2, 7, 8] .z))) .z)) (by kernel_rfl) (Eq.mp (by kernel_rfl) h)

def F_codec_writer_int (a0 a1 a2 : Value) (w : World) (k : Value → World → Prop) : Prop :=
  wNil P a2 w fun t8 w =>
  wLoad P T_int t8 w fun t9 w =>
  wLen P .max #[T_int, T_int] [t9, (.int .i64 0)] w fun t10 w =>
  wConv P T_int T_uint64 t10 w fun t11 w =>
  wAlloc P T_uint64 w fun t6 w =>
  wStore P T_uint64 t6 t11 w fun w =>
  wNil P a0 w fun t14 w =>
  wFieldA P T_codec_writer t14 1 w fun t15 w =>
  wLoad P T_bool t15 w fun t16 w =>
  wGrp t16 false (fun k21 =>
    wNil P a2 w fun t19 w =>
    wLoad P T_int t19 w fun t20 w =>
    wBin P .lss T_int t20 (.int .i64 0) w fun t21 w =>
    k21 t21 w) w fun _ t21 w =>
  wPick t16 (.bool true) t21 w fun t22 w =>
  wNil P a0 w fun t23 w =>
  wFieldA P T_codec_writer t23 1 w fun t24 w =>
  wStore P T_bool t24 t22 w fun w =>
  wCall P n_codec_writer_wide [a0, a1, t6] w fun _ w =>
  k (.tuple #[]) w

theorem call_codec_writer_int (a0 a1 a2 : Value) {w : World} {k : Value → World → Prop} (h : F_codec_writer_int a0 a1 a2 w k) : wCall P n_codec_writer_int [a0, a1, a2] w k :=
  call_of_den mixedP Try.func315 (by kernel_rfl) (.s .z (.s (.r (.ops [0, 1, 2, 3, 4, 5] (.grp 5 false 21 [18, 19, 20] (.ops [6, 7, 8, 9] .nil) (.ops [10, 11, 12, 13] .nil)))) .z)) (by kernel_rfl) (Eq.mp (by kernel_rfl) h)

def F_codec_writer_more (a0 : Value) (w : World) (k : Value → World → Prop) : Prop :=
  k (.bool false) w

theorem call_codec_writer_more (a0 : Value) {w : World} {k : Value → World → Prop} (h : F_codec_writer_more a0 w k) : wCall P n_codec_writer_more [a0] w k :=
  call_of_den mixedP Try.func316 (by kernel_rfl) .z (by kernel_rfl) (Eq.mp (by kernel_rfl) h)

def F_codec_writer_wide (a0 a1 a2 : Value) (w : World) (k : Value → World → Prop) : Prop :=
  wMake P T_Luint8 a1 a1 w fun t8 w =>
  wJ0 (fun k1 =>
    wNil P a2 w fun t12 w =>
    wLoad P T_uint64 t12 w fun t13 w =>
    wCall P n_num_Put [t8, (.int .i64 0), a1, t13] w fun t14 w =>
    wBin P .neq T_api_Errno t14 (.int .i64 0) w fun t15 w =>
    wIf t15 (
      wNil P a0 w fun t17 w =>
      wFieldA P T_codec_writer t17 1 w fun t18 w =>
      wStore P T_bool t18 (.bool true) w fun w =>
      k1 w) (
      k1 w)) fun _ w =>
  wNil P a0 w fun t21 w =>
  wFieldA P T_codec_writer t21 0 w fun t22 w =>
  wLoad P T_Luint8 t22 w fun t23 w =>
  wBuiltin P .append #[T_Luint8, T_Luint8] [t23, t8] w fun t25 w =>
  wNil P a0 w fun t26 w =>
  wFieldA P T_codec_writer t26 0 w fun t27 w =>
  wStore P T_Luint8 t27 t25 w fun w =>
  k (.tuple #[]) w

theorem call_codec_writer_wide (a0 a1 a2 : Value) {w : World} {k : Value → World → Prop} (h : F_codec_writer_wide a0 a1 a2 w k) : wCall P n_codec_writer_wide [a0, a1, a2] w k :=
  call_of_den mixedP Try.func317 (by kernel_rfl) (.s .z (.j [] [0, 6] .z .z)) (by kernel_rfl) (Eq.mp (by kernel_rfl) h)

def F_codec_writer_word (a0 a1 a2 : Value) (w : World) (k : Value → World → Prop) : Prop :=
  wNil P a2 w fun t8 w =>
  wLoad P T_uint32 t8 w fun t9 w =>
  wConv P T_uint32 T_uint64 t9 w fun t10 w =>
  wAlloc P T_uint64 w fun t6 w =>
  wStore P T_uint64 t6 t10 w fun w =>
  wCall P n_codec_writer_wide [a0, a1, t6] w fun _ w =>
  k (.tuple #[]) w

theorem call_codec_writer_word (a0 a1 a2 : Value) {w : World} {k : Value → World → Prop} (h : F_codec_writer_word a0 a1 a2 w k) : wCall P n_codec_writer_word [a0, a1, a2] w k :=
  call_of_den mixedP Try.func318 (by kernel_rfl) .z (by kernel_rfl) (Eq.mp (by kernel_rfl) h)

def F_codec_reader_int (a0 a1 a2 : Value) (w : World) (k : Value → World → Prop) : Prop :=
  wAlloc P T_uint64 w fun t6 w =>
  wCall P n_codec_reader_wide [a0, a1, t6] w fun _ w =>
  wLoad P T_uint64 t6 w fun t11 w =>
  wConv P T_uint64 T_int t11 w fun t12 w =>
  wNil P a2 w fun t13 w =>
  wStore P T_int t13 t12 w fun w =>
  k (.tuple #[]) w

theorem call_codec_reader_int (a0 a1 a2 : Value) {w : World} {k : Value → World → Prop} (h : F_codec_reader_int a0 a1 a2 w k) : wCall P n_codec_reader_int [a0, a1, a2] w k :=
  call_of_den mixedP Try.func319 (by kernel_rfl) .z (by kernel_rfl) (Eq.mp (by kernel_rfl) h)

def F_codec_reader_more (a0 : Value) (w : World) (k : Value → World → Prop) : Prop :=
  wDraw w fun w =>
  wNil P a0 w fun t4 w =>
  wFieldA P T_codec_reader t4 2 w fun t5 w =>
  wLoad P T_bool t5 w fun t6 w =>
  wUn P .not t6 w fun t7 w =>
  wGrp t7 true (fun k18 =>
    wNil P a0 w fun t10 w =>
    wFieldA P T_codec_reader t10 1 w fun t11 w =>
    wLoad P T_int t11 w fun t12 w =>
    wNil P a0 w fun t14 w =>
    wFieldA P T_codec_reader t14 0 w fun t15 w =>
    wLoad P T_Luint8 t15 w fun t16 w =>
    wLen P .len #[T_Luint8] [t16] w fun t17 w =>
    wBin P .lss T_int t12 t17 w fun t18 w =>
    k18 t18 w) w fun _ t18 w =>
  wPick t7 t18 (.bool false) w fun t19 w =>
  k t19 w

theorem call_codec_reader_more (a0 : Value) {w : World} {k : Value → World → Prop} (h : F_codec_reader_more a0 w k) : wCall P n_codec_reader_more [a0] w k :=
  call_of_den mixedP Try.func320 (by kernel_rfl) (.s .z (.s (.r (.ops [0, 1, 2, 3, 4, 5] (.grp 5 true 18 [9, 10, 11, 12, 13, 14, 15, 16, 17] (.ops [6, 7, 8, 9, 10, 11, 12, 13, 14, 15] .nil) (.ops [16, 17] .nil)))) .z)) (by kernel_rfl) (Eq.mp (by kernel_rfl) h)

def F_codec_reader_wide (a0 a1 a2 : Value) (w : World) (k : Value → World → Prop) : Prop :=
  wDraw w fun w =>
  wNil P a0 w fun t10 w =>
  wFieldA P T_codec_reader t10 0 w fun t11 w =>
  wLoad P T_Luint8 t11 w fun t12 w =>
  wNil P a0 w fun t14 w =>
  wFieldA P T_codec_reader t14 1 w fun t15 w =>
  wLoad P T_int t15 w fun t16 w =>
  wCall P n_num_Get [t12, t16, a1] w fun t18 w =>
  wExtract P t18 0 w fun t19 w =>
  wExtract P t18 1 w fun t20 w =>
  wNil P a2 w fun t23 w =>
  wStore P T_uint64 t23 t19 w fun w =>
  wNil P a0 w fun t26 w =>
  wFieldA P T_codec_reader t26 2 w fun t27 w =>
  wLoad P T_bool t27 w fun t28 w =>
  wGrp t28 false (fun k31 =>
    wBin P .neq T_api_Errno t20 (.int .i64 0) w fun t31 w =>
    k31 t31 w) w fun _ t31 w =>
  wPick t28 (.bool true) t31 w fun t32 w =>
  wNil P a0 w fun t33 w =>
  wFieldA P T_codec_reader t33 2 w fun t34 w =>
  wStore P T_bool t34 t32 w fun w =>
  wNil P a0 w fun t36 w =>
  wFieldA P T_codec_reader t36 1 w fun t37 w =>
  wLoad P T_int t37 w fun t38 w =>
  wBin P .add T_int t38 a1 w fun t40 w =>
  wNil P a0 w fun t41 w =>
  wFieldA P T_codec_reader t41 1 w fun t42 w =>
  wStore P T_int t42 t40 w fun w =>
  k (.tuple #[]) w

theorem call_codec_reader_wide (a0 a1 a2 : Value) {w : World} {k : Value → World → Prop} (h : F_codec_reader_wide a0 a1 a2 w k) : wCall P n_codec_reader_wide [a0, a1, a2] w k :=
  call_of_den mixedP Try.func321 (by kernel_rfl) (.s (.r (.ops [0, 1, 2, 3, 4, 5, 6, 7, 8] (.eff 9 [] (.ops [10, 11, 12, 13, 14] .nil)))) (.s .z (.s (.r (.ops [0, 1, 2, 3, 4, 5] (.grp 5 false 31 [30] (.ops [6, 7] .nil) (.ops [8, 9, 10, 11] .nil)))) .z))) (by kernel_rfl) (Eq.mp (by kernel_rfl) h)

def F_codec_reader_word (a0 a1 a2 : Value) (w : World) (k : Value → World → Prop) : Prop :=
  wAlloc P T_uint64 w fun t6 w =>
  wCall P n_codec_reader_wide [a0, a1, t6] w fun _ w =>
  wLoad P T_uint64 t6 w fun t11 w =>
  wConv P T_uint64 T_uint32 t11 w fun t12 w =>
  wNil P a2 w fun t13 w =>
  wStore P T_uint32 t13 t12 w fun w =>
  k (.tuple #[]) w

theorem call_codec_reader_word (a0 a1 a2 : Value) {w : World} {k : Value → World → Prop} (h : F_codec_reader_word a0 a1 a2 w k) : wCall P n_codec_reader_word [a0, a1, a2] w k :=
  call_of_den mixedP Try.func322 (by kernel_rfl) .z (by kernel_rfl) (Eq.mp (by kernel_rfl) h)

end Go.Dn
end
section
/-! Texts of functions, printed by mkg.py. -/
set_option maxRecDepth 100000
set_option linter.unusedVariables false
namespace Go.Dn
open Go Go.Proofs
def F_num_Writer_Num (a0 a1 a2 : Value) (w : World) (k : Value → World → Prop) : Prop :=
  wJ0 (fun k1 =>
    wNil P a0 w fun t7 w =>
    wFieldA P T_num_Writer t7 2 w fun t8 w =>
    wLoad P T_api_Errno t8 w fun t9 w =>
    wBin P .eql T_api_Errno t9 (.int .i64 0) w fun t10 w =>
    wIf t10 (
      wDraw w fun w =>
      wNil P a0 w fun t13 w =>
      wFieldA P T_num_Writer t13 0 w fun t14 w =>
      wSlice P T_api_Sector t14 none none none w fun t15 w =>
      wNil P a0 w fun t17 w =>
      wFieldA P T_num_Writer t17 1 w fun t18 w =>
      wLoad P T_int t18 w fun t19 w =>
      wCall P n_num_Put [t15, t19, a1, a2] w fun t22 w =>
      wNil P a0 w fun t23 w =>
      wFieldA P T_num_Writer t23 2 w fun t24 w =>
      wStore P T_api_Errno t24 t22 w fun w =>
      k1 w) (
      k1 w)) fun _ w =>
  wNil P a0 w fun t26 w =>
  wFieldA P T_num_Writer t26 2 w fun t27 w =>
  wLoad P T_api_Errno t27 w fun t28 w =>
  wBin P .eql T_api_Errno t28 (.int .i64 0) w fun t29 w =>
  wIf t29 (
    wNil P a0 w fun t31 w =>
    wFieldA P T_num_Writer t31 1 w fun t32 w =>
    wLoad P T_int t32 w fun t33 w =>
    wBin P .add T_int t33 a1 w fun t35 w =>
    wNil P a0 w fun t36 w =>
    wFieldA P T_num_Writer t36 1 w fun t37 w =>
    wStore P T_int t37 t35 w fun w =>
    k (.tuple #[]) w) (
    k (.tuple #[]) w)

theorem call_num_Writer_Num (a0 a1 a2 : Value) {w : World} {k : Value → World → Prop} (h : F_num_Writer_Num a0 a1 a2 w k) : wCall P n_num_Writer_Num [a0, a1, a2] w k :=
  call_of_den mixedP Try.func179 (by kernel_rfl) (.j [] [0, 1] (.s .z (.s (.r (.ops [0, 1, 2, 3, 4, 5, 6, 7, 8, 9, 10] (.eff 11 [] (.ops [12, 13] (.eff 14 [] .nil))))) .z)) .z) (by kernel_rfl) (Eq.mp (by kernel_rfl) h)

def F_num_Writer_Sector (a0 : Value) (w : World) (k : Value → World → Prop) : Prop :=
  wAlloc P T_api_Sector w fun t2 w =>
  wNil P a0 w fun t5 w =>
  wFieldA P T_num_Writer t5 2 w fun t6 w =>
  wLoad P T_api_Errno t6 w fun t7 w =>
  wBin P .neq T_api_Errno t7 (.int .i64 0) w fun t8 w =>
  wIf t8 (
    wDraw w fun w =>
    wBuild P T_api_Sector [] w fun t9 w =>
    wNil P a0 w fun t11 w =>
    wFieldA P T_num_Writer t11 2 w fun t12 w =>
    wLoad P T_api_Errno t12 w fun t13 w =>
    wStore P T_api_Sector t2 t9 w fun w =>
    wKeep P [(T_api_Errno, t12, t13)] w ∧ wRes P T_api_Sector t2 w fun r2 =>
    k (.tuple #[r2, t13]) w) (
    wNil P a0 w fun t15 w =>
    wFieldA P T_num_Writer t15 0 w fun t16 w =>
    wLoad P T_api_Sector t16 w fun t17 w =>
    wStore P T_api_Sector t2 t17 w fun w =>
    wRes P T_api_Sector t2 w fun r2 =>
    k (.tuple #[r2, (.int .i64 0)]) w)

theorem call_num_Writer_Sector (a0 : Value) {w : World} {k : Value → World → Prop} (h : F_num_Writer_Sector a0 w k) : wCall P n_num_Writer_Sector [a0] w k :=
  call_of_den mixedP Try.func180 (by kernel_rfl) (.s .z (.s (.s .z (.s (.s (.r (.ops [0, 1, 2, 3, 4] (.eff 5 [4] (.ops [6] .nil)))) .z) .z)) .z)) (by kernel_rfl) (Eq.mp (by kernel_rfl) h)

def F_num_Read (a0 : Value) (w : World) (k : Value → World → Prop) : Prop :=
  wBox P T_api_Sector a0 w fun t1 w =>
  wLoad P T_api_Sector t1 w fun t3 w =>
  wBuild P T_num_Reader [(0, t3)] w fun t4 w =>
  wBox P T_num_Reader t4 w fun t5 w =>
  k t5 w

theorem call_num_Read (a0 : Value) {w : World} {k : Value → World → Prop} (h : F_num_Read a0 w k) : wCall P n_num_Read [a0] w k :=
  call_of_den mixedP Try.func181 (by kernel_rfl) .z (by kernel_rfl) (Eq.mp (by kernel_rfl) h)

def F_num_Reader_Num (a0 a1 : Value) (w : World) (k : Value → World → Prop) : Prop :=
  wNil P a0 w fun t8 w =>
  wFieldA P T_num_Reader t8 2 w fun t9 w =>
  wLoad P T_api_Errno t9 w fun t10 w =>
  wBin P .neq T_api_Errno t10 (.int .i64 0) w fun t11 w =>
  wIf t11 (
    k (.int .u64 0) w) (
    wDraw w fun w =>
    wNil P a0 w fun t14 w =>
    wFieldA P T_num_Reader t14 0 w fun t15 w =>
    wSlice P T_api_Sector t15 none none none w fun t16 w =>
    wNil P a0 w fun t18 w =>
    wFieldA P T_num_Reader t18 1 w fun t19 w =>
    wLoad P T_int t19 w fun t20 w =>
    wCall P n_num_Get [t16, t20, a1] w fun t22 w =>
    wExtract P t22 0 w fun t23 w =>
    wExtract P t22 1 w fun t24 w =>
    wNil P a0 w fun t27 w =>
    wFieldA P T_num_Reader t27 2 w fun t28 w =>
    wStore P T_api_Errno t28 t24 w fun w =>
    wBin P .eql T_api_Errno t24 (.int .i64 0) w fun t30 w =>
    wIf t30 (
      wNil P a0 w fun t32 w =>
      wFieldA P T_num_Reader t32 1 w fun t33 w =>
      wLoad P T_int t33 w fun t34 w =>
      wBin P .add T_int t34 a1 w fun t36 w =>
      wNil P a0 w fun t37 w =>
      wFieldA P T_num_Reader t37 1 w fun t38 w =>
      wStore P T_int t38 t36 w fun w =>
      k t23 w) (
      k t23 w))

theorem call_num_Reader_Num (a0 a1 : Value) {w : World} {k : Value → World → Prop} (h : F_num_Reader_Num a0 a1 w k) : wCall P n_num_Reader_Num [a0, a1] w k :=
  call_of_den mixedP Try.func182 (by kernel_rfl) (.s .z (.s .z (.s (.r (.ops [0, 1, 2, 3, 4, 5, 6, 7, 8] (.eff 9 [] (.ops [10, 11, 12, 13, 14] .nil)))) .z))) (by kernel_rfl) (Eq.mp (by kernel_rfl) h)

def F_num_Put (a0 a1 a2 a3 : Value) (w : World) (k : Value → World → Prop) : Prop :=
  wCall P n_num_fits [a0, a1, a2] w fun t13 w =>
  wUn P .not t13 w fun t14 w =>
  wGrp t14 false (fun k24 =>
    wBin P .lss T_int a2 (.int .i64 8) w fun t17 w =>
    wGrp t17 true (fun k23 =>
      wBin P .mul T_int (.int .i64 8) a2 w fun t21 w =>
      wBin P .shr T_uint64 a3 t21 w fun t22 w =>
      wBin P .neq T_uint64 t22 (.int .u64 0) w fun t23 w =>
      k23 t23 w) w fun _ t23 w =>
    wPick t17 t23 (.bool false) w fun t24 w =>
    k24 t24 w) w fun _ t24 w =>
  wPick t14 (.bool true) t24 w fun t25 w =>
  wIf t25 (
    k (.int .i64 1) w) (
    wL1 (.int .i64 0) w (fun _ v27 w k2 =>
      wBin P .lss T_int v27 a2 w fun t28 w =>
      wIf t28 (
        wBin P .add T_int a1 v27 w fun t33 w =>
        wBin P .mul T_int (.int .i64 8) v27 w fun t36 w =>
        wBin P .shr T_uint64 a3 t36 w fun t37 w =>
        wConv P T_uint64 T_uint8 t37 w fun t38 w =>
        wIndexA P T_Luint8 a0 t33 w fun t39 w =>
        wStore P T_uint8 t39 t38 w fun w =>
        wBin P .add T_int v27 (.int .i64 1) w fun t40 w =>
        k2 t40 w) (
        k (.int .i64 0) w)))

theorem call_num_Put (a0 a1 a2 a3 : Value) {w : World} {k : Value → World → Prop} (h : F_num_Put a0 a1 a2 a3 w k) : wCall P n_num_Put [a0, a1, a2, a3] w k :=
  call_of_den mixedP Try.func244 (by kernel_rfl) (.s .z (.s (.s (.r (.ops [0, 1, 2, 3, 4, 5] (.grp 5 false 24 [16, 17, 18, 19, 20, 21, 22, 23] (.ops [6, 7, 8] (.grp 8 true 23 [19, 20, 21, 22] (.ops [9, 10, 11, 12, 13] .nil) (.ops [14] .nil))) (.ops [15] .nil)))) .z) (.s (.s .z (.b (.l [27] [0, 1, 3, 26] .z))) .z))) (by kernel_rfl) (Eq.mp (by kernel_rfl) h)

def F_num_Get (a0 a1 a2 : Value) (w : World) (k : Value → World → Prop) : Prop :=
  wCall P n_num_fits [a0, a1, a2] w fun t13 w =>
  wUn P .not t13 w fun t14 w =>
  wIf t14 (
    k (.tuple #[(.int .u64 0), (.int .i64 1)]) w) (
    wL2 (.int .u64 0) (.int .i64 0) w (fun _ v8 v16 w k2 =>
      wBin P .lss T_int v16 a2 w fun t17 w =>
      wIf t17 (
        wBin P .add T_int a1 v16 w fun t23 w =>
        wIndexA P T_Luint8 a0 t23 w fun t24 w =>
        wLoad P T_uint8 t24 w fun t25 w =>
        wConv P T_uint8 T_uint64 t25 w fun t26 w =>
        wBin P .mul T_int (.int .i64 8) v16 w fun t28 w =>
        wBin P .shl T_uint64 t26 t28 w fun t29 w =>
        wBin P .or T_uint64 v8 t29 w fun t30 w =>
        wBin P .add T_int v16 (.int .i64 1) w fun t31 w =>
        k2 t30 t31 w) (
        k (.tuple #[v8, (.int .i64 0)]) w)))

theorem call_num_Get (a0 a1 a2 : Value) {w : World} {k : Value → World → Prop} (h : F_num_Get a0 a1 a2 w k) : wCall P n_num_Get [a0, a1, a2] w k :=
  call_of_den mixedP Try.func245 (by kernel_rfl) (.s .z (.s .z (.s .z (.s (.s .z (.b (.l [8, 16] [0, 1, 15] .z))) .z)))) (by kernel_rfl) (Eq.mp (by kernel_rfl) h)

def F_num_Writer_Bytes (a0 a1 a2 : Value) (w : World) (k : Value → World → Prop) : Prop :=
  wJ0 (fun k1 =>
    wNil P a0 w fun t7 w =>
    wFieldA P T_num_Writer t7 2 w fun t8 w =>
    wLoad P T_api_Errno t8 w fun t9 w =>
    wBin P .eql T_api_Errno t9 (.int .i64 0) w fun t10 w =>
    wGrp t10 true (fun k24 =>
      wLen P .len #[T_Luint8] [a2] w fun t14 w =>
      wBin P .lss T_int a1 t14 w fun t15 w =>
      wGrp t15 false (fun k23 =>
        wNil P a0 w fun t19 w =>
        wFieldA P T_num_Writer t19 1 w fun t20 w =>
        wLoad P T_int t20 w fun t21 w =>
        wBin P .sub T_int (.int .i64 128) t21 w fun t22 w =>
        wBin P .gtr T_int a1 t22 w fun t23 w =>
        k23 t23 w) w fun _ t23 w =>
      wPick t15 (.bool true) t23 w fun t24 w =>
      k24 t24 w) w fun _ t24 w =>
    wPick t10 t24 (.bool false) w fun t25 w =>
    wIf t25 (
      wNil P a0 w fun t27 w =>
      wFieldA P T_num_Writer t27 2 w fun t28 w =>
      wStore P T_api_Errno t28 (.int .i64 1) w fun w =>
      k1 w) (
      k1 w)) fun _ w =>
  wNil P a0 w fun t30 w =>
  wFieldA P T_num_Writer t30 2 w fun t31 w =>
  wLoad P T_api_Errno t31 w fun t32 w =>
  wBin P .eql T_api_Errno t32 (.int .i64 0) w fun t33 w =>
  wIf t33 (
    wDraw w fun w =>
    wNil P a0 w fun t35 w =>
    wFieldA P T_num_Writer t35 0 w fun t36 w =>
    wNil P a0 w fun t38 w =>
    wFieldA P T_num_Writer t38 1 w fun t39 w =>
    wLoad P T_int t39 w fun t40 w =>
    wSlice P T_api_Sector t36 (some t40) none none w fun t41 w =>
    wBuiltin P .copy #[T_Luint8, T_Luint8] [t41, a2] w fun _ w =>
    wNil P a0 w fun t45 w =>
    wFieldA P T_num_Writer t45 1 w fun t46 w =>
    wLoad P T_int t46 w fun t47 w =>
    wBin P .add T_int t47 a1 w fun t49 w =>
    wNil P a0 w fun t50 w =>
    wFieldA P T_num_Writer t50 1 w fun t51 w =>
    wStore P T_int t51 t49 w fun w =>
    k (.tuple #[]) w) (
    k (.tuple #[]) w)

theorem call_num_Writer_Bytes (a0 a1 a2 : Value) {w : World} {k : Value → World → Prop} (h : F_num_Writer_Bytes a0 a1 a2 w k) : wCall P n_num_Writer_Bytes [a0, a1, a2] w k :=
  call_of_den mixedP Try.func278 (by kernel_rfl) (.j [] [0, 1, 2] (.s (.r (.ops [0, 1, 2, 3, 4, 5] (.grp 5 true 24 [12, 13, 14, 15, 16, 17, 18, 19, 20, 21, 22, 23] (.ops [6, 7, 8, 9, 10] (.grp 10 false 23 [17, 18, 19, 20, 21, 22] (.ops [11, 12, 13, 14, 15, 16, 17] .nil) (.ops [18] .nil))) (.ops [19] .nil)))) .z) (.s .z (.s (.s (.r (.ops [0, 1, 2, 3, 4, 5, 6, 7, 8] (.eff 9 [] .nil))) .z) .z))) (by kernel_rfl) (Eq.mp (by kernel_rfl) h)

def F_num_Reader_Bytes (a0 a1 : Value) (w : World) (k : Value → World → Prop) : Prop :=
  wJ0 (fun k1 =>
    wNil P a0 w fun t6 w =>
    wFieldA P T_num_Reader t6 2 w fun t7 w =>
    wLoad P T_api_Errno t7 w fun t8 w =>
    wBin P .eql T_api_Errno t8 (.int .i64 0) w fun t9 w =>
    wGrp t9 true (fun k18 =>
      wBin P .lss T_int a1 (.int .i64 0) w fun t12 w =>
      wGrp t12 false (fun k17 =>
        wCall P n_num_Reader_Left [a0] w fun t16 w =>
        wBin P .gtr T_int a1 t16 w fun t17 w =>
        k17 t17 w) w fun _ t17 w =>
      wPick t12 (.bool true) t17 w fun t18 w =>
      k18 t18 w) w fun _ t18 w =>
    wPick t9 t18 (.bool false) w fun t19 w =>
    wIf t19 (
      wNil P a0 w fun t21 w =>
      wFieldA P T_num_Reader t21 2 w fun t22 w =>
      wStore P T_api_Errno t22 (.int .i64 1) w fun w =>
      k1 w) (
      k1 w)) fun _ w =>
  wNil P a0 w fun t24 w =>
  wFieldA P T_num_Reader t24 2 w fun t25 w =>
  wLoad P T_api_Errno t25 w fun t26 w =>
  wBin P .neq T_api_Errno t26 (.int .i64 0) w fun t27 w =>
  wIf t27 (
    k (.slice none 0 0) w) (
    wNil P a0 w fun t29 w =>
    wFieldA P T_num_Reader t29 1 w fun t30 w =>
    wLoad P T_int t30 w fun t31 w =>
    wBin P .add T_int t31 a1 w fun t33 w =>
    wNil P a0 w fun t34 w =>
    wFieldA P T_num_Reader t34 1 w fun t35 w =>
    wStore P T_int t35 t33 w fun w =>
    wDraw w fun w =>
    wNil P a0 w fun t37 w =>
    wFieldA P T_num_Reader t37 0 w fun t38 w =>
    wNil P a0 w fun t40 w =>
    wFieldA P T_num_Reader t40 1 w fun t41 w =>
    wLoad P T_int t41 w fun t42 w =>
    wBin P .sub T_int t42 a1 w fun t44 w =>
    wNil P a0 w fun t46 w =>
    wFieldA P T_num_Reader t46 1 w fun t47 w =>
    wLoad P T_int t47 w fun t48 w =>
    wSlice P T_api_Sector t38 (some t44) (some t48) none w fun t49 w =>
    wBuiltin P .append #[T_Luint8, T_Luint8] [(.slice none 0 0), t49] w fun t50 w =>
    k t50 w)

theorem call_num_Reader_Bytes (a0 a1 : Value) {w : World} {k : Value → World → Prop} (h : F_num_Reader_Bytes a0 a1 w k) : wCall P n_num_Reader_Bytes [a0, a1] w k :=
  call_of_den mixedP Try.func281 (by kernel_rfl) (.s .z (.j [] [0, 1] (.s (.r (.ops [0, 1, 2, 3, 4, 5] (.grp 5 true 18 [11, 12, 13, 14, 15, 16, 17] (.ops [6, 7, 8] (.grp 8 false 17 [14, 15, 16] (.ops [9, 10, 11, 12] .nil) (.ops [13] .nil))) (.ops [14] .nil)))) .z) (.s .z (.s .z (.s (.r (.ops [0, 1, 2, 3, 4, 5, 6, 7, 8, 9, 10, 11, 12, 13] (.eff 14 [] (.ops [15] .nil)))) .z))))) (by kernel_rfl) (Eq.mp (by kernel_rfl) h)

def F_num_fits (a0 a1 a2 : Value) (w : World) (k : Value → World → Prop) : Prop :=
  wBin P .geq T_int a2 (.int .i64 1) w fun t8 w =>
  wGrp t8 true (fun k11 =>
    wBin P .leq T_int a2 (.int .i64 8) w fun t11 w =>
    k11 t11 w) w fun _ t11 w =>
  wPick t8 t11 (.bool false) w fun t12 w =>
  wGrp t12 true (fun k15 =>
    wBin P .geq T_int a1 (.int .i64 0) w fun t15 w =>
    k15 t15 w) w fun _ t15 w =>
  wPick t12 t15 (.bool false) w fun t16 w =>
  wGrp t16 true (fun k21 =>
    wLen P .len #[T_Luint8] [a0] w fun t20 w =>
    wBin P .leq T_int a1 t20 w fun t21 w =>
    k21 t21 w) w fun _ t21 w =>
  wPick t16 t21 (.bool false) w fun t22 w =>
  wGrp t22 true (fun k29 =>
    wLen P .len #[T_Luint8] [a0] w fun t25 w =>
    wBin P .sub T_int t25 a1 w fun t27 w =>
    wBin P .geq T_int t27 a2 w fun t29 w =>
    k29 t29 w) w fun _ t29 w =>
  wPick t22 t29 (.bool false) w fun t30 w =>
  k t30 w

theorem call_num_fits (a0 a1 a2 : Value) {w : World} {k : Value → World → Prop} (h : F_num_fits a0 a1 a2 w k) : wCall P n_num_fits [a0, a1, a2] w k :=
  call_of_den mixedP Try.func284 (by kernel_rfl) (.s .z (.s (.r (.ops [0, 1, 2] (.grp 2 true 11 [10] (.ops [3, 4] .nil) (.ops [5, 6] (.grp 6 true 15 [14] (.ops [7, 8] .nil) (.ops [9, 10] (.grp 10 true 21 [18, 19, 20] (.ops [11, 12, 13, 14] .nil) (.ops [15, 16] (.grp 16 true 29 [24, 25, 26, 27, 28] (.ops [17, 18, 19, 20, 21, 22] .nil) (.ops [23, 24] .nil)))))))))) .z)) (by kernel_rfl) (Eq.mp (by kernel_rfl) h)

def F_num_Reader_Left (a0 : Value) (w : World) (k : Value → World → Prop) : Prop :=
  wNil P a0 w fun t4 w =>
  wFieldA P T_num_Reader t4 1 w fun t5 w =>
  wLoad P T_int t5 w fun t6 w =>
  wBin P .sub T_int (.int .i64 128) t6 w fun t7 w =>
  k t7 w

theorem call_num_Reader_Left (a0 : Value) {w : World} {k : Value → World → Prop} (h : F_num_Reader_Left a0 w k) : wCall P n_num_Reader_Left [a0] w k :=
  call_of_den mixedP Try.func294 (by kernel_rfl) .z (by kernel_rfl) (Eq.mp (by kernel_rfl) h)

end Go.Dn
end
