import Derived.Test.YtflnhihdbhjlnaaMem
/-! Addresses, slices, appends. -/
set_option linter.unusedVariables false
set_option linter.unusedSimpArgs false
namespace Go.Dn
open Go Go.RowKit
attribute [local semireducible] wCall wCallV wInvoke callW wNext wLoad wStore wBox wAlloc wBuild wBuildS wBin wBinF wUn wConv wIface wFunc wMakeMap wMake wSlice wFieldA wField wIndexA wIndex wLookup wMapSet wExtract wLen wBuiltin wRange wNextI wEntry wNil wOther wKeep

theorem add_pl (b o n : Nat) : (⟨b, o, none⟩ : Addr).add n = ⟨b, o + n, none⟩ := by
  unfold Addr.add
  split
  · rename_i h; subst h; rfl
  · rfl
def fldT (P : Program) (s : TypeId) (f : Nat) : Option Nat :=
  match P.underlying s with
  | some (.struct fs) => (match fs[f]? with
    | some fl => (match P.info? fl.type with
      | some i => bif Nat.beq i.size 0 then none else some fl.offset
      | none => none)
    | none => none)
  | _ => none
def slT (P : Program) (t : TypeId) : Option Nat :=
  match P.underlying t with
  | some (.slice e) => (match P.info? e with
    | some i => some i.size
    | none => none)
  | _ => none
def arT (P : Program) (t : TypeId) : Option (Nat × Nat) :=
  match P.underlying t with
  | some (.array n e) => (match P.info? e with
    | some i => bif Nat.ble n 1 then none else some (n, i.size)
    | none => none)
  | _ => none
section addrs
variable {P : Program} {t : TypeId} {w : World} {K : Value → World → Prop}
theorem und_run {d : TypeDesc} (h : P.underlying t = some d) (w : World) : (underlying t).run P w = .ok d w := by
  unfold underlying program
  simp [Sem.run_bind, Sem.run, h]
theorem fieldA_i {f off b o : Nat} (h : fldT P t f = some off) : wFieldA P t (.pointer (some ⟨b, o, none⟩)) f w K = K (.pointer (some ⟨b, o + off, none⟩)) w := by
  refine pureW_eq (fun w' => ?_) w K
  unfold fldT at h
  split at h
  · rename_i fs hu
    split at h
    · rename_i fl hf
      split at h
      · rename_i i hi
        cases hz : Nat.beq i.size 0
        · rw [hz] at h
          simp only [cond_false, Option.some.injEq] at h
          subst h
          unfold Instr.fieldAt fieldPlace
          simp only [Sem.run_bind, und_run hu, Result.andThen_ok, hf, Instr.sureAddr, Sem.run_pure, sizeOf_run hi]
          have : ¬ i.size = 0 := fun h0 => by rw [h0] at hz; cases hz
          rw [if_neg this, add_pl]
          rfl
        · rw [hz] at h; cases h
      · cases h
    · cases h
  · cases h
theorem indexS_i {size b o n c : Nat} {i : Int} {k : IntKind} (h : slT P t = some size) (h0 : 0 ≤ i) (h1 : i < n) :
    wIndexA P t (.slice (some ⟨b, o, none⟩) n c) (.int k i) w K = K (.pointer (some ⟨b, o + i.toNat * size, none⟩)) w := by
  refine pureW_eq (fun w' => ?_) w K
  unfold slT at h
  split at h
  · rename_i e hu
    split at h
    · rename_i inf hi
      injection h with h
      subst h
      unfold Instr.indexAt
      simp only [Sem.run_bind, asIntOf, Sem.run_pure, Result.andThen_ok, und_run hu]
      rw [if_pos ⟨h0, h1⟩]
      simp only [Sem.run_bind, sizeOf_run hi, Result.andThen_ok, add_pl]
      rfl
    · cases h
  · cases h
theorem indexA_i {len size b o : Nat} {i : Int} {k : IntKind} (h : arT P t = some (len, size)) (h0 : 0 ≤ i) (h1 : i < len) :
    wIndexA P t (.pointer (some ⟨b, o, none⟩)) (.int k i) w K = K (.pointer (some ⟨b, o + i.toNat * size, none⟩)) w := by
  refine pureW_eq (fun w' => ?_) w K
  unfold arT at h
  split at h
  · rename_i n e hu
    split at h
    · rename_i inf hi
      cases hn : Nat.ble n 1
      · rw [hn] at h
        simp only [cond_false, Option.some.injEq, Prod.mk.injEq] at h
        obtain ⟨rfl, rfl⟩ := h
        unfold Instr.indexAt
        simp only [Sem.run_bind, asIntOf, Sem.run_pure, Result.andThen_ok, und_run hu, Instr.sureAddr]
        rw [if_pos ⟨h0, h1⟩]
        simp only [Sem.run_bind, sizeOf_run hi, Result.andThen_ok, add_pl]
        rfl
      · rw [hn] at h; cases h
    · cases h
  · cases h

/-- A slice (of elements of 'size' cells) whose cells are xs. -/
def SlG (w : World) (size : Nat) (v : Value) (xs : List Value) : Prop :=
  ∃ A n c, v = .slice A n c ∧ xs.length = n * size ∧ n ≤ c ∧ (n ≠ 0 → ∃ b o, A = some ⟨b, o, none⟩ ∧ Cs w b o xs)
theorem SlG.nil (w : World) (size : Nat) : SlG w size (.slice none 0 0) [] := ⟨none, 0, 0, rfl, by simp, Nat.le_refl _, fun h => absurd rfl h⟩
theorem SlG.ex {S : List Nat} {w w' : World} {size : Nat} {v : Value} {xs : List Value} (h : SlG w size v xs) (hx : Ex S w w') (hs : ∀ g, v.ownBlock = some g → g ∉ S) : SlG w' size v xs := by
  obtain ⟨A, n, c, rfl, hl, hc, hr⟩ := h
  refine ⟨A, n, c, rfl, hl, hc, fun hn => ?_⟩
  obtain ⟨b, o, rfl, hcs⟩ := hr hn
  exact ⟨b, o, rfl, hcs.ex hx (hs b rfl)⟩
theorem SlG.ex0 {w w' : World} {size : Nat} {v : Value} {xs : List Value} (h : SlG w size v xs) (hx : Ex [] w w') : SlG w' size v xs := h.ex hx (by simp)
theorem SlG.drew {w : World} {size : Nat} {v : Value} {xs : List Value} (h : SlG w size v xs) : SlG w.drew size v xs := h
theorem SlG.of_cs {w : World} {b o n c size : Nat} {xs : List Value} (h : Cs w b o xs) (hl : xs.length = n * size) (hc : n ≤ c) : SlG w size (.slice (some ⟨b, o, none⟩) n c) xs :=
  ⟨_, n, c, rfl, hl, hc, fun _ => ⟨b, o, rfl, h⟩⟩
theorem SlG.of_own {w : World} {base size n : Nat} {e : TypeId} {v : Value} {xs : List Value} (h : w.ownsRow base e size v n xs) : SlG w size v xs := by
  obtain ⟨hl, h⟩ := h
  rcases h with ⟨rfl, rfl⟩ | ⟨g, cap, cur, rfl, _, hh, hnc, _, _, htk⟩
  · have : xs = [] := List.eq_nil_of_length_eq_zero (by simpa using hl)
    subst this
    exact SlG.nil w size
  · refine SlG.of_cs (fun i v hv => ?_) hl hnc
    have hb : Blk w g e cur.toList := hh
    rw [Nat.zero_add, hb.cell, ← htk, List.getElem?_take] at *
    split at hv
    · exact hv
    · cases hv
theorem SlG.len_i {w : World} {K : Value → World → Prop} {e : TypeId} {size : Nat} {v : Value} {xs : List Value} {n : Nat} (h : SlG w size v xs) (ht : P.underlying t = some (.slice e)) (hs : 0 < size) (hn : xs.length = n * size) :
    wLen P .len #[t] [v] w K = K (.int .i64 n) w := by
  obtain ⟨A, m, c, rfl, hl, _, _⟩ := h
  rw [len_s ht]
  have : m = n := Nat.eq_of_mul_eq_mul_right hs (hl.symm.trans hn)
  rw [this]
theorem SlG.ix {size : Nat} {v : Value} {xs : List Value} {i : Int} {k : IntKind} {n : Nat} (h : SlG w size v xs) (ht : slT P t = some size) (hs : 0 < size) (hn : xs.length = n * size) (h0 : 0 ≤ i) (h1 : i < n)
    (hk : ∀ b o, Cs w b o ((xs.drop (i.toNat * size)).take size) → K (.pointer (some ⟨b, o, none⟩)) w) : wIndexA P t v (.int k i) w K := by
  obtain ⟨A, m, c, rfl, hl, _, hr⟩ := h
  have : m = n := Nat.eq_of_mul_eq_mul_right hs (hl.symm.trans hn)
  subst this
  obtain ⟨b, o, rfl, hc⟩ := hr (by omega)
  rw [indexS_i ht h0 h1]
  exact hk _ _ (hc.sub _ _)
/-- Of elements of one cell. -/
theorem SlG.ix1 {v : Value} {xs : List Value} {i : Int} {k : IntKind} {x : Value} (h : SlG w 1 v xs) (ht : slT P t = some 1) (h0 : 0 ≤ i) (hx : xs[i.toNat]? = some x)
    (hk : ∀ a, w.cell? a = some x → K (.pointer (some a)) w) : wIndexA P t v (.int k i) w K := by
  have hlt := (List.getElem?_eq_some_iff.1 hx).1
  refine h.ix (n := xs.length) ht (by omega) (by omega) h0 (by omega) fun b o hc => hk _ ?_
  refine hc 0 x ?_
  rw [List.getElem?_take, if_pos (by omega), List.getElem?_drop, Nat.mul_one]
  exact hx

/-! Slicing. -/
theorem bound_run {x : Int} {k : IntKind} {y : Nat} {c : BoundsCode} (h0 : 0 ≤ x) (h1 : x ≤ y) (w : World) : (Instr.sliceBound (.int k x) y c).run P w = .ok x.toNat w := by
  unfold Instr.sliceBound
  simp only [Sem.run_bind, asIntOf, Sem.run_pure, Result.andThen_ok]
  rw [if_pos ⟨h0, h1⟩]
  rfl
theorem sliceS_lo {size n c : Nat} {A : Option Addr} {i : Int} {k : IntKind} (h : slT P t = some size) (h0 : 0 ≤ i) (h1 : i ≤ n) :
    wSlice P t (.slice A n c) (some (.int k i)) none none w K = K (.slice (if c = i.toNat then A else A.map (·.add (i.toNat * size))) (n - i.toNat) (c - i.toNat)) w := by
  refine pureW_eq (fun w' => ?_) w K
  unfold slT at h
  split at h
  · rename_i e hu
    split at h
    · rename_i inf hi
      injection h with h
      subst h
      unfold Instr.sliceAt Instr.slice Instr.sliceBounds
      simp [Sem.run_bind, und_run hu, bound_run h0 h1, sizeOf_run hi]
    · cases h
  · cases h
theorem sliceS_hi {size n c : Nat} {A : Option Addr} {i : Int} {k : IntKind} (h : slT P t = some size) (h0 : 0 ≤ i) (h1 : i ≤ c) :
    wSlice P t (.slice A n c) none (some (.int k i)) none w K = K (.slice A i.toNat c) w := by
  refine pureW_eq (fun w' => ?_) w K
  unfold slT at h
  split at h
  · rename_i e hu
    split at h
    · rename_i inf hi
      unfold Instr.sliceAt Instr.slice Instr.sliceBounds
      simp only [Sem.run_bind, und_run hu, bound_run h0 h1, sizeOf_run hi, Result.andThen_ok, Sem.run_pure, Nat.sub_zero, Nat.zero_mul]
      congr 2
      split
      · rfl
      · cases A with
        | none => rfl
        | some a => simp [Addr.add]
    · cases h
  · cases h
theorem sliceS_lohi {size n c : Nat} {A : Option Addr} {i j : Int} {k k' : IntKind} (h : slT P t = some size) (h0 : 0 ≤ i) (h1 : i ≤ j) (h2 : j ≤ c) :
    wSlice P t (.slice A n c) (some (.int k i)) (some (.int k' j)) none w K = K (.slice (if c = i.toNat then A else A.map (·.add (i.toNat * size))) (j.toNat - i.toNat) (c - i.toNat)) w := by
  refine pureW_eq (fun w' => ?_) w K
  have hj : i ≤ (j.toNat : Int) := by omega
  unfold slT at h
  split at h
  · rename_i e hu
    split at h
    · rename_i inf hi
      injection h with h
      subst h
      unfold Instr.sliceAt Instr.slice Instr.sliceBounds
      simp [Sem.run_bind, und_run hu, bound_run (P := P) (Int.le_trans h0 h1) h2, bound_run (P := P) h0 hj, sizeOf_run hi]
    · cases h
  · cases h
theorem sliceA_all {len size b o : Nat} (h : arT P t = some (len, size)) : wSlice P t (.pointer (some ⟨b, o, none⟩)) none none none w K = K (.slice (some ⟨b, o, none⟩) len len) w := by
  refine pureW_eq (fun w' => ?_) w K
  unfold arT at h
  split at h
  · rename_i n e hu
    split at h
    · rename_i inf hi
      cases hn : Nat.ble n 1
      · rw [hn] at h
        simp only [cond_false, Option.some.injEq, Prod.mk.injEq] at h
        obtain ⟨rfl, rfl⟩ := h
        unfold Instr.sliceAt Instr.sliceBounds
        simp only [Sem.run_bind, und_run hu, Instr.sureAddr, Sem.run_pure, Result.andThen_ok, sizeOf_run hi, Nat.sub_zero, Nat.zero_mul]
        congr 3
        split <;> simp [Addr.add]
      · rw [hn] at h; cases h
    · cases h
  · cases h
theorem sliceA_hi {len size b o : Nat} {j : Int} {k : IntKind} (h : arT P t = some (len, size)) (h0 : 0 ≤ j) (h1 : j ≤ len) :
    wSlice P t (.pointer (some ⟨b, o, none⟩)) none (some (.int k j)) none w K = K (.slice (some ⟨b, o, none⟩) j.toNat len) w := by
  refine pureW_eq (fun w' => ?_) w K
  unfold arT at h
  split at h
  · rename_i n e hu
    split at h
    · rename_i inf hi
      cases hn : Nat.ble n 1
      · rw [hn] at h
        simp only [cond_false, Option.some.injEq, Prod.mk.injEq] at h
        obtain ⟨rfl, rfl⟩ := h
        unfold Instr.sliceAt Instr.sliceBounds
        simp only [Sem.run_bind, und_run hu, Instr.sureAddr, Sem.run_pure, Result.andThen_ok, bound_run (P := P) h0 h1, sizeOf_run hi, Nat.sub_zero, Nat.zero_mul]
        congr 3
        split <;> simp [Addr.add]
      · rw [hn] at h; cases h
    · cases h
  · cases h
theorem sliceA_lo {len size b o : Nat} {i : Int} {k : IntKind} (h : arT P t = some (len, size)) (h0 : 0 ≤ i) (h1 : i ≤ len) :
    wSlice P t (.pointer (some ⟨b, o, none⟩)) (some (.int k i)) none none w K = K (.slice (some ⟨b, if len = i.toNat then o else o + i.toNat * size, none⟩) (len - i.toNat) (len - i.toNat)) w := by
  refine pureW_eq (fun w' => ?_) w K
  unfold arT at h
  split at h
  · rename_i n e hu
    split at h
    · rename_i inf hi
      cases hn : Nat.ble n 1
      · rw [hn] at h
        simp only [cond_false, Option.some.injEq, Prod.mk.injEq] at h
        obtain ⟨rfl, rfl⟩ := h
        unfold Instr.sliceAt Instr.sliceBounds
        simp only [Sem.run_bind, und_run hu, Instr.sureAddr, Sem.run_pure, Result.andThen_ok, bound_run (P := P) h0 h1, sizeOf_run hi, add_pl]
        congr 3
        split <;> rfl
      · rw [hn] at h; cases h
    · cases h
  · cases h
theorem sliceA_lohi {len size b o : Nat} {i j : Int} {k k' : IntKind} (h : arT P t = some (len, size)) (h0 : 0 ≤ i) (h1 : i ≤ j) (h2 : j ≤ len) :
    wSlice P t (.pointer (some ⟨b, o, none⟩)) (some (.int k i)) (some (.int k' j)) none w K = K (.slice (some ⟨b, if len = i.toNat then o else o + i.toNat * size, none⟩) (j.toNat - i.toNat) (len - i.toNat)) w := by
  refine pureW_eq (fun w' => ?_) w K
  have hj : i ≤ (j.toNat : Int) := by omega
  unfold arT at h
  split at h
  · rename_i n e hu
    split at h
    · rename_i inf hi
      cases hn : Nat.ble n 1
      · rw [hn] at h
        simp only [cond_false, Option.some.injEq, Prod.mk.injEq] at h
        obtain ⟨rfl, rfl⟩ := h
        unfold Instr.sliceAt Instr.sliceBounds
        simp only [Sem.run_bind, und_run hu, Instr.sureAddr, Sem.run_pure, Result.andThen_ok, bound_run (P := P) (Int.le_trans h0 h1) h2, bound_run (P := P) h0 hj, sizeOf_run hi, add_pl]
        congr 3
        split <;> rfl
      · rw [hn] at h; cases h
    · cases h
  · cases h
theorem SlG.cut {size : Nat} {xs : List Value} {A : Option Addr} {n c i j : Nat} (h : SlG w size (.slice A n c) xs) (hij : i ≤ j) (hjn : j ≤ n) :
    SlG w size (.slice (if c = i then A else A.map (·.add (i * size))) (j - i) (c - i)) ((xs.drop (i * size)).take ((j - i) * size)) := by
  obtain ⟨A', n', c', e, hl, hc, hr⟩ := h
  injection e with e1 e2 e3
  subst e1; subst e2; subst e3
  have hle : j * size ≤ n * size := Nat.mul_le_mul_right _ hjn
  have hsub : (j - i) * size = j * size - i * size := Nat.sub_mul _ _ _
  refine ⟨_, _, _, rfl, ?_, by omega, fun hne => ?_⟩
  · rw [List.length_take, List.length_drop, hl, hsub]; omega
  · obtain ⟨b, o, rfl, hcs⟩ := hr (by omega)
    rw [if_neg (by omega)]
    exact ⟨b, o + i * size, by simp [add_pl], hcs.sub _ _⟩
end addrs
end Go.Dn
