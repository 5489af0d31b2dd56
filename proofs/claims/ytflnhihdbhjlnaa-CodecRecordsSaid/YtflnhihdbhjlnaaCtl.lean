import Derived.Test.YtflnhihdbhjlnaaMem7
/-! Control: parts that are joined, loops, guarded parts; small things on lists. -/
set_option linter.unusedVariables false
set_option linter.unusedSimpArgs false
namespace Go.Dn
open Go
abbrev ptr (h : Nat) : Value := .pointer (some ⟨h, 0, none⟩)
theorem get_mid {α : Type} {X Y : List α} {x : α} {i : Nat} (h : X.length = i) : (X ++ x :: Y)[i]? = some x := by subst h; simp
theorem set_mid {α : Type} {X Y : List α} {x y : α} {i : Nat} (h : X.length = i) : (X ++ x :: Y).set i y = X ++ y :: Y := by subst h; simp
def ivs (l : List Nat) : List Value := l.map fun (n : Nat) => Value.int .i64 (n : Int)
theorem ivs_length (l : List Nat) : (ivs l).length = l.length := by simp [ivs]
theorem ivs_append (a b : List Nat) : ivs (a ++ b) = ivs a ++ ivs b := by simp [ivs]
theorem ivs_get {l : List Nat} {i n : Nat} (h : l[i]? = some n) : (ivs l)[i]? = some (.int .i64 (n : Int)) := by simp [ivs, h]
theorem j0_of {body : (World → Prop) → Prop} {k : Env → World → Prop} (I : World → Prop) (hb : ∀ k', (∀ w', I w' → k' w') → body k') (hk : ∀ J w', I w' → k J w') : wJ0 body k :=
  hb _ fun w' h J => hk J w' h
theorem j1_of {body : (Value → World → Prop) → Prop} {k : Env → Value → World → Prop} (I : Value → World → Prop) (hb : ∀ k', (∀ v w', I v w' → k' v w') → body k') (hk : ∀ J v w', I v w' → k J v w') : wJ1 body k :=
  hb _ fun v w' h J => hk J v w' h
theorem j2_of {body : (Value → Value → World → Prop) → Prop} {k : Env → Value → Value → World → Prop} (I : Value → Value → World → Prop) (hb : ∀ k', (∀ u v w', I u v w' → k' u v w') → body k') (hk : ∀ J u v w', I u v w' → k J u v w') : wJ2 body k :=
  hb _ fun u v w' h J => hk J u v w' h
theorem j3_of {body : (Value → Value → Value → World → Prop) → Prop} {k : Env → Value → Value → Value → World → Prop} (I : Value → Value → Value → World → Prop) (hb : ∀ k', (∀ u v x w', I u v x w' → k' u v x w') → body k') (hk : ∀ J u v x w', I u v x w' → k J u v x w') : wJ3 body k :=
  hb _ fun u v x w' h J => hk J u v x w' h
theorem loop_m0 {w0 : World} {step : Env → World → (World → Prop) → Prop} (I : Nat → World → Prop) {n : Nat} (h0 : I n w0)
    (hs : ∀ n J w k, I n w → (∀ n' w', n' < n → I n' w' → k w') → step J w k) : wL0 w0 step :=
  ⟨I, ⟨n, h0⟩, fun n J w hI => hs n J w _ hI fun n' w' hlt h => ⟨n', hlt, h⟩⟩
theorem loop_m1 {w0 : World} {x0 : Value} {step : Env → Value → World → (Value → World → Prop) → Prop} (I : Nat → Value → World → Prop) {n : Nat} (h0 : I n x0 w0)
    (hs : ∀ n J x w k, I n x w → (∀ n' x' w', n' < n → I n' x' w' → k x' w') → step J x w k) : wL1 x0 w0 step :=
  ⟨I, ⟨n, h0⟩, fun n J x w hI => hs n J x w _ hI fun n' x' w' hlt h => ⟨n', hlt, h⟩⟩
theorem loop_m2 {w0 : World} {x0 y0 : Value} {step : Env → Value → Value → World → (Value → Value → World → Prop) → Prop} (I : Nat → Value → Value → World → Prop) {n : Nat} (h0 : I n x0 y0 w0)
    (hs : ∀ n J x y w k, I n x y w → (∀ n' x' y' w', n' < n → I n' x' y' w' → k x' y' w') → step J x y w k) : wL2 x0 y0 w0 step :=
  ⟨I, ⟨n, h0⟩, fun n J x y w hI => hs n J x y w _ hI fun n' x' y' w' hlt h => ⟨n', hlt, h⟩⟩
theorem loop_m3 {w0 : World} {x0 y0 z0 : Value} {step : Env → Value → Value → Value → World → (Value → Value → Value → World → Prop) → Prop} (I : Nat → Value → Value → Value → World → Prop) {n : Nat} (h0 : I n x0 y0 z0 w0)
    (hs : ∀ n J x y z w k, I n x y z w → (∀ n' x' y' z' w', n' < n → I n' x' y' z' w' → k x' y' z' w') → step J x y z w k) : wL3 x0 y0 z0 w0 step :=
  ⟨I, ⟨n, h0⟩, fun n J x y z w hI => hs n J x y z w _ hI fun n' x' y' z' w' hlt h => ⟨n', hlt, h⟩⟩
theorem or_w {b r : Bool} {body : (Value → World → Prop) → Prop} {w : World} {k : Value → World → Prop} (h : b = false → ∀ k', (∀ w', Ex [] w w' → k' (.bool r) w') → body k')
    (hk : ∀ w', Ex [] w w' → k (.bool (b || r)) w') : wGrp (.bool b) false body w fun _ v w => wPick (.bool b) (.bool true) v w k := by
  unfold wGrp
  cases b
  · simp only [if_true]
    exact h rfl _ fun w' hE J => hk w' hE
  · simp only [Bool.true_eq_false, if_false]
    exact fun J => hk w (Ex.refl _ _)
theorem and_w {b r : Bool} {body : (Value → World → Prop) → Prop} {w : World} {k : Value → World → Prop} (h : b = true → ∀ k', (∀ w', Ex [] w w' → k' (.bool r) w') → body k')
    (hk : ∀ w', Ex [] w w' → k (.bool (b && r)) w') : wGrp (.bool b) true body w fun _ v w => wPick (.bool b) v (.bool false) w k := by
  unfold wGrp
  cases b
  · simp only [Bool.false_eq_true, if_false]
    exact fun J => hk w (Ex.refl _ _)
  · simp only [if_true]
    exact h rfl _ fun w' hE J => hk w' hE
theorem ptr_ne_nil {P : Program} {w : World} {K : Value → World → Prop} {t d : TypeId} (ht : P.underlying t = some (.pointer d)) (a : Addr) : wBin P .eql t (.pointer (some a)) (.pointer none) w K = K (.bool false) w := by
  refine bin_eq_of (by simp) (by simp) (by simp) (by simp) (fun _ _ => rfl) (fun w' => ?_)
  unfold Op.equal Op.maxDepth
  rw [Op.equalIn]
  simp only [Sem.run_bind, und_run ht, Result.andThen_ok]
  rfl
theorem nil_eq_nil {P : Program} {w : World} {K : Value → World → Prop} {t d : TypeId} (ht : P.underlying t = some (.pointer d)) : wBin P .eql t (.pointer none) (.pointer none) w K = K (.bool true) w := by
  refine bin_eq_of (by simp) (by simp) (by simp) (by simp) (fun _ _ => rfl) (fun w' => ?_)
  unfold Op.equal Op.maxDepth
  rw [Op.equalIn]
  simp only [Sem.run_bind, und_run ht, Result.andThen_ok]
  rfl
theorem ptr_neq_nil {P : Program} {w : World} {K : Value → World → Prop} {t d : TypeId} (ht : P.underlying t = some (.pointer d)) (a : Addr) : wBin P .neq t (.pointer (some a)) (.pointer none) w K = K (.bool true) w := by
  refine bin_ne_of (b := false) (by simp) (by simp) (by simp) (by simp) (fun _ _ => rfl) (fun w' => ?_)
  unfold Op.equal Op.maxDepth
  rw [Op.equalIn]
  simp only [Sem.run_bind, und_run ht, Result.andThen_ok]
  rfl
theorem nil_neq_nil {P : Program} {w : World} {K : Value → World → Prop} {t d : TypeId} (ht : P.underlying t = some (.pointer d)) : wBin P .neq t (.pointer none) (.pointer none) w K = K (.bool false) w := by
  refine bin_ne_of (b := true) (by simp) (by simp) (by simp) (by simp) (fun _ _ => rfl) (fun w' => ?_)
  unfold Op.equal Op.maxDepth
  rw [Op.equalIn]
  simp only [Sem.run_bind, und_run ht, Result.andThen_ok]
  rfl
theorem Ex.back {S : List Nat} {w w' : World} {b : Nat} {t : TypeId} {cs : List Value} (h : Ex (b :: S) w w') (h1 : Blk w b t cs) (h2 : Blk w' b t cs) : Ex S w w' :=
  ⟨h.os, h.tape, h.output, h.size, fun k hk hn => by
    by_cases e : k = b
    · subst e; unfold Blk at h1 h2; rw [h1, h2]
    · exact h.block k hk (by simp [e, hn])⟩
theorem set_same {α : Type} {cs : List α} {o : Nat} {x : α} (h : cs[o]? = some x) : cs.set o x = cs := by
  obtain ⟨h1, rfl⟩ := List.getElem?_eq_some_iff.1 h
  exact List.set_getElem_self h1
theorem SlG.hi {P : Program} {w : World} {v : Value} {size n : Nat} {xs : List Value} {t : TypeId} {j : Int} {ik : IntKind} {k : Value → World → Prop} (S : SlG w size v xs) (ht : slT P t = some size) (hs : 0 < size) (hn : xs.length = n * size) (h0 : 0 ≤ j) (h1 : j ≤ n)
    (hk : ∀ v', v'.ownBlock = v.ownBlock → SlG w size v' (xs.take (j.toNat * size)) → k v' w) : wSlice P t v none (some (.int ik j)) none w k := by
  obtain ⟨A, m, c, rfl, hl, hc, hr⟩ := S
  have : m = n := Nat.eq_of_mul_eq_mul_right hs (hl.symm.trans hn)
  subst this
  rw [sliceS_hi ht h0 (by omega)]
  refine hk _ ?_ ⟨A, j.toNat, c, rfl, ?_, by omega, fun hne => ?_⟩
  · cases A <;> rfl
  · rw [List.length_take, hl]
    have : j.toNat * size ≤ m * size := Nat.mul_le_mul_right _ (by omega)
    omega
  · obtain ⟨b, o, rfl, hcs⟩ := hr (by omega)
    refine ⟨b, o, rfl, fun i v hv => ?_⟩
    rw [List.getElem?_take] at hv
    split at hv
    · exact hcs i v hv
    · cases hv
/-- What a slice of one's own owns is new, or was its own. -/
theorem Own.newb {w : World} {base size : Nat} {e : TypeId} {v : Value} {xs : List Value} (h : Own w base e size v xs) : ∀ y ∈ v.ownBlock.toList, base ≤ y ∧ y < w.heap.size := by
  intro y hy
  cases hv : v.ownBlock with
  | none => rw [hv] at hy; simp at hy
  | some g =>
    rw [hv] at hy
    simp at hy
    subst hy
    have := h.blk hv
    exact ⟨this.1, this.2.1⟩
end Go.Dn
