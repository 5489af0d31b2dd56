import Derived.Test.YtflnhihdbhjlnaaCtl
import Derived.Deep.Slices
import Derived.Deep.Fields
import Derived.ChangeSame
import Derived.ChangeArms
import Derived.OpenShut
/-! What an argument reads: structs, arrays and slices of whole numbers and truths, in one another. -/
set_option maxRecDepth 10000
set_option linter.unusedVariables false
set_option linter.unusedSimpArgs false
namespace Go.Dn
open Go Go.ChangeShapes Go.WideShapes Go.Deep
def ArgP {H : Type} (enc : TypeId × Value → H) (P : Program) (w : World) (base : Nat) (held : Bool) (t : TypeId) (n : Nat) (R : List Value → Prop) : Prop :=
  ∀ (fuel : Nat) (cs : List Value) (x : DataW H × List MemPlace), DataW.trod enc P w base (fun _ => true) held fuel t cs = some x → cs.length = n ∧ R cs
section
variable {H : Type} {enc : TypeId × Value → H} {P : Program} {w : World} {base : Nat} {held : Bool} {t : TypeId}
theorem argp_int {k : IntKind} (ht : P.underlying t = some (.int k)) : ArgP enc P w base held t 1 fun cs => ∃ n, cs = [.int k n] ∧ (Lit.int k n).wf = true := by
  intro fuel cs x h
  obtain ⟨n, rfl, _, hw⟩ := DataW.trod_int ht h
  exact ⟨rfl, n, rfl, hw⟩
theorem argp_bool (ht : P.underlying t = some .bool) : ArgP enc P w base held t 1 fun cs => ∃ b, cs = [.bool b] := by
  intro fuel cs x h
  obtain ⟨b, rfl, _⟩ := DataW.trod_bool ht h
  exact ⟨rfl, b, rfl⟩
theorem ArgP.imp {n : Nat} {R R' : List Value → Prop} (h : ArgP enc P w base held t n R) (hR : ∀ cs, cs.length = n → R cs → R' cs) : ArgP enc P w base held t n R' :=
  fun fuel cs x hx => let ⟨h1, h2⟩ := h fuel cs x hx; ⟨h1, hR cs h1 h2⟩
/-- A struct's cells, field by field. -/
def RL : List (TypeId × Nat × (List Value → Prop)) → List Value → Prop
  | [], cs => cs = []
  | (_, n, R) :: L, cs => ∃ a b, cs = a ++ b ∧ a.length = n ∧ R a ∧ RL L b
def AL {H : Type} (enc : TypeId × Value → H) (P : Program) (w : World) (base : Nat) (held : Bool) : List (TypeId × Nat × (List Value → Prop)) → Prop
  | [] => True
  | (ty, n, R) :: L => ArgP enc P w base held ty n R ∧ AL enc P w base held L
def offL : Nat → List (TypeId × Nat × (List Value → Prop)) → List (Nat × TypeId × Nat)
  | _, [] => []
  | o, (ty, n, _) :: L => (o, ty, n) :: offL (o + n) L
theorem rl_of {fuel : Nat} {cs : List Value} : ∀ (fs : List Field) (L : List (TypeId × Nat × (List Value → Prop))) (o : Nat), fs.map (fun f => (f.offset, f.type, P.cellsOf f.type)) = offL o L → AL enc P w base held L → cs.length = o + (L.map (·.2.1)).sum →
    (∀ (i : Nat) (f : Field), fs[i]? = some f → ∃ x, DataW.trod enc P w base (fun _ => true) held fuel f.type ((cs.drop f.offset).take (P.cellsOf f.type)) = some x) → RL L (cs.drop o)
  | [], [], o, _, _, hl, _ => by simp at hl; simp [RL, List.drop_of_length_le (show cs.length ≤ o by omega)]
  | f :: fs, (ty, n, R) :: L, o, hm, hA, hl, hf => by
    simp only [List.map_cons, offL, List.cons.injEq, Prod.mk.injEq] at hm
    obtain ⟨⟨h1, h2, h3⟩, hm⟩ := hm
    obtain ⟨x, hx⟩ := hf 0 f rfl
    rw [h1, h2] at hx
    rw [h2] at h3
    rw [h3] at hx
    obtain ⟨hln, hR⟩ := hA.1 _ _ _ hx
    refine ⟨(cs.drop o).take n, (cs.drop o).drop n, (List.take_append_drop n (cs.drop o)).symm, hln, hR, ?_⟩
    rw [List.drop_drop]
    exact rl_of fs L (o + n) hm hA.2 (by simp at hl ⊢; omega) fun i g hg => hf (i + 1) g (by simpa using hg)
  | [], _ :: _, _, h, _, _, _ => by simp [offL] at h
  | _ :: _, [], _, h, _, _, _ => by simp [offL] at h
theorem argp_struct {L : List (TypeId × Nat × (List Value → Prop))} (ht : P.underlying t = some (.struct (P.fieldsOf t))) (hm : (P.fieldsOf t).toList.map (fun f => (f.offset, f.type, P.cellsOf f.type)) = offL 0 L) (hC : P.cellsOf t = (L.map (·.2.1)).sum)
    (hA : AL enc P w base held L) : ArgP enc P w base held t (L.map (·.2.1)).sum (RL L) := by
  intro fuel cs x h
  obtain ⟨xs, n, _, _, hlen, hxl, hf⟩ := DataW.trod_struct ht h
  refine ⟨by rw [hlen, hC], ?_⟩
  have := rl_of (fuel := n) (cs := cs) _ L 0 hm hA (by rw [hlen, hC]; omega) fun i f hi => by
    have hi' : (P.fieldsOf t)[i]? = some f := by rw [← Array.getElem?_toList]; exact hi
    have hlt : i < (P.fieldsOf t).size := (Array.getElem?_eq_some_iff.1 hi').1
    exact ⟨xs[i], (hf i f hi').trans (List.getElem?_eq_getElem (by omega))⟩
  simpa using this
theorem argp_array {e : TypeId} {m n : Nat} {R : List Value → Prop} (ht : P.underlying t = some (.array m e)) (hC : P.cellsOf t = m * n) (hCe : P.cellsOf e = n) (hE : ArgP enc P w base held e n R) :
    ArgP enc P w base held t (m * n) fun cs => ∃ xss : List (List Value), cs = xss.flatten ∧ xss.length = m ∧ ∀ xs ∈ xss, xs.length = n ∧ R xs := by
  intro fuel cs x h
  obtain ⟨ys, k, _, _, hlen, hyl, hf⟩ := DataW.trod_array ht h
  rw [hC] at hlen
  rw [hCe] at hf
  refine ⟨hlen, (List.range m).map fun i => (cs.drop (i * n)).take n, ?_, by simp, ?_⟩
  · have key : ∀ j, j ≤ m → ((List.range j).map fun i => (cs.drop (i * n)).take n).flatten = cs.take (j * n) := by
      intro j
      induction j with
      | zero => intro _; simp
      | succ j ih =>
        intro hj
        rw [List.range_succ, List.map_append, List.flatten_append, ih (by omega), Nat.succ_mul, List.take_add]
        simp
    rw [key m (Nat.le_refl _), List.take_of_length_le (by omega)]
  · intro xs hx
    obtain ⟨i, hi, rfl⟩ := List.mem_map.1 hx
    rw [List.mem_range] at hi
    have := hf i hi
    rw [List.getElem?_eq_getElem (by omega)] at this
    exact hE _ _ _ this
theorem list_of' {α : Type} {Q : Nat → α → Prop} : ∀ n, (∀ i, i < n → ∃ u, Q i u) → ∃ l : List α, l.length = n ∧ ∀ i u, l[i]? = some u → Q i u
  | 0, _ => ⟨[], rfl, by simp⟩
  | n + 1, h => by
    obtain ⟨l, hl, hq⟩ := list_of' n fun i hi => h i (by omega)
    obtain ⟨u, hu⟩ := h n (by omega)
    refine ⟨l ++ [u], by simp [hl], fun i x hx => ?_⟩
    rw [List.getElem?_append] at hx
    split at hx
    · exact hq i x hx
    · rename_i hge
      have : i = l.length := by
        have := (List.getElem?_eq_some_iff.1 hx).1
        simp at this; omega
      subst this
      simp at hx
      subst hx
      rw [hl]; exact hu
theorem flatten_get {n : Nat} : ∀ (xss : List (List Value)) (i : Nat), (∀ xs ∈ xss, xs.length = n) → 0 < n → ∀ v, xss.flatten[i]? = some v → ∃ xs, xss[i / n]? = some xs ∧ xs[i % n]? = some v
  | [], i, _, _, v, h => by simp at h
  | x :: xss, i, hl, hn, v, h => by
    have hx := hl x (List.mem_cons_self ..)
    rw [List.flatten_cons, List.getElem?_append] at h
    split at h
    · rename_i hlt
      rw [hx] at hlt
      rw [Nat.div_eq_of_lt hlt, Nat.mod_eq_of_lt hlt]
      exact ⟨x, rfl, h⟩
    · rename_i hge
      rw [hx] at hge h
      obtain ⟨xs, h1, h2⟩ := flatten_get xss (i - n) (fun y hy => hl y (List.mem_cons_of_mem _ hy)) hn v h
      have e1 : i / n = (i - n) / n + 1 := by
        rw [Nat.div_eq_sub_div hn (by omega)]
      have e2 : i % n = (i - n) % n := by rw [Nat.mod_eq_sub_mod (by omega)]
      rw [e1, e2]
      exact ⟨xs, by simpa using h1, h2⟩
theorem flatten_len {n : Nat} : ∀ (xss : List (List Value)), (∀ xs ∈ xss, xs.length = n) → xss.flatten.length = xss.length * n
  | [], _ => by simp
  | x :: xss, h => by
    rw [List.flatten_cons, List.length_append, h x (List.mem_cons_self ..), flatten_len xss fun y hy => h y (List.mem_cons_of_mem _ hy), List.length_cons, Nat.succ_mul]
    omega
theorem argp_slice {e : TypeId} {n : Nat} {R : List Value → Prop} (ht : P.underlying t = some (.slice e)) (hn : 0 < n) (hCe : P.cellsOf e = n) (hE : ArgP enc P w base held e n R) :
    ArgP enc P w base held t 1 fun cs => ∃ v xss, cs = [v] ∧ SlG w n v (List.flatten xss) ∧ ∀ xs ∈ xss, xs.length = n ∧ R xs := by
  intro fuel cs x h
  rcases open_slice ht h with h0 | ⟨a, len, cap, m, k, D, Pl, hcs, hb, hl, hm, hmm, hx, hi⟩
  · exact ⟨by rw [h0.1]; rfl, .slice none 0 0, [], h0.1, SlG.nil w n, by simp⟩
  · refine ⟨by rw [hcs]; rfl, .slice (some a) len cap, ?_⟩
    simp only [if_true] at hmm
    subst hmm
    rw [hCe] at hi
    have key : ∀ i, i < len → ∃ cs' : List Value, (cs'.length = n ∧ R cs') ∧ ∀ j, j < n → w.cell? ((a.add (i * n)).add j) = cs'[j]? := by
      intro i hlt
      obtain ⟨cs', hc, htr⟩ := hi i (by omega)
      obtain ⟨_, hcl, hat⟩ := World.cells?_some hc
      exact ⟨cs', hE _ _ _ htr, hat⟩
    obtain ⟨xss, hxl, hxs⟩ := list_of' len key
    have hall : ∀ xs ∈ xss, xs.length = n ∧ R xs := fun xs hx => by
      obtain ⟨i, hi⟩ := List.mem_iff_getElem?.1 hx
      exact (hxs i xs hi).1
    have hfl := flatten_len xss fun xs hx => (hall xs hx).1
    refine ⟨xss, hcs, ⟨some a, len, m, rfl, by rw [hfl, hxl], hl, fun hne => ?_⟩, hall⟩
    obtain ⟨b, o, s⟩ := a
    have hs : s = none := by
      have h0 : 0 < xss.length := by omega
      obtain ⟨y, hy⟩ : ∃ y, w.cell? (((⟨b, o, s⟩ : Addr).add (0 * n)).add 0) = some y := by
        have hq := hxs 0 xss[0] (List.getElem?_eq_getElem h0)
        exact ⟨_, (hq.2 0 hn).trans (List.getElem?_eq_getElem (by rw [hq.1.1]; exact hn))⟩
      clear hi hxs key hall
      cases s with
      | none => rfl
      | some x =>
        exfalso
        rw [Nat.zero_mul] at hy
        unfold World.cell? Addr.add at hy
        repeat' split at hy
        all_goals simp_all
    subst hs
    refine ⟨b, o, rfl, fun i v hv => ?_⟩
    obtain ⟨xs, h1, h2⟩ := flatten_get xss i (fun xs hx => (hall xs hx).1) hn v hv
    have hq := hxs _ _ h1
    have hc := hq.2 (i % n) (Nat.mod_lt _ hn)
    rw [h2] at hc
    rw [← hc, add_pl, add_pl]
    congr 2
    have := Nat.div_add_mod i n
    rw [Nat.mul_comm] at this
    omega
end
end Go.Dn
