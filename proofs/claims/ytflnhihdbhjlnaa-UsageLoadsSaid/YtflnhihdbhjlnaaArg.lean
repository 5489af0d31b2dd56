import Derived.Test.YtflnhihdbhjlnaaCl09c
import Derived.Deep.Slices
import Derived.Deep.Fields
import Derived.ChangeSame
import Derived.ChangeArms
/-! A slice of uses among the arguments. -/
set_option maxRecDepth 10000
set_option linter.unusedVariables false
set_option linter.unusedSimpArgs false
namespace Go.Dn
open Go Go.ChangeShapes Go.WideShapes Go.Deep
section
variable {H : Type} {enc : TypeId × Value → H} {P : Program} {w : World} {base : Nat} {spare : Nat → Bool} {held : Bool}
theorem open_slice_fields {t e : TypeId} {fs : Array Field} {fuel : Nat} {cs : List Value} {x : DataW H × List MemPlace} (ht : P.underlying t = some (.slice e)) (he : P.underlying e = some (.struct fs))
    (hone : oneCellFields P fs = true) (hC : P.cellsOf e = fs.size) (h : DataW.trod enc P w base spare held fuel t cs = some x) :
    (cs = [.slice none 0 0]) ∨
    ∃ (a : Addr) (len cap m : Nat), cs = [.slice (some a) len cap] ∧ len ≤ cap ∧ m = (if spare a.block then cap else len) ∧
      ∀ i, i < m → ∃ n, ∀ (j : Nat) (f : Field), fs[j]? = some f → ∃ (v : Value) (y : DataW H × List MemPlace), w.cell? (a.add (i * fs.size + j)) = some v ∧ DataW.trod enc P w base spare held n f.type [v] = some y := by
  rcases open_slice ht h with h0 | ⟨a, len, cap, m, n, D, Pl, hcs, hb, hl, hm, hmm, hx, hi⟩
  · exact .inl h0.1
  · refine .inr ⟨a, len, cap, m, hcs, hl, hmm, fun i him => ?_⟩
    obtain ⟨cs', hc, ht'⟩ := hi i him
    rw [hC] at hc
    obtain ⟨ys, n', hn', hy, hlen, hyl, hf⟩ := DataW.trod_struct he ht'
    obtain ⟨_, hcl, hat⟩ := World.cells?_some hc
    refine ⟨n', fun j f hj => ?_⟩
    obtain ⟨ho, hk⟩ := hone_of hone j f hj
    have hjl : j < fs.size := (Array.getElem?_eq_some_iff.1 hj).1
    have hcell := hat j hjl
    have hv : cs'[j]? = some (cs'[j]'(by omega)) := List.getElem?_eq_getElem (by omega)
    have h1 := hf j f hj
    rw [ho, hk] at h1
    have hone' : (cs'.drop j).take 1 = [cs'[j]'(by omega)] := by
      rw [List.drop_eq_getElem_cons (by omega)]
      rfl
    rw [hone'] at h1
    have hys : ys[j]? = some (ys[j]'(by omega)) := List.getElem?_eq_getElem (by omega)
    refine ⟨_, _, ?_, h1.trans hys⟩
    rw [← Go.Deep.add_add, hcell, hv]
end
theorem list_of {α : Type} {Q : Nat → α → Prop} : ∀ n, (∀ i, i < n → ∃ u, Q i u) → ∃ l : List α, l.length = n ∧ ∀ i u, l[i]? = some u → Q i u
  | 0, _ => ⟨[], rfl, by simp⟩
  | n + 1, h => by
    obtain ⟨l, hl, hq⟩ := list_of n fun i hi => h i (by omega)
    obtain ⟨u, hu⟩ := h n (by omega)
    refine ⟨l ++ [u], by simp [hl], fun i x hx => ?_⟩
    rw [List.getElem?_append] at hx
    split at hx
    · exact hq i x hx
    · rename_i hge
      have : i = l.length := by
        have := (List.getElem?_eq_some_iff.1 hx).1
        simp at this; omega
      subst this
      simp at hx
      subst hx
      rw [hl]; exact hu
theorem argU {H : Type} {enc : TypeId × Value → H} {w : World} {base : Nat} {held : Bool} {v : Value} {d : DataW H} {p : List MemPlace} (hc : v.cells = #[v]) (h : DataW.Trod enc P w base (fun _ => true) held T_Lref05_Use v d p) : ∃ us, SlG w 3 v (fl us) := by
  obtain ⟨fuel, hf⟩ := h
  have hC : P.cellsOf T_ref05_Use = (P.fieldsOf T_ref05_Use).size := by kernel_rfl
  have hS : (P.fieldsOf T_ref05_Use).size = 3 := by kernel_rfl
  have hF : (P.fieldsOf T_ref05_Use).toList.map (fun (f : Field) => P.underlying f.type) = [some (.int .i64), some (.int .i64), some (.int .u32)] := by kernel_rfl
  rw [hc] at hf
  rcases open_slice_fields u_T_Lref05_Use (show P.underlying T_ref05_Use = some (.struct (P.fieldsOf T_ref05_Use)) by kernel_rfl) (by kernel_rfl) hC hf with hcs | ⟨a, len, cap, m, hcs, hl, hm, hi⟩
  · simp at hcs
    subst hcs
    exact ⟨[], SlG.nil _ _⟩
  · simp at hcs
    subst hcs
    simp only [if_true] at hm
    subst hm
    rw [hS] at hi
    have hfld : ∀ (j : Nat) (k : IntKind), [some (TypeDesc.int IntKind.i64), some (.int .i64), some (.int .u32)][j]? = some (some (.int k)) → ∃ f, (P.fieldsOf T_ref05_Use)[j]? = some f ∧ P.underlying f.type = some (.int k) := by
      intro j k hk
      rw [← hF, List.getElem?_map] at hk
      cases hq : (P.fieldsOf T_ref05_Use).toList[j]? with
      | none => rw [hq] at hk; cases hk
      | some f =>
        rw [hq] at hk
        simp only [Option.map_some, Option.some.injEq] at hk
        exact ⟨f, by rw [← Array.getElem?_toList]; exact hq, hk⟩
    have key : ∀ i, i < m → ∃ u : U, w.cell? (a.add (i * 3 + 0)) = some (.int .i64 u.live) ∧ w.cell? (a.add (i * 3 + 1)) = some (.int .i64 u.state) ∧ w.cell? (a.add (i * 3 + 2)) = some (.int .u32 u.age) := by
      intro i him
      obtain ⟨n, hj⟩ := hi i him
      obtain ⟨f0, h0, e0⟩ := hfld 0 .i64 rfl
      obtain ⟨f1, h1, e1⟩ := hfld 1 .i64 rfl
      obtain ⟨f2, h2, e2⟩ := hfld 2 .u32 rfl
      obtain ⟨v0, y0, c0, t0⟩ := hj 0 f0 h0
      obtain ⟨v1, y1, c1, t1⟩ := hj 1 f1 h1
      obtain ⟨v2, y2, c2, t2⟩ := hj 2 f2 h2
      obtain ⟨n0, q0, _⟩ := DataW.trod_int e0 t0
      obtain ⟨n1, q1, _⟩ := DataW.trod_int e1 t1
      obtain ⟨n2, q2, _⟩ := DataW.trod_int e2 t2
      simp at q0 q1 q2
      subst q0; subst q1; subst q2
      exact ⟨⟨n0, n1, n2⟩, c0, c1, c2⟩
    obtain ⟨us, hul, hus⟩ := list_of len fun i hlt => key i (by omega)
    refine ⟨us, some a, len, m, rfl, by rw [fl_length, hul], hl, fun hne => ?_⟩
    obtain ⟨b, o, s⟩ := a
    have hs : s = none := by
      obtain ⟨u, hc0, _⟩ := key 0 (by omega)
      cases s with
      | none => rfl
      | some x =>
        exfalso
        unfold World.cell? Addr.add at hc0
        repeat' split at hc0
        all_goals simp_all
    subst hs
    refine ⟨b, o, rfl, fun i v hv => ?_⟩
    have hlt : i < us.length * 3 := by rw [← fl_length]; exact (List.getElem?_eq_some_iff.1 hv).1
    have hq : i / 3 < us.length := by omega
    have hu := List.getElem?_eq_getElem hq
    obtain ⟨k0, k1, k2⟩ := hus _ _ hu
    obtain ⟨g0, g1, g2⟩ := fl_at hu
    simp only [add_pl] at k0 k1 k2
    have hm3 : i % 3 = 0 ∨ i % 3 = 1 ∨ i % 3 = 2 := by omega
    rcases hm3 with h3 | h3 | h3
    · rw [show i = i / 3 * 3 by omega, g0] at hv
      injection hv with hv
      rw [← hv, ← k0]; congr 2; omega
    · rw [show i = i / 3 * 3 + 1 by omega, g1] at hv
      injection hv with hv
      rw [← hv, ← k1]; congr 2; omega
    · rw [show i = i / 3 * 3 + 2 by omega, g2] at hv
      injection hv with hv
      rw [← hv, ← k2]; congr 2; omega
end Go.Dn
