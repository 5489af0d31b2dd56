import Derived.Test.YtflnhihdbhjlnaaXHeader2
import Derived.Deep.Slices
import Derived.Deep.Fields
import Derived.ChangeSame
import Derived.ChangeArms
import Derived.OpenShut
import Derived.Test.YtflnhihdbhjlnaaXHeader4
section
/-! What an argument reads: structs, arrays and slices of whole numbers and truths, in one another. -/
set_option maxRecDepth 10000
set_option linter.unusedVariables false
set_option linter.unusedSimpArgs false
namespace Go.Dn
open Go Go.ChangeShapes Go.WideShapes Go.Deep
def ArgP {H : Type} (enc : TypeId × Value → H) (P : Program) (w : World) (base : Nat) (held : Bool) (t : TypeId) (n : Nat) (R : List Value → Prop) : Prop :=
  ∀ (fuel : Nat) (cs : List Value) (x : DataW H × List MemPlace), DataW.trod enc P w base (fun _ => true) held fuel t cs = some x → cs.length = n ∧ R cs
section
variable {H : Type} {enc : TypeId × Value → H} {P : Program} {w : World} {base : Nat} {held : Bool} {t : TypeId}
theorem argp_int {k : IntKind} (ht : P.underlying t = some (.int k)) : ArgP enc P w base held t 1 fun cs => ∃ n, cs = [.int k n] ∧ (Lit.int k n).wf = true := by
  intro fuel cs x h
  obtain ⟨n, rfl, _, hw⟩ := DataW.trod_int ht h
  exact ⟨rfl, n, rfl, hw⟩
theorem argp_bool (ht : P.underlying t = some .bool) : ArgP enc P w base held t 1 fun cs => ∃ b, cs = [.bool b] := by
  intro fuel cs x h
  obtain ⟨b, rfl, _⟩ := DataW.trod_bool ht h
  exact ⟨rfl, b, rfl⟩
theorem ArgP.imp {n : Nat} {R R' : List Value → Prop} (h : ArgP enc P w base held t n R) (hR : ∀ cs, cs.length = n → R cs → R' cs) : ArgP enc P w base held t n R' :=
  fun fuel cs x hx => let ⟨h1, h2⟩ := h fuel cs x hx; ⟨h1, hR cs h1 h2⟩
/-- A struct's cells, field by field. -/
def RL : List (TypeId × Nat × (List Value → Prop)) → List Value → Prop
  | [], cs => cs = []
  | (_, n, R) :: L, cs => ∃ a b, cs = a ++ b ∧ a.length = n ∧ R a ∧ RL L b
def AL {H : Type} (enc : TypeId × Value → H) (P : Program) (w : World) (base : Nat) (held : Bool) : List (TypeId × Nat × (List Value → Prop)) → Prop
  | [] => True
  | (ty, n, R) :: L => ArgP enc P w base held ty n R ∧ AL enc P w base held L
def offL : Nat → List (TypeId × Nat × (List Value → Prop)) → List (Nat × TypeId × Nat)
  | _, [] => []
  | o, (ty, n, _) :: L => (o, ty, n) :: offL (o + n) L
theorem rl_of {fuel : Nat} {cs : List Value} : ∀ (fs : List Field) (L : List (TypeId × Nat × (List Value → Prop))) (o : Nat), fs.map (fun f => (f.offset, f.type, P.cellsOf f.type)) = offL o L → AL enc P w base held L → cs.length = o + (L.map (·.2.1)).sum →
    (∀ (i : Nat) (f : Field), fs[i]? = some f → ∃ x, DataW.trod enc P w base (fun _ => true) held fuel f.type ((cs.drop f.offset).take (P.cellsOf f.type)) = some x) → RL L (cs.drop o)
  | [], [], o, _, _, hl, _ => by simp at hl; simp [RL, List.drop_of_length_le (show cs.length ≤ o by omega)]
  | f :: fs, (ty, n, R) :: L, o, hm, hA, hl, hf => by
    simp only [List.map_cons, offL, List.cons.injEq, Prod.mk.injEq] at hm
    obtain ⟨⟨h1, h2, h3⟩, hm⟩ := hm
    obtain ⟨x, hx⟩ := hf 0 f rfl
    rw [h1, h2] at hx
    rw [h2] at h3
    rw [h3] at hx
    obtain ⟨hln, hR⟩ := hA.1 _ _ _ hx
    refine ⟨(cs.drop o).take n, (cs.drop o).drop n, (List.take_append_drop n (cs.drop o)).symm, hln, hR, ?_⟩
    rw [List.drop_drop]
    exact rl_of fs L (o + n) hm hA.2 (by simp at hl ⊢; omega) fun i g hg => hf (i + 1) g (by simpa using hg)
  | [], _ :: _, _, h, _, _, _ => by simp [offL] at h
  | _ :: _, [], _, h, _, _, _ => by simp [offL] at h
theorem argp_struct {L : List (TypeId × Nat × (List Value → Prop))} (ht : P.underlying t = some (.struct (P.fieldsOf t))) (hm : (P.fieldsOf t).toList.map (fun f => (f.offset, f.type, P.cellsOf f.type)) = offL 0 L) (hC : P.cellsOf t = (L.map (·.2.1)).sum)
    (hA : AL enc P w base held L) : ArgP enc P w base held t (L.map (·.2.1)).sum (RL L) := by
  intro fuel cs x h
  obtain ⟨xs, n, _, _, hlen, hxl, hf⟩ := DataW.trod_struct ht h
  refine ⟨by rw [hlen, hC], ?_⟩
  have := rl_of (fuel := n) (cs := cs) _ L 0 hm hA (by rw [hlen, hC]; omega) fun i f hi => by
    have hi' : (P.fieldsOf t)[i]? = some f := by rw [← Array.getElem?_toList]; exact hi
    have hlt : i < (P.fieldsOf t).size := (Array.getElem?_eq_some_iff.1 hi').1
    exact ⟨xs[i], (hf i f hi').trans (List.getElem?_eq_getElem (by omega))⟩
  simpa using this
theorem argp_array {e : TypeId} {m n : Nat} {R : List Value → Prop} (ht : P.underlying t = some (.array m e)) (hC : P.cellsOf t = m * n) (hCe : P.cellsOf e = n) (hE : ArgP enc P w base held e n R) :
    ArgP enc P w base held t (m * n) fun cs => ∃ xss : List (List Value), cs = xss.flatten ∧ xss.length = m ∧ ∀ xs ∈ xss, xs.length = n ∧ R xs := by
  intro fuel cs x h
  obtain ⟨ys, k, _, _, hlen, hyl, hf⟩ := DataW.trod_array ht h
  rw [hC] at hlen
  rw [hCe] at hf
  refine ⟨hlen, (List.range m).map fun i => (cs.drop (i * n)).take n, ?_, by simp, ?_⟩
  · have key : ∀ j, j ≤ m → ((List.range j).map fun i => (cs.drop (i * n)).take n).flatten = cs.take (j * n) := by
      intro j
      induction j with
      | zero => intro _; simp
      | succ j ih =>
        intro hj
        rw [List.range_succ, List.map_append, List.flatten_append, ih (by omega), Nat.succ_mul, List.take_add]
        simp
    rw [key m (Nat.le_refl _), List.take_of_length_le (by omega)]
  · intro xs hx
    obtain ⟨i, hi, rfl⟩ := List.mem_map.1 hx
    rw [List.mem_range] at hi
    have := hf i hi
    rw [List.getElem?_eq_getElem (by omega)] at this
    exact hE _ _ _ this
theorem list_of' {α : Type} {Q : Nat → α → Prop} : ∀ n, (∀ i, i < n → ∃ u, Q i u) → ∃ l : List α, l.length = n ∧ ∀ i u, l[i]? = some u → Q i u
  | 0, _ => ⟨[], rfl, by simp⟩
  | n + 1, h => by
    obtain ⟨l, hl, hq⟩ := list_of' n fun i hi => h i (by omega)
    obtain ⟨u, hu⟩ := h n (by omega)
    refine ⟨l ++ [u], by simp [hl], fun i x hx => ?_⟩
    rw [List.getElem?_append] at hx
    split at hx
    · exact hq i x hx
    · rename_i hge
      have : i = l.length := by
        have := (List.getElem?_eq_some_iff.1 hx).1
        simp at this; omega
      subst this
      simp at hx
      subst hx
      rw [hl]; exact hu
theorem flatten_get {n : Nat} : ∀ (xss : List (List Value)) (i : Nat), (∀ xs ∈ xss, xs.length = n) → 0 < n → ∀ v, xss.flatten[i]? = some v → ∃ xs, xss[i / n]? = some xs ∧ xs[i % n]? = some v
  | [], i, _, _, v, h => by simp at h
  | x :: xss, i, hl, hn, v, h => by
    have hx := hl x (List.mem_cons_self ..)
    rw [List.flatten_cons, List.getElem?_append] at h
    split at h
    · rename_i hlt
      rw [hx] at hlt
      rw [Nat.div_eq_of_lt hlt, Nat.mod_eq_of_lt hlt]
      exact ⟨x, rfl, h⟩
    · rename_i hge
      rw [hx] at hge h
      obtain ⟨xs, h1, h2⟩ := flatten_get xss (i - n) (fun y hy => hl y (List.mem_cons_of_mem _ hy)) hn v h
      have e1 : i / n = (i - n) / n + 1 := by
        rw [Nat.div_eq_sub_div hn (by omega)]
      have e2 : i % n = (i - n) % n := by rw [Nat.mod_eq_sub_mod (by omega)]
      rw [e1, e2]
      exact ⟨xs, by simpa using h1, h2⟩
theorem flatten_len {n : Nat} : ∀ (xss : List (List Value)), (∀ xs ∈ xss, xs.length = n) → xss.flatten.length = xss.length * n
  | [], _ => by simp
  | x :: xss, h => by
    rw [List.flatten_cons, List.length_append, h x (List.mem_cons_self ..), flatten_len xss fun y hy => h y (List.mem_cons_of_mem _ hy), List.length_cons, Nat.succ_mul]
    omega
theorem argp_slice {e : TypeId} {n : Nat} {R : List Value → Prop} (ht : P.underlying t = some (.slice e)) (hn : 0 < n) (hCe : P.cellsOf e = n) (hE : ArgP enc P w base held e n R) :
    ArgP enc P w base held t 1 fun cs => ∃ v xss, cs = [v] ∧ SlG w n v (List.flatten xss) ∧ ∀ xs ∈ xss, xs.length = n ∧ R xs := by
  intro fuel cs x h
  rcases open_slice ht h with h0 | ⟨a, len, cap, m, k, D, Pl, hcs, hb, hl, hm, hmm, hx, hi⟩
  · exact ⟨by rw [h0.1]; rfl, .slice none 0 0, [], h0.1, SlG.nil w n, by simp⟩
  · refine ⟨by rw [hcs]; rfl, .slice (some a) len cap, ?_⟩
    simp only [if_true] at hmm
    subst hmm
    rw [hCe] at hi
    have key : ∀ i, i < len → ∃ cs' : List Value, (cs'.length = n ∧ R cs') ∧ ∀ j, j < n → w.cell? ((a.add (i * n)).add j) = cs'[j]? := by
      intro i hlt
      obtain ⟨cs', hc, htr⟩ := hi i (by omega)
      obtain ⟨_, hcl, hat⟩ := World.cells?_some hc
      exact ⟨cs', hE _ _ _ htr, hat⟩
    obtain ⟨xss, hxl, hxs⟩ := list_of' len key
    have hall : ∀ xs ∈ xss, xs.length = n ∧ R xs := fun xs hx => by
      obtain ⟨i, hi⟩ := List.mem_iff_getElem?.1 hx
      exact (hxs i xs hi).1
    have hfl := flatten_len xss fun xs hx => (hall xs hx).1
    refine ⟨xss, hcs, ⟨some a, len, m, rfl, by rw [hfl, hxl], hl, fun hne => ?_⟩, hall⟩
    obtain ⟨b, o, s⟩ := a
    have hs : s = none := by
      have h0 : 0 < xss.length := by omega
      obtain ⟨y, hy⟩ : ∃ y, w.cell? (((⟨b, o, s⟩ : Addr).add (0 * n)).add 0) = some y := by
        have hq := hxs 0 xss[0] (List.getElem?_eq_getElem h0)
        exact ⟨_, (hq.2 0 hn).trans (List.getElem?_eq_getElem (by rw [hq.1.1]; exact hn))⟩
      clear hi hxs key hall
      cases s with
      | none => rfl
      | some x =>
        exfalso
        rw [Nat.zero_mul] at hy
        unfold World.cell? Addr.add at hy
        repeat' split at hy
        all_goals simp_all
    subst hs
    refine ⟨b, o, rfl, fun i v hv => ?_⟩
    obtain ⟨xs, h1, h2⟩ := flatten_get xss i (fun xs hx => (hall xs hx).1) hn v hv
    have hq := hxs _ _ h1
    have hc := hq.2 (i % n) (Nat.mod_lt _ hn)
    rw [h2] at hc
    rw [← hc, add_pl, add_pl]
    congr 2
    have := Nat.div_add_mod i n
    rw [Nat.mul_comm] at this
    omega
end
end Go.Dn
end
section
/-! What arguments of the reference's types read. -/
set_option maxRecDepth 10000
set_option linter.unusedVariables false
set_option linter.unusedSimpArgs false
namespace Go.Dn
open Go Go.ChangeShapes Go.WideShapes Go.Deep
def ints (l : List (TypeId × IntKind)) : List (TypeId × Nat × (List Value → Prop)) := l.map fun x => (x.1, 1, fun cs => ∃ n, cs = [.int x.2 n] ∧ (Lit.int x.2 n).wf = true)
theorem wf_inR1 {k : IntKind} {n : Int} (hk : k = .u64 ∨ k = .i64 ∨ k = .u32) (h : (Lit.int k n).wf = true) : inR1 k n := by
  have h : (decide (k.min ≤ n) && decide (n ≤ k.max)) = true := h
  simp only [Bool.and_eq_true, decide_eq_true_eq] at h
  rcases hk with rfl | rfl | rfl
  · have h1 : (0 : Int) ≤ n := h.1
    have h2 : n ≤ 18446744073709551615 := h.2
    exact ⟨h1, by omega⟩
  · have h1 : (-9223372036854775808 : Int) ≤ n := h.1
    have h2 : n ≤ 9223372036854775807 := h.2
    exact ⟨h1, h2⟩
  · have h1 : (0 : Int) ≤ n := h.1
    have h2 : n ≤ 4294967295 := h.2
    exact ⟨h1, by omega⟩
theorem rl_ints : ∀ (l : List (TypeId × IntKind)) (cs : List Value), (∀ x ∈ l, x.2 = .u64 ∨ x.2 = .i64 ∨ x.2 = .u32) → RL (ints l) cs → ∃ r, cs = rc (l.map (·.2)) r ∧ r.length = l.length ∧ inR (l.map (·.2)) r
  | [], cs, _, h => ⟨[], h, rfl, trivial⟩
  | x :: l, cs, hk, h => by
    obtain ⟨a, b, rfl, _, ⟨n, rfl, hw⟩, hb⟩ := h
    obtain ⟨r, rfl, hl, hin⟩ := rl_ints l b (fun y hy => hk y (List.mem_cons_of_mem _ hy)) hb
    exact ⟨n :: r, rfl, by simp [hl], wf_inR1 (hk x (List.mem_cons_self ..)) hw, hin⟩
theorem rl_append : ∀ (L1 L2 : List (TypeId × Nat × (List Value → Prop))) (cs : List Value), RL (L1 ++ L2) cs → ∃ a b, cs = a ++ b ∧ RL L1 a ∧ RL L2 b
  | [], L2, cs, h => ⟨[], cs, rfl, rfl, h⟩
  | x :: L1, L2, cs, h => by
    obtain ⟨a, b, rfl, h1, h2, h3⟩ := h
    obtain ⟨c, d, rfl, h4, h5⟩ := rl_append L1 L2 b h3
    exact ⟨a ++ c, d, by simp, ⟨a, c, rfl, h1, h2, h4⟩, h5⟩
section
variable {H : Type} {enc : TypeId × Value → H} {w : World} {base : Nat} {held : Bool}
theorem al_ints : ∀ (l : List (TypeId × IntKind)), (∀ x ∈ l, P.underlying x.1 = some (.int x.2)) → AL enc P w base held (ints l)
  | [], _ => trivial
  | x :: l, h => ⟨argp_int (h x (List.mem_cons_self ..)), al_ints l fun y hy => h y (List.mem_cons_of_mem _ hy)⟩
theorem al_append : ∀ (L1 L2 : List (TypeId × Nat × (List Value → Prop))), AL enc P w base held L1 → AL enc P w base held L2 → AL enc P w base held (L1 ++ L2)
  | [], L2, _, h => h
  | x :: L1, L2, h, h' => ⟨h.1, al_append L1 L2 h.2 h'⟩
theorem ints_sum (l : List (TypeId × IntKind)) : ((ints l).map (·.2.1)).sum = l.length := by
  induction l with
  | nil => rfl
  | cons x l ih => simp only [ints, List.map_cons, List.sum_cons, List.length_cons] at ih ⊢; omega
/-- A record among the arguments. -/
theorem argp_rec {t : TypeId} (l : List (TypeId × IntKind)) (ht : P.underlying t = some (.struct (P.fieldsOf t))) (hm : (P.fieldsOf t).toList.map (fun f => (f.offset, f.type, P.cellsOf f.type)) = offL 0 (ints l)) (hC : P.cellsOf t = l.length) (hu : ∀ x ∈ l, P.underlying x.1 = some (.int x.2))
    (hk : ∀ x ∈ l, x.2 = .u64 ∨ x.2 = .i64 ∨ x.2 = .u32) : ArgP enc P w base held t l.length fun cs => ∃ r, cs = rc (l.map (·.2)) r ∧ r.length = l.length ∧ inR (l.map (·.2)) r := by
  have hs := ints_sum l
  have := argp_struct (enc := enc) (w := w) (base := base) (held := held) ht hm (by rw [hC, hs]) (al_ints l hu)
  rw [hs] at this
  exact this.imp fun cs _ h => rl_ints l cs hk h
theorem args_rcs {ks : List IntKind} {n : Nat} (hn : n = ks.length) : ∀ (xss : List (List Value)), (∀ xs ∈ xss, xs.length = n ∧ ∃ r, xs = rc ks r ∧ r.length = n ∧ inR ks r) → ∃ rs, xss.flatten = rcs ks rs ∧ lenR ks rs ∧ ∀ r ∈ rs, inR ks r
  | [], _ => ⟨[], rfl, by intro r hr; simp at hr, by simp⟩
  | x :: xss, h => by
    obtain ⟨_, r, rfl, hl, hin⟩ := h x (List.mem_cons_self ..)
    obtain ⟨rs, he, hlr, hir⟩ := args_rcs hn xss fun y hy => h y (List.mem_cons_of_mem _ hy)
    refine ⟨r :: rs, by rw [List.flatten_cons, he, rcs_cons], fun q hq => ?_, fun q hq => ?_⟩
    · rcases List.mem_cons.1 hq with rfl | hq
      · rw [hl, hn]
      · exact hlr q hq
    · rcases List.mem_cons.1 hq with rfl | hq
      · exact hin
      · exact hir q hq
theorem arg_list {t e : TypeId} {n : Nat} {ks : List IntKind} (hn : n = ks.length) (hn0 : 0 < n) (hu : P.underlying t = some (.slice e)) (hC : P.cellsOf e = n) (hE : ArgP enc P w base held e n fun cs => ∃ r, cs = rc ks r ∧ r.length = n ∧ inR ks r)
    {v : Value} {d : DataW H} {p : List MemPlace} (hc : v.cells = #[v]) (h : DataW.Trod enc P w base (fun _ => true) held t v d p) : ∃ rs, SlG w n v (rcs ks rs) ∧ lenR ks rs ∧ ∀ r ∈ rs, inR ks r := by
  obtain ⟨fuel, hf⟩ := h
  rw [hc] at hf
  obtain ⟨_, v', xss, he, hS, hall⟩ := argp_slice hu hn0 hC hE _ _ _ hf
  simp at he
  subst he
  obtain ⟨rs, hfl, h1, h2⟩ := args_rcs hn xss hall
  rw [hfl] at hS
  exact ⟨rs, hS, h1, h2⟩
theorem p_Use : ArgP enc P w base held T_ref05_Use 3 fun cs => ∃ r, cs = rc kUse r ∧ r.length = 3 ∧ inR kUse r :=
  argp_rec [(T_int, .i64), (T_int, .i64), (T_uint32, .u32)] (by kernel_rfl) (by kernel_rfl) (by kernel_rfl) (by simp only [List.mem_cons, List.not_mem_nil, or_false]; rintro x (rfl | rfl | rfl) <;> first | exact i_T_int | exact i_T_uint32) (by decide)
theorem p_Slot : ArgP enc P w base held T_ref05_Slot 4 fun cs => ∃ r, cs = rc kSlot r ∧ r.length = 4 ∧ inR kSlot r :=
  argp_rec [(T_int, .i64), (T_uint32, .u32), (T_int, .i64), (T_int, .i64)] (by kernel_rfl) (by kernel_rfl) (by kernel_rfl) (by simp only [List.mem_cons, List.not_mem_nil, or_false]; rintro x (rfl | rfl | rfl | rfl) <;> first | exact i_T_int | exact i_T_uint32) (by decide)
theorem p_Record : ArgP enc P w base held T_ref05_Record 4 fun cs => ∃ r, cs = rc kRecord r ∧ r.length = 4 ∧ inR kRecord r :=
  argp_rec [(T_uint32, .u32), (T_uint32, .u32), (T_int, .i64), (T_int, .i64)] (by kernel_rfl) (by kernel_rfl) (by kernel_rfl) (by simp only [List.mem_cons, List.not_mem_nil, or_false]; rintro x (rfl | rfl | rfl | rfl) <;> first | exact i_T_int | exact i_T_uint32) (by decide)
theorem arg_Uses {v : Value} {d : DataW H} {p : List MemPlace} (hc : v.cells = #[v]) (h : DataW.Trod enc P w base (fun _ => true) held T_Lref05_Use v d p) : ∃ rs, SlG w 3 v (rcs kUse rs) ∧ lenR kUse rs ∧ ∀ r ∈ rs, inR kUse r :=
  arg_list (n := 3) rfl (by omega) u_T_Lref05_Use (by kernel_rfl) p_Use hc h
theorem arg_Slots {v : Value} {d : DataW H} {p : List MemPlace} (hc : v.cells = #[v]) (h : DataW.Trod enc P w base (fun _ => true) held T_Lref05_Slot v d p) : ∃ rs, SlG w 4 v (rcs kSlot rs) ∧ lenR kSlot rs ∧ ∀ r ∈ rs, inR kSlot r :=
  arg_list (n := 4) rfl (by omega) u_T_Lref05_Slot (by kernel_rfl) p_Slot hc h
theorem arg_Records {v : Value} {d : DataW H} {p : List MemPlace} (hc : v.cells = #[v]) (h : DataW.Trod enc P w base (fun _ => true) held T_Lref05_Record v d p) : ∃ rs, SlG w 4 v (rcs kRecord rs) ∧ lenR kRecord rs ∧ ∀ r ∈ rs, inR kRecord r :=
  arg_list (n := 4) rfl (by omega) u_T_Lref05_Record (by kernel_rfl) p_Record hc h
theorem p_u8 : ArgP enc P w base held T_uint8 1 fun cs => ∃ b : Nat, cs = bvs [b] ∧ b < 256 :=
  (argp_int i_T_uint8).imp fun cs _ ⟨n, hn, hw⟩ => by
    have hw : (decide (IntKind.u8.min ≤ n) && decide (n ≤ IntKind.u8.max)) = true := hw
    simp only [Bool.and_eq_true, decide_eq_true_eq] at hw
    have h1 : (0 : Int) ≤ n := hw.1
    have h2 : n ≤ 255 := hw.2
    refine ⟨n.toNat, ?_, by omega⟩
    rw [hn]
    simp only [bvs, List.map_cons, List.map_nil]
    congr 2
    omega
theorem args_bvs : ∀ (xss : List (List Value)), (∀ xs ∈ xss, xs.length = 1 ∧ ∃ b : Nat, xs = bvs [b] ∧ b < 256) → ∃ bs, xss.flatten = bvs bs ∧ ∀ b ∈ bs, b < 256
  | [], _ => ⟨[], rfl, by simp⟩
  | x :: xss, h => by
    obtain ⟨_, b, rfl, hb⟩ := h x (List.mem_cons_self ..)
    obtain ⟨bs, he, hall⟩ := args_bvs xss fun y hy => h y (List.mem_cons_of_mem _ hy)
    refine ⟨b :: bs, by rw [List.flatten_cons, he]; rfl, fun q hq => ?_⟩
    rcases List.mem_cons.1 hq with rfl | hq
    · exact hb
    · exact hall q hq
theorem arg_bytes {v : Value} {d : DataW H} {p : List MemPlace} (hc : v.cells = #[v]) (h : DataW.Trod enc P w base (fun _ => true) held T_Luint8 v d p) : ∃ bs, SlG w 1 v (bvs bs) ∧ ∀ b ∈ bs, b < 256 := by
  obtain ⟨fuel, hf⟩ := h
  rw [hc] at hf
  obtain ⟨_, v', xss, he, hS, hall⟩ := argp_slice u_T_Luint8 (by omega) (by kernel_rfl) p_u8 _ _ _ hf
  simp at he
  subst he
  obtain ⟨bs, hfl, h1⟩ := args_bvs xss hall
  rw [hfl] at hS
  exact ⟨bs, hS, h1⟩
end
end Go.Dn
end
section
/-! Structs of the reference among the arguments. -/
set_option maxRecDepth 10000
set_option linter.unusedVariables false
set_option linter.unusedSimpArgs false
namespace Go.Dn
open Go Go.ChangeShapes Go.WideShapes Go.Deep
theorem args_ints {k : IntKind} (hk : k = .u64 ∨ k = .i64 ∨ k = .u32) : ∀ (xss : List (List Value)), (∀ xs ∈ xss, xs.length = 1 ∧ ∃ n, xs = [.int k n] ∧ (Lit.int k n).wf = true) → ∃ r : List Int, xss.flatten = rc (List.replicate xss.length k) r ∧ r.length = xss.length ∧ inR (List.replicate xss.length k) r
  | [], _ => ⟨[], rfl, rfl, trivial⟩
  | x :: xss, h => by
    obtain ⟨_, n, rfl, hw⟩ := h x (List.mem_cons_self ..)
    obtain ⟨r, he, hl, hin⟩ := args_ints hk xss fun y hy => h y (List.mem_cons_of_mem _ hy)
    exact ⟨n :: r, by rw [List.flatten_cons, he]; rfl, by simp [hl], wf_inR1 hk hw, hin⟩
theorem rc_app : ∀ (k1 k2 : List IntKind) (r1 r2 : List Int), r1.length = k1.length → rc k1 r1 ++ rc k2 r2 = rc (k1 ++ k2) (r1 ++ r2)
  | [], k2, [], r2, _ => rfl
  | _ :: k1, k2, n :: r1, r2, h => by
    have := rc_app k1 k2 r1 r2 (by simpa using h)
    show _ :: (rc k1 r1 ++ rc k2 r2) = _
    rw [this]; rfl
  | [], _, _ :: _, _, h => by simp at h
  | _ :: _, _, [], _, h => by simp at h
theorem inR_append : ∀ (k1 k2 : List IntKind) (r1 r2 : List Int), r1.length = k1.length → inR k1 r1 → inR k2 r2 → inR (k1 ++ k2) (r1 ++ r2)
  | [], k2, [], r2, _, _, h => h
  | _ :: k1, k2, n :: r1, r2, h, h1, h2 => ⟨h1.1, inR_append k1 k2 r1 r2 (by simpa using h) h1.2 h2⟩
  | [], _, _ :: _, _, h, _, _ => by simp at h
  | _ :: _, _, [], _, h, _, _ => by simp at h
section
variable {H : Type} {enc : TypeId × Value → H} {w : World} {base : Nat} {held : Bool}
theorem p_Header : ArgP enc P w base held T_ref05_Header 6 fun cs => ∃ r, cs = rc kHeader r ∧ r.length = 6 ∧ inR kHeader r :=
  argp_rec [(T_uint64, .u64), (T_uint64, .u64), (T_int, .i64), (T_int, .i64), (T_int, .i64), (T_uint32, .u32)] (by kernel_rfl) (by kernel_rfl) (by kernel_rfl) (by simp only [List.mem_cons, List.not_mem_nil, or_false]; rintro x (rfl | rfl | rfl | rfl | rfl | rfl) <;> first | exact i_T_int | exact i_T_uint32 | exact i_T_uint64) (by decide)
theorem p_A8int : ArgP enc P w base held T_A8int 8 fun cs => ∃ r, cs = rc (List.replicate 8 .i64) r ∧ r.length = 8 ∧ inR (List.replicate 8 .i64) r :=
  (argp_array (m := 8) (n := 1) (e := T_int) (by kernel_rfl) (by kernel_rfl) (by kernel_rfl) (argp_int i_T_int)).imp fun cs _ ⟨xss, hcs, hl, hall⟩ => by
    obtain ⟨r, he, hr, hin⟩ := args_ints (.inr (.inl rfl)) xss hall
    rw [hl] at he hr hin
    exact ⟨r, by rw [hcs, he], hr, hin⟩
theorem p_Inode : ArgP enc P w base held T_ref05_Inode 15 fun cs => ∃ r, cs = rc kInode r ∧ r.length = 15 ∧ inR kInode r := by
  have hA : AL enc P w base held (ints [(T_uint32, .u32), (T_uint32, .u32), (T_int, .i64), (T_int, .i64), (T_uint32, .u32)] ++ ((T_A8int, 8, fun cs => ∃ r, cs = rc (List.replicate 8 .i64) r ∧ r.length = 8 ∧ inR (List.replicate 8 .i64) r) :: ints [(T_int, .i64), (T_int, .i64)])) :=
    al_append _ _ (al_ints _ (by simp only [List.mem_cons, List.not_mem_nil, or_false]; rintro x (rfl | rfl | rfl | rfl | rfl) <;> first | exact i_T_int | exact i_T_uint32)) ⟨p_A8int, al_ints _ (by simp only [List.mem_cons, List.not_mem_nil, or_false]; rintro x (rfl | rfl) <;> exact i_T_int)⟩
  refine (argp_struct (t := T_ref05_Inode) (by kernel_rfl) (by kernel_rfl) (by kernel_rfl) hA).imp fun cs hl h => ?_
  obtain ⟨a, b, rfl, ha, c, d, rfl, hc, ⟨r2, rfl, hr2, hi2⟩, hd⟩ := rl_append _ _ _ h
  obtain ⟨r1, rfl, hr1, hi1⟩ := rl_ints _ _ (by decide) ha
  obtain ⟨r3, rfl, hr3, hi3⟩ := rl_ints _ _ (by decide) hd
  refine ⟨r1 ++ (r2 ++ r3), ?_, by simp [hr1, hr2, hr3], ?_⟩
  · exact (congrArg (rc _ r1 ++ ·) (rc_app (List.replicate 8 .i64) _ r2 r3 (by rw [hr2]; rfl))).trans (rc_app _ _ r1 _ (by rw [hr1]; rfl))
  · exact inR_append _ _ _ _ (by rw [hr1]; rfl) hi1 (inR_append (List.replicate 8 .i64) _ _ _ (by rw [hr2]; rfl) hi2 hi3)
theorem arg_of {t : TypeId} {n : Nat} {R : List Value → Prop} (hp : ArgP enc P w base held t n R) {cs : Array Value} {d : DataW H} {p : List MemPlace} (h : DataW.Trod enc P w base (fun _ => true) held t (.agg cs) d p) : ∃ vs, cs = ⟨vs⟩ ∧ R vs := by
  obtain ⟨fuel, hf⟩ := h
  exact ⟨cs.toList, rfl, (hp _ _ _ hf).2⟩
theorem arg_Inode {cs : Array Value} {d : DataW H} {p : List MemPlace} (h : DataW.Trod enc P w base (fun _ => true) held T_ref05_Inode (.agg cs) d p) : ∃ r, cs = ⟨rc kInode r⟩ ∧ r.length = 15 ∧ inR kInode r := by
  obtain ⟨vs, rfl, r, rfl, h1, h2⟩ := arg_of p_Inode h
  exact ⟨r, rfl, h1, h2⟩
theorem arg_Header {cs : Array Value} {d : DataW H} {p : List MemPlace} (h : DataW.Trod enc P w base (fun _ => true) held T_ref05_Header (.agg cs) d p) : ∃ r, cs = ⟨rc kHeader r⟩ ∧ r.length = 6 ∧ inR kHeader r := by
  obtain ⟨vs, rfl, r, rfl, h1, h2⟩ := arg_of p_Header h
  exact ⟨r, rfl, h1, h2⟩
end
end Go.Dn
end
section
/-! From a contract to 'Calls'. -/
set_option linter.unusedVariables false
set_option linter.unusedSimpArgs false
namespace Go.Dn
open Go
attribute [local semireducible] wCall wNext callW
theorem calls_of {P : Program} {f : FuncId} {fn : Func} {args : List Value} {w : World} {R : Value → World → Prop} (hf : P.funcs[f]? = some fn) (hname : (fn.name == "runtime.NumGoroutine") = false) (hb : fn.body.isNone = false) (h : wCall P f args w R) :
    Calls P f ⟨args⟩ w fun e w' => ∃ v, e = .returned v ∧ R v w' := by
  unfold wCall wNext callFunc at h
  simp only [program, Sem.run_bind, Sem.run, Result.andThen_ok, hf, hname, hb, Bool.false_eq_true, if_false] at h
  unfold callW at h
  refine Calls.mono h fun e w' he => ?_
  cases e <;> first | exact ⟨_, rfl, he⟩ | exact he.elim
end Go.Dn
end
