import Derived.Test.YtflnhihdbhjlnaaCuse4
import Derived.Laws.StructEq
/-! Law 09: told; equality of structs of three integers. -/
set_option maxRecDepth 10000
set_option linter.unusedVariables false
set_option linter.unusedSimpArgs false
namespace Go.Dn
open Go
/-- The fields of a struct whose parts are integers, held one by one. -/
def eqInts : List (IntKind × Int × Int) → Bool
  | [] => true
  | x :: l => (x.2.1 == x.2.2) && eqInts l
theorem eqFields_ints {P : Program} (d : Nat) (w : World) : ∀ (fs : List Field) (l : List (IntKind × Int × Int)) (xs ys : Array Value), fs.length = l.length →
    (∀ (i : Nat) (f : Field) (x : IntKind × Int × Int), fs[i]? = some f → l[i]? = some x → f.name ≠ "_" ∧ oneT P f.type = true ∧ P.underlying f.type = some (.int x.1) ∧ xs[f.offset]? = some (.int x.1 x.2.1) ∧ ys[f.offset]? = some (.int x.1 x.2.2)) →
    (Op.eqFields (d + 1) xs ys fs).run P w = .ok (eqInts l) w
  | [], [], _, _, _, _ => rfl
  | [], _ :: _, _, _, h, _ => by cases h
  | _ :: _, [], _, _, h, _ => by cases h
  | f :: fs, x :: l, xs, ys, hl, h => by
    obtain ⟨h1, h2, h3, h4, h5⟩ := h 0 f x rfl rfl
    have ih := eqFields_ints d w fs l xs ys (by simpa using hl) fun i g y hg hy => h (i + 1) g y (by simpa using hg) (by simpa using hy)
    unfold Op.eqFields
    rw [if_pos h1]
    simp only [Sem.run_bind, part_one h2 h4, part_one h2 h5, Result.andThen_ok, eqIn_int d _ _ h3]
    unfold eqInts
    by_cases hb : x.2.1 = x.2.2
    · simp only [hb, BEq.rfl, Bool.not_true, Bool.false_eq_true, if_false, Bool.true_and]
      exact ih
    · have : (x.2.1 == x.2.2) = false := by simpa using hb
      simp only [this, Bool.not_false, if_true, Bool.false_and]
      rfl
section
variable {w : World} {K : Value → World → Prop}
theorem ref05_Use_fields : (P.fieldsOf T_ref05_Use).toList.map (fun (f : Field) => (f.name == "_", f.offset, oneT P f.type, P.underlying f.type)) = [(false, 0, true, some (.int .i64)), (false, 1, true, some (.int .i64)), (false, 2, true, some (.int .u32))] := by kernel_rfl
theorem ne_ref05_Use (u v : U) : wBin P .neq T_ref05_Use (.agg ⟨u.cells⟩) (.agg ⟨v.cells⟩) w K = K (.bool (!decide (u = v))) w := by
  refine bin_neA2 e_T_ref05_Use fun d w' => ?_
  have hf := ref05_Use_fields
  have e : (Op.equalIn (d + 2) T_ref05_Use (.agg ⟨u.cells⟩) (.agg ⟨v.cells⟩)).run P w' = (Op.eqFields (d + 1) ⟨u.cells⟩ ⟨v.cells⟩ (P.fieldsOf T_ref05_Use).toList).run P w' :=
    run_equalIn_struct w' (d + 1) T_ref05_Use _ _ (by kernel_rfl) (by kernel_rfl)
  rw [e]
  have hlen : (P.fieldsOf T_ref05_Use).toList.length = 3 := by have := congrArg List.length hf; simpa using this
  rw [eqFields_ints d w' _ [(.i64, u.live, v.live), (.i64, u.state, v.state), (.u32, u.age, v.age)] _ _ hlen ?_]
  · congr 1
    obtain ⟨a, b, c⟩ := u
    obtain ⟨a', b', c'⟩ := v
    simp only [eqInts, Bool.and_true]
    rw [Bool.eq_iff_iff]
    simp
  · intro i f x hfi hx
    have h1 := congrArg (fun l => l[i]?) hf
    simp only [List.getElem?_map, hfi, Option.map_some] at h1
    rcases i with _ | _ | _ | i
    · simp at h1 hx; obtain ⟨n, o, a, b⟩ := h1; subst hx; exact ⟨n, a, b, by rw [o]; rfl, by rw [o]; rfl⟩
    · simp at h1 hx; obtain ⟨n, o, a, b⟩ := h1; subst hx; exact ⟨n, a, b, by rw [o]; rfl, by rw [o]; rfl⟩
    · simp at h1 hx; obtain ⟨n, o, a, b⟩ := h1; subst hx; exact ⟨n, a, b, by rw [o]; rfl, by rw [o]; rfl⟩
    · simp at hx
theorem law09_told {u : U} {k : Value → World → Prop} (hk : ∀ w', Ex [] w w' → k (.agg ⟨u.cells⟩) w') : wCall P n_law09_told [.agg ⟨u.cells⟩] w k := by
  refine call_law09_told _ ?_
  unfold F_law09_told
  refine box_i (vs := u.cells) rfl fun w1 g1 hg1 hE1 B1 => ?_
  refine alloc_i z_T_ref05_Use rfl fun w2 g2 hg2 hE2 B2 => ?_
  have B1' := B1.ex hE2 (by simp)
  have c0 : w2.cell? ⟨g1, 0, none⟩ = some (.int .i64 u.live) := B1'.cell 0
  have c1 : w2.cell? ⟨g1, 0 + 1, none⟩ = some (.int .i64 u.state) := B1'.cell 1
  have c2 : w2.cell? ⟨g1, 0 + 2, none⟩ = some (.int .u32 u.age) := B1'.cell 2
  simp only [fA_T_codec_Use_0, fA_T_codec_Use_1, fA_T_codec_Use_2]
  rw [ld_one o_T_int c0, ld_one o_T_int c1, ld_one o_T_uint32 c2]
  rw [bl_T_ref05_Use (cs := u.cells) (by
    rw [fill_cons (off := 0) (size := 1) rfl rfl rfl (by simp), fill_cons (off := 1) (size := 1) rfl rfl rfl (by simp [splice]), fill_cons (off := 2) (size := 1) rfl rfl rfl (by simp [splice])]
    rfl)]
  refine st_agg g_T_ref05_Use rfl (U.cells_c _) B2 (by simp) fun w3 hE3 B3 => ?_
  have B3' : Blk w3 g2 T_ref05_Use u.cells := B3
  have l1 := hE1.le
  exact res_agg g_T_ref05_Use B3'.all rfl (hk w3 ((hE1.trans hE2).step hE3 (by simp; omega)))
end
end Go.Dn
