/-
  'CodecPointers': for every input the law returns true, and each argument reads behind the call as it read before; no conditions.
-/
import Derived.Test.YtflnhihdbhjlnaaRows
import Derived.WalkKit
import Derived.ProofKit
import Derived.OpenShut
import Derived.ShutString
import Derived.ChangeOld
import Derived.Below
import Derived.Test.YtflnhihdbhjlnaaXPtr5
import Derived.Test.YtflnhihdbhjlnaaFx
import Derived.Test.YtflnhihdbhjlnaaFa
import Derived.Test.YtflnhihdbhjlnaaFb
import Derived.Test.YtflnhihdbhjlnaaFc
import Derived.Test.YtflnhihdbhjlnaaFd
import Derived.Test.YtflnhihdbhjlnaaFe

namespace Go.Proofs.Ytflnhihdbhjlnaa.codecPointers
open Go.ChangeShapes Go.WideShapes Go.ChangeAt Go.RowKit
set_option linter.unusedVariables false

set_option maxRecDepth 100000 in
theorem lifted (os : Os) (started : os.Started) (H : Type) (enc : TypeId × Value → H) :
    ReturnsInHanded {} Try.checked os 8 .any (Rows.codecPointersSpec.pre6 enc Try.prog Try.f8 Rows.codecPointersRow.domain false) (Rows.codecPointersSpec.post enc Try.prog Try.f8 false true false false) := by
  refine returnsInHanded_of_change (C := Try.checked) Go.Dn.Fx.own started (by kernel_rfl) Try.func8
    (ChangeSpec.witness6 (enc := enc) (C := Try.checked) false ⟨#[], #[.agg ⟨[.int .i64 0, .int .i64 0, .int .i64 0, .int .i64 0, .int .i64 0, .int .i64 0, .int .i64 0, .int .i64 0, .int .i64 0, .int .i64 0, .int .i64 0, .int .i64 0, .int .i64 0, .int .i64 0, .int .i64 0, .int .i64 0, .int .i64 0, .int .i64 0, .int .i64 0, .int .i64 0, .int .i64 0, .int .i64 0, .int .i64 0, .int .i64 0, .int .i64 0, .int .i64 0, .int .i64 0, .int .i64 0, .int .i64 0, .int .i64 0, .int .i64 0, .int .i64 0]⟩, .slice none 0 0], []⟩ 8 (by kernel_rfl) (by kernel_rfl) (by kernel_rfl) (by kernel_rfl)) ?_
  intro W base args ds gs before hval0 hW hcnd _
  have hval : ∀ (j : Nat) t v, Try.f8.params[j]? = some t → args[j]? = some v → Value.okWide Try.prog W .any base t v := hval0
  have hW' := hW
  obtain ⟨p, q, hA0, hV, rfl, hfz, hnd⟩ := hW
  have hA : DataW.TrodAll enc Try.prog W 0 (fun _ => true) true Try.f8.params.toList args.toList ds p := hA0
  rw [Try.params8] at hA hval
  obtain ⟨v0, vs0, d0, ds0, p0, q0, hargs, rfl, rfl, h0, r0⟩ := trodAll_cons hA
  obtain ⟨v1, vs1, d1, ds1, p1, q1, rfl, rfl, rfl, h1, r1⟩ := trodAll_cons r0
  obtain ⟨rfl, rfl, rfl⟩ := trodAll_nil r1
  obtain rfl : args = #[v0, v1] := by cases args; simp_all
  obtain ⟨rfl, rfl⟩ := trodVars_none hV
  have k0 := h0
  have lt0 : ∀ x ∈ p0, x.block < W.heap.size := by obtain ⟨m, hm⟩ := k0; exact DataW.trod_lt m _ _ _ hm
  obtain ⟨c0, rfl, _⟩ := Go.Dn.okWide_arr Try.underlying118 (hval 0 118 v0 rfl rfl)
  obtain ⟨u0, rfl, hl0⟩ := Go.Dn.arg_A32int h0
  have k1 := h1
  have lt1 : ∀ x ∈ p1, x.block < W.heap.size := by obtain ⟨m, hm⟩ := k1; exact DataW.trod_lt m _ _ _ hm
  obtain ⟨a1, len1, cap1, rfl⟩ := okWide_slice Try.underlying33 (hval 1 33 v1 rfl rfl)
  obtain ⟨bs1, S1, hb1⟩ := Go.Dn.arg_bytes rfl h1
  clear hA0 hval0
  refine (Go.Dn.calls_of Try.func8 (by kernel_rfl) (by kernel_rfl) (Go.Dn.law05_CodecPointers hl0 S1 hb1 (k := fun v w' => v = .bool true ∧ Below W.heap.size W w') fun w' hE => ⟨rfl, hE.below (by simp)⟩)).mono fun e W' he => ?_
  obtain ⟨v, rfl, rfl, bel⟩ := he
  exact ⟨_, rfl, _, _, _, [], _, [], hW', trodAll_mk1 (shut_bool Try.underlying4 _), (trodAll_cons_mk (Below.trod Go.Dn.Fx.laid (by kernel_rfl) (of_decide_eq_true (by kernel_rfl)) k0 bel lt0) (trodAll_cons_mk (Below.trod Go.Dn.Fx.laid (by kernel_rfl) (of_decide_eq_true (by kernel_rfl)) k1 bel lt1) trodAll_mk0)), rfl, bel.frame _, fun h => by cases h⟩

theorem c0 : Try.pinned.checked.prog.funcNamed Rows.codecPointersRow.func = some 8 := by kernel_rfl
theorem c1 : (Rows.codecPointersRow.inPlace == Try.prog.inPlace 8) = true := by kernel_rfl
theorem c2 : (Rows.codecPointersRow.unfollowed == Try.prog.unfollowed 8) = true := by kernel_rfl
theorem c3 : (Rows.codecPointersRow.recurses == Try.prog.recurses 8) = true := by kernel_rfl
theorem c4 : (Rows.codecPointersRow.named == Try.prog.varsNamed 8) = true := by kernel_rfl
theorem c5 : Go.Dn.restFacts Try.prog Try.f8 Rows.codecPointersSpec Rows.codecPointersRow = true := by kernel_rfl
theorem c6 : Go.Dn.restFacts2 Try.prog Try.f8 Rows.codecPointersSpec Rows.codecPointersRow = true := by kernel_rfl
theorem c7 : Try.f8.params.all (Try.prog.readableRec ·) = true := by kernel_rfl
theorem c8 : namedTie Try.prog Rows.codecPointersRow.named Rows.codecPointersSpec.vars = true := by kernel_rfl
theorem c9 : joinedFacts Try.pinned.checked.prog 8 Try.f8 Rows.codecPointersSpec Rows.codecPointersRow = true :=
  Go.Dn.joined_of (P := Try.prog) (by kernel_rfl) Go.Dn.Fx.laid Go.Dn.Fx.rowed c7 c8 rfl Go.Dn.Fx.stops rfl Go.Dn.Fx.stopKnobs c1 c2 c3 c4 c5 Go.Dn.Fx.keys rfl Go.Dn.Fx.heard Go.Dn.Fx.may Go.Dn.Fx.lifts Go.Dn.Fx.make c6
theorem c10 : Try.f8.isInstance Try.pinned.checked.prog Rows.codecPointersRow.origin Rows.codecPointersRow.targs := of_decide_eq_true (by kernel_rfl)
theorem c11 : Try.f8.isWrapper Try.pinned.checked.prog Rows.codecPointersRow.wrapper Rows.codecPointersRow.mainSum := by unfold Func.isWrapper; first | (rw [if_pos (by decide +kernel)]; kernel_rfl) | (rw [if_neg (by decide +kernel)]; exact ⟨rfl, rfl⟩)
theorem over : Rows.codecPointersRow.holds Try.pinned (OpenSpec.ofChange Rows.codecPointersSpec) :=
  OpenClaim.holds_of_wide 8 Try.f8 rfl rfl rfl rfl rfl rfl rfl ⟨rfl, rfl, rfl, rfl, rfl⟩ rfl rfl rfl rfl rfl c0 Try.func8 c9 c10 c11
    (fun os started H enc _ => lifted os started H enc)

theorem proved : Rows.CodecPointersSaid := over
#print axioms proved
end Go.Proofs.Ytflnhihdbhjlnaa.codecPointers
