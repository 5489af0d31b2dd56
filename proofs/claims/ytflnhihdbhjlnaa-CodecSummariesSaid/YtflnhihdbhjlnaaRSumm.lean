/-
  'CodecSummaries': for every input the law returns true, and each argument reads behind the call as it read before; no conditions.
-/
import Derived.Test.YtflnhihdbhjlnaaRows
import Derived.WalkKit
import Derived.ProofKit
import Derived.OpenShut
import Derived.ShutString
import Derived.ChangeOld
import Derived.Below
import Derived.Test.YtflnhihdbhjlnaaXSum5
import Derived.Test.YtflnhihdbhjlnaaFx
import Derived.Test.YtflnhihdbhjlnaaFa
import Derived.Test.YtflnhihdbhjlnaaFb
import Derived.Test.YtflnhihdbhjlnaaFc
import Derived.Test.YtflnhihdbhjlnaaFd
import Derived.Test.YtflnhihdbhjlnaaFe

namespace Go.Proofs.Ytflnhihdbhjlnaa.codecSummaries
open Go.ChangeShapes Go.WideShapes Go.ChangeAt Go.RowKit
set_option linter.unusedVariables false

set_option maxRecDepth 100000 in
theorem lifted (os : Os) (started : os.Started) (H : Type) (enc : TypeId × Value → H) :
    ReturnsInHanded {} Try.checked os 13 .any (Rows.codecSummariesSpec.pre6 enc Try.prog Try.f13 Rows.codecSummariesRow.domain false) (Rows.codecSummariesSpec.post enc Try.prog Try.f13 false true false false) := by
  refine returnsInHanded_of_change (C := Try.checked) Go.Dn.Fx.own started (by kernel_rfl) Try.func13
    (ChangeSpec.witness6 (enc := enc) (C := Try.checked) false ⟨#[], #[.agg ⟨[.int .u64 0, .int .u64 0, .bool false, .int .i64 0, .int .u32 0, .slice none 0 0]⟩, .slice none 0 0], []⟩ 8 (by kernel_rfl) (by kernel_rfl) (by kernel_rfl) (by kernel_rfl)) ?_
  intro W base args ds gs before hval0 hW hcnd _
  have hval : ∀ (j : Nat) t v, Try.f13.params[j]? = some t → args[j]? = some v → Value.okWide Try.prog W .any base t v := hval0
  have hW' := hW
  obtain ⟨p, q, hA0, hV, rfl, hfz, hnd⟩ := hW
  have hA : DataW.TrodAll enc Try.prog W 0 (fun _ => true) true Try.f13.params.toList args.toList ds p := hA0
  rw [Try.params13] at hA hval
  obtain ⟨v0, vs0, d0, ds0, p0, q0, hargs, rfl, rfl, h0, r0⟩ := trodAll_cons hA
  obtain ⟨v1, vs1, d1, ds1, p1, q1, rfl, rfl, rfl, h1, r1⟩ := trodAll_cons r0
  obtain ⟨rfl, rfl, rfl⟩ := trodAll_nil r1
  obtain rfl : args = #[v0, v1] := by cases args; simp_all
  obtain ⟨rfl, rfl⟩ := trodVars_none hV
  have k0 := h0
  have lt0 : ∀ x ∈ p0, x.block < W.heap.size := by obtain ⟨m, hm⟩ := k0; exact DataW.trod_lt m _ _ _ hm
  obtain ⟨c0, rfl, _⟩ := okWide_struct Try.underlying156 (hval 0 156 v0 rfl rfl)
  obtain ⟨u0, rfl, hl0, hi0⟩ := Go.Dn.arg_Summary h0
  have k1 := h1
  have lt1 : ∀ x ∈ p1, x.block < W.heap.size := by obtain ⟨m, hm⟩ := k1; exact DataW.trod_lt m _ _ _ hm
  obtain ⟨a1, len1, cap1, rfl⟩ := okWide_slice Try.underlying33 (hval 1 33 v1 rfl rfl)
  obtain ⟨bs1, S1, hb1⟩ := Go.Dn.arg_bytes rfl h1
  clear hA0 hval0
  refine (Go.Dn.calls_of Try.func13 (by kernel_rfl) (by kernel_rfl) (Go.Dn.law05_CodecSummaries hl0 hi0 S1 hb1 (k := fun v w' => v = .bool true ∧ Below W.heap.size W w') fun w' hE => ⟨rfl, hE.below (by simp)⟩)).mono fun e W' he => ?_
  obtain ⟨v, rfl, rfl, bel⟩ := he
  exact ⟨_, rfl, _, _, _, [], _, [], hW', trodAll_mk1 (shut_bool Try.underlying4 _), (trodAll_cons_mk (Below.trod Go.Dn.Fx.laid (by kernel_rfl) (of_decide_eq_true (by kernel_rfl)) k0 bel lt0) (trodAll_cons_mk (Below.trod Go.Dn.Fx.laid (by kernel_rfl) (of_decide_eq_true (by kernel_rfl)) k1 bel lt1) trodAll_mk0)), rfl, bel.frame _, fun h => by cases h⟩

theorem c0 : Try.pinned.checked.prog.funcNamed Rows.codecSummariesRow.func = some 13 := by kernel_rfl
theorem c1 : (Rows.codecSummariesRow.inPlace == Try.prog.inPlace 13) = true := by kernel_rfl
theorem c2 : (Rows.codecSummariesRow.unfollowed == Try.prog.unfollowed 13) = true := by kernel_rfl
theorem c3 : (Rows.codecSummariesRow.recurses == Try.prog.recurses 13) = true := by kernel_rfl
theorem c4 : (Rows.codecSummariesRow.named == Try.prog.varsNamed 13) = true := by kernel_rfl
theorem c5 : Go.Dn.restFacts Try.prog Try.f13 Rows.codecSummariesSpec Rows.codecSummariesRow = true := by kernel_rfl
theorem c6 : Go.Dn.restFacts2 Try.prog Try.f13 Rows.codecSummariesSpec Rows.codecSummariesRow = true := by kernel_rfl
theorem c7 : Try.f13.params.all (Try.prog.readableRec ·) = true := by kernel_rfl
theorem c8 : namedTie Try.prog Rows.codecSummariesRow.named Rows.codecSummariesSpec.vars = true := by kernel_rfl
theorem c9 : joinedFacts Try.pinned.checked.prog 13 Try.f13 Rows.codecSummariesSpec Rows.codecSummariesRow = true :=
  Go.Dn.joined_of (P := Try.prog) (by kernel_rfl) Go.Dn.Fx.laid Go.Dn.Fx.rowed c7 c8 rfl Go.Dn.Fx.stops rfl Go.Dn.Fx.stopKnobs c1 c2 c3 c4 c5 Go.Dn.Fx.keys rfl Go.Dn.Fx.heard Go.Dn.Fx.may Go.Dn.Fx.lifts Go.Dn.Fx.make c6
theorem c10 : Try.f13.isInstance Try.pinned.checked.prog Rows.codecSummariesRow.origin Rows.codecSummariesRow.targs := of_decide_eq_true (by kernel_rfl)
theorem c11 : Try.f13.isWrapper Try.pinned.checked.prog Rows.codecSummariesRow.wrapper Rows.codecSummariesRow.mainSum := by unfold Func.isWrapper; first | (rw [if_pos (by decide +kernel)]; kernel_rfl) | (rw [if_neg (by decide +kernel)]; exact ⟨rfl, rfl⟩)
theorem over : Rows.codecSummariesRow.holds Try.pinned (OpenSpec.ofChange Rows.codecSummariesSpec) :=
  OpenClaim.holds_of_wide 13 Try.f13 rfl rfl rfl rfl rfl rfl rfl ⟨rfl, rfl, rfl, rfl, rfl⟩ rfl rfl rfl rfl rfl c0 Try.func13 c9 c10 c11
    (fun os started H enc _ => lifted os started H enc)

theorem proved : Rows.CodecSummariesSaid := over
#print axioms proved
end Go.Proofs.Ytflnhihdbhjlnaa.codecSummaries
