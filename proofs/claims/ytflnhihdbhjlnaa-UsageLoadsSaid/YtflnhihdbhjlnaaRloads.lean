/-
  'UsageLoads': for every input the law returns true, and each argument reads behind the call as it read before; no conditions.
-/
import Derived.Test.YtflnhihdbhjlnaaRows
import Derived.WalkKit
import Derived.ProofKit
import Derived.OpenShut
import Derived.ShutString
import Derived.ChangeOld
import Derived.Below
import Derived.Test.YtflnhihdbhjlnaaArg
import Derived.Test.YtflnhihdbhjlnaaMem8
import Derived.Test.YtflnhihdbhjlnaaFx
import Derived.Test.YtflnhihdbhjlnaaFa
import Derived.Test.YtflnhihdbhjlnaaFb
import Derived.Test.YtflnhihdbhjlnaaFc
import Derived.Test.YtflnhihdbhjlnaaFd
import Derived.Test.YtflnhihdbhjlnaaFe
namespace Go.Proofs.Ytflnhihdbhjlnaa.usageLoads
open Go.ChangeShapes Go.WideShapes Go.ChangeAt Go.RowKit
set_option linter.unusedVariables false

set_option maxRecDepth 100000 in
theorem lifted (os : Os) (started : os.Started) (H : Type) (enc : TypeId × Value → H) :
    ReturnsInHanded {} Try.checked os 15 .any (Rows.usageLoadsSpec.pre6 enc Try.prog Try.f15 Rows.usageLoadsRow.domain false) (Rows.usageLoadsSpec.post enc Try.prog Try.f15 false true false false) := by
  refine returnsInHanded_of_change (C := Try.checked) Go.Dn.Fx.own started (by kernel_rfl) Try.func15
    (ChangeSpec.witness6 (enc := enc) (C := Try.checked) false ⟨#[], #[.int .i64 0, .slice none 0 0], []⟩ 8 (by kernel_rfl) (by kernel_rfl) (by kernel_rfl) (by kernel_rfl)) ?_
  intro W base args ds gs before hval0 hW hcnd _
  have hval : ∀ (j : Nat) t v, Try.f15.params[j]? = some t → args[j]? = some v → Value.okWide Try.prog W .any base t v := hval0
  have hW' := hW
  obtain ⟨p, q, hA0, hV, rfl, hfz, hnd⟩ := hW
  have hA : DataW.TrodAll enc Try.prog W 0 (fun _ => true) true Try.f15.params.toList args.toList ds p := hA0
  rw [Try.params15] at hA hval
  obtain ⟨v0, vs0, d0, ds0, p0, q0, hargs, rfl, rfl, h0, r0⟩ := trodAll_cons hA
  obtain ⟨v1, vs1, d1, ds1, p1, q1, rfl, rfl, rfl, h1, r1⟩ := trodAll_cons r0
  obtain ⟨rfl, rfl, rfl⟩ := trodAll_nil r1
  obtain rfl : args = #[v0, v1] := by cases args; simp_all
  obtain ⟨rfl, rfl⟩ := trodVars_none hV
  obtain ⟨a0, rfl, rfl, rfl, w0⟩ := open_int Try.underlying3 (hval 0 3 v0 rfl rfl) h0
  have k1 := h1
  have lt1 : ∀ x ∈ p1, x.block < W.heap.size := by obtain ⟨m, hm⟩ := k1; exact DataW.trod_lt m _ _ _ hm
  obtain ⟨a1, len1, cap1, rfl⟩ := okWide_slice Try.underlying44 (hval 1 44 v1 rfl rfl)
  obtain ⟨us1, S1⟩ := Go.Dn.argU rfl h1
  clear hA0 hval0
  refine (Go.Dn.calls_of Try.func15 (by kernel_rfl) (by kernel_rfl) (Go.Dn.law09_UsageLoads S1 (k := fun v w' => v = .bool true ∧ Below W.heap.size W w') fun w' hE => ⟨rfl, hE.below (by simp)⟩)).mono fun e W' he => ?_
  obtain ⟨v, rfl, rfl, bel⟩ := he
  exact ⟨_, rfl, _, _, _, [], _, [], hW', trodAll_mk1 (shut_bool Try.underlying4 _), (trodAll_cons_mk (shut_int Try.underlying3 w0) (trodAll_cons_mk (Below.trod Go.Dn.Fx.laid (by kernel_rfl) (of_decide_eq_true (by kernel_rfl)) k1 bel lt1) trodAll_mk0)), rfl, bel.frame _, fun h => by cases h⟩

theorem c0 : Try.pinned.checked.prog.funcNamed Rows.usageLoadsRow.func = some 15 := by kernel_rfl
theorem c1 : (Rows.usageLoadsRow.inPlace == Try.prog.inPlace 15) = true := by kernel_rfl
theorem c2 : (Rows.usageLoadsRow.unfollowed == Try.prog.unfollowed 15) = true := by kernel_rfl
theorem c3 : (Rows.usageLoadsRow.recurses == Try.prog.recurses 15) = true := by kernel_rfl
theorem c4 : (Rows.usageLoadsRow.named == Try.prog.varsNamed 15) = true := by kernel_rfl
theorem c5 : Go.Dn.restFacts Try.prog Try.f15 Rows.usageLoadsSpec Rows.usageLoadsRow = true := by kernel_rfl
theorem c6 : Go.Dn.restFacts2 Try.prog Try.f15 Rows.usageLoadsSpec Rows.usageLoadsRow = true := by kernel_rfl
theorem c7 : Try.f15.params.all (Try.prog.readableRec ·) = true := by kernel_rfl
theorem c8 : namedTie Try.prog Rows.usageLoadsRow.named Rows.usageLoadsSpec.vars = true := by kernel_rfl
theorem c9 : joinedFacts Try.pinned.checked.prog 15 Try.f15 Rows.usageLoadsSpec Rows.usageLoadsRow = true :=
  Go.Dn.joined_of (P := Try.prog) (by kernel_rfl) Go.Dn.Fx.laid Go.Dn.Fx.rowed c7 c8 rfl Go.Dn.Fx.stops rfl Go.Dn.Fx.stopKnobs c1 c2 c3 c4 c5 Go.Dn.Fx.keys rfl Go.Dn.Fx.heard Go.Dn.Fx.may Go.Dn.Fx.lifts Go.Dn.Fx.make c6
theorem c10 : Try.f15.isInstance Try.pinned.checked.prog Rows.usageLoadsRow.origin Rows.usageLoadsRow.targs := of_decide_eq_true (by kernel_rfl)
theorem c11 : Try.f15.isWrapper Try.pinned.checked.prog Rows.usageLoadsRow.wrapper Rows.usageLoadsRow.mainSum := by unfold Func.isWrapper; first | (rw [if_pos (by decide +kernel)]; kernel_rfl) | (rw [if_neg (by decide +kernel)]; exact ⟨rfl, rfl⟩)
theorem over : Rows.usageLoadsRow.holds Try.pinned (OpenSpec.ofChange Rows.usageLoadsSpec) :=
  OpenClaim.holds_of_wide 15 Try.f15 rfl rfl rfl rfl rfl rfl rfl ⟨rfl, rfl, rfl, rfl, rfl⟩ rfl rfl rfl rfl rfl c0 Try.func15 c9 c10 c11
    (fun os started H enc _ => lifted os started H enc)

theorem proved : Rows.UsageLoadsSaid := over
#print axioms proved
end Go.Proofs.Ytflnhihdbhjlnaa.usageLoads
