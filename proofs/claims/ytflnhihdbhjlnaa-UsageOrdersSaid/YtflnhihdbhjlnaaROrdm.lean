/-
  'UsageOrders': for every input the law returns true, and each argument reads behind the call as it read before; no conditions.
-/
import Derived.Test.YtflnhihdbhjlnaaRows
import Derived.WalkKit
import Derived.ProofKit
import Derived.OpenShut
import Derived.ShutString
import Derived.ChangeOld
import Derived.Below
import Derived.Test.YtflnhihdbhjlnaaXOrd4
import Derived.Test.YtflnhihdbhjlnaaXOrd5
import Derived.Test.YtflnhihdbhjlnaaFx
import Derived.Test.YtflnhihdbhjlnaaFa
import Derived.Test.YtflnhihdbhjlnaaFb
import Derived.Test.YtflnhihdbhjlnaaFc
import Derived.Test.YtflnhihdbhjlnaaFd
import Derived.Test.YtflnhihdbhjlnaaFe

namespace Go.Proofs.Ytflnhihdbhjlnaa.usageOrders
open Go.ChangeShapes Go.WideShapes Go.ChangeAt Go.RowKit
set_option linter.unusedVariables false

set_option maxRecDepth 100000 in
theorem lifted (os : Os) (started : os.Started) (H : Type) (enc : TypeId × Value → H) :
    ReturnsInHanded {} Try.checked os 14 .any (Rows.usageOrdersSpec.pre6 enc Try.prog Try.f14 Rows.usageOrdersRow.domain false) (Rows.usageOrdersSpec.post enc Try.prog Try.f14 false true false false) := by
  refine returnsInHanded_of_change (C := Try.checked) Go.Dn.Fx.own started (by kernel_rfl) Try.func14
    (ChangeSpec.witness6 (enc := enc) (C := Try.checked) false ⟨#[], #[.int .i64 0, .slice none 0 0, .int .u32 0], []⟩ 8 (by kernel_rfl) (by kernel_rfl) (by kernel_rfl) (by kernel_rfl)) ?_
  intro W base args ds gs before hval0 hW hcnd _
  have hval : ∀ (j : Nat) t v, Try.f14.params[j]? = some t → args[j]? = some v → Value.okWide Try.prog W .any base t v := hval0
  have hW' := hW
  obtain ⟨p, q, hA0, hV, rfl, hfz, hnd⟩ := hW
  have hA : DataW.TrodAll enc Try.prog W 0 (fun _ => true) true Try.f14.params.toList args.toList ds p := hA0
  rw [Try.params14] at hA hval
  obtain ⟨v0, vs0, d0, ds0, p0, q0, hargs, rfl, rfl, h0, r0⟩ := trodAll_cons hA
  obtain ⟨v1, vs1, d1, ds1, p1, q1, rfl, rfl, rfl, h1, r1⟩ := trodAll_cons r0
  obtain ⟨v2, vs2, d2, ds2, p2, q2, rfl, rfl, rfl, h2, r2⟩ := trodAll_cons r1
  obtain ⟨rfl, rfl, rfl⟩ := trodAll_nil r2
  obtain rfl : args = #[v0, v1, v2] := by cases args; simp_all
  obtain ⟨rfl, rfl⟩ := trodVars_none hV
  obtain ⟨a0, rfl, rfl, rfl, w0⟩ := open_int Try.underlying3 (hval 0 3 v0 rfl rfl) h0
  have k1 := h1
  have lt1 : ∀ x ∈ p1, x.block < W.heap.size := by obtain ⟨m, hm⟩ := k1; exact DataW.trod_lt m _ _ _ hm
  obtain ⟨a1, len1, cap1, rfl⟩ := okWide_slice Try.underlying44 (hval 1 44 v1 rfl rfl)
  obtain ⟨us1, S1, hag1⟩ := Go.Dn.argU2 rfl h1
  obtain ⟨a2, rfl, rfl, rfl, w2⟩ := open_int Try.underlying46 (hval 2 46 v2 rfl rfl) h2
  clear hA0 hval0
  refine (Go.Dn.calls_of Try.func14 (by kernel_rfl) (by kernel_rfl) (Go.Dn.law09_UsageOrders S1 hag1 (Go.Dn.u32_rng w2) (k := fun v w' => v = .bool true ∧ Below W.heap.size W w') fun w' hE => ⟨rfl, hE.below (by simp)⟩)).mono fun e W' he => ?_
  obtain ⟨v, rfl, rfl, bel⟩ := he
  exact ⟨_, rfl, _, _, _, [], _, [], hW', trodAll_mk1 (shut_bool Try.underlying4 _), (trodAll_cons_mk (shut_int Try.underlying3 w0) (trodAll_cons_mk (Below.trod Go.Dn.Fx.laid (by kernel_rfl) (of_decide_eq_true (by kernel_rfl)) k1 bel lt1) (trodAll_cons_mk (shut_int Try.underlying46 w2) trodAll_mk0))), rfl, bel.frame _, fun h => by cases h⟩

theorem c0 : Try.pinned.checked.prog.funcNamed Rows.usageOrdersRow.func = some 14 := by kernel_rfl
theorem c1 : (Rows.usageOrdersRow.inPlace == Try.prog.inPlace 14) = true := by kernel_rfl
theorem c2 : (Rows.usageOrdersRow.unfollowed == Try.prog.unfollowed 14) = true := by kernel_rfl
theorem c3 : (Rows.usageOrdersRow.recurses == Try.prog.recurses 14) = true := by kernel_rfl
theorem c4 : (Rows.usageOrdersRow.named == Try.prog.varsNamed 14) = true := by kernel_rfl
theorem c5 : Go.Dn.restFacts Try.prog Try.f14 Rows.usageOrdersSpec Rows.usageOrdersRow = true := by kernel_rfl
theorem c6 : Go.Dn.restFacts2 Try.prog Try.f14 Rows.usageOrdersSpec Rows.usageOrdersRow = true := by kernel_rfl
theorem c7 : Try.f14.params.all (Try.prog.readableRec ·) = true := by kernel_rfl
theorem c8 : namedTie Try.prog Rows.usageOrdersRow.named Rows.usageOrdersSpec.vars = true := by kernel_rfl
theorem c9 : joinedFacts Try.pinned.checked.prog 14 Try.f14 Rows.usageOrdersSpec Rows.usageOrdersRow = true :=
  Go.Dn.joined_of (P := Try.prog) (by kernel_rfl) Go.Dn.Fx.laid Go.Dn.Fx.rowed c7 c8 rfl Go.Dn.Fx.stops rfl Go.Dn.Fx.stopKnobs c1 c2 c3 c4 c5 Go.Dn.Fx.keys rfl Go.Dn.Fx.heard Go.Dn.Fx.may Go.Dn.Fx.lifts Go.Dn.Fx.make c6
theorem c10 : Try.f14.isInstance Try.pinned.checked.prog Rows.usageOrdersRow.origin Rows.usageOrdersRow.targs := of_decide_eq_true (by kernel_rfl)
theorem c11 : Try.f14.isWrapper Try.pinned.checked.prog Rows.usageOrdersRow.wrapper Rows.usageOrdersRow.mainSum := by unfold Func.isWrapper; first | (rw [if_pos (by decide +kernel)]; kernel_rfl) | (rw [if_neg (by decide +kernel)]; exact ⟨rfl, rfl⟩)
theorem over : Rows.usageOrdersRow.holds Try.pinned (OpenSpec.ofChange Rows.usageOrdersSpec) :=
  OpenClaim.holds_of_wide 14 Try.f14 rfl rfl rfl rfl rfl rfl rfl ⟨rfl, rfl, rfl, rfl, rfl⟩ rfl rfl rfl rfl rfl c0 Try.func14 c9 c10 c11
    (fun os started H enc _ => lifted os started H enc)

theorem proved : Rows.UsageOrdersSaid := over
#print axioms proved
end Go.Proofs.Ytflnhihdbhjlnaa.usageOrders
