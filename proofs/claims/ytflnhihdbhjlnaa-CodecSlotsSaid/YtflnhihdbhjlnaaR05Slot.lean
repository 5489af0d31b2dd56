/-
  'CodecSlots': for every input the law returns true, and each argument reads behind the call as it read before; no conditions.
-/
import Derived.Test.YtflnhihdbhjlnaaRows
import Derived.WalkKit
import Derived.ProofKit
import Derived.OpenShut
import Derived.ShutString
import Derived.ChangeOld
import Derived.Below
import Derived.Test.YtflnhihdbhjlnaaCl05Slot
import Derived.Test.YtflnhihdbhjlnaaArgc
import Derived.Test.YtflnhihdbhjlnaaMem8
import Derived.Test.YtflnhihdbhjlnaaFx
import Derived.Test.YtflnhihdbhjlnaaFa
import Derived.Test.YtflnhihdbhjlnaaFb
import Derived.Test.YtflnhihdbhjlnaaFc
import Derived.Test.YtflnhihdbhjlnaaFd
import Derived.Test.YtflnhihdbhjlnaaFe
namespace Go.Proofs.Ytflnhihdbhjlnaa.codecSlots
open Go.ChangeShapes Go.WideShapes Go.ChangeAt Go.RowKit
set_option linter.unusedVariables false

set_option maxRecDepth 100000 in
theorem lifted (os : Os) (started : os.Started) (H : Type) (enc : TypeId × Value → H) :
    ReturnsInHanded {} Try.checked os 11 .any (Rows.codecSlotsSpec.pre6 enc Try.prog Try.f11 Rows.codecSlotsRow.domain false) (Rows.codecSlotsSpec.post enc Try.prog Try.f11 false true false false) := by
  refine returnsInHanded_of_change (C := Try.checked) Go.Dn.Fx.own started (by kernel_rfl) Try.func11
    (ChangeSpec.witness6 (enc := enc) (C := Try.checked) false ⟨#[], #[.slice none 0 0, .slice none 0 0], []⟩ 8 (by kernel_rfl) (by kernel_rfl) (by kernel_rfl) (by kernel_rfl)) ?_
  intro W base args ds gs before hval0 hW hcnd _
  have hval : ∀ (j : Nat) t v, Try.f11.params[j]? = some t → args[j]? = some v → Value.okWide Try.prog W .any base t v := hval0
  have hW' := hW
  obtain ⟨p, q, hA0, hV, rfl, hfz, hnd⟩ := hW
  have hA : DataW.TrodAll enc Try.prog W 0 (fun _ => true) true Try.f11.params.toList args.toList ds p := hA0
  rw [Try.params11] at hA hval
  obtain ⟨v0, vs0, d0, ds0, p0, q0, hargs, rfl, rfl, h0, r0⟩ := trodAll_cons hA
  obtain ⟨v1, vs1, d1, ds1, p1, q1, rfl, rfl, rfl, h1, r1⟩ := trodAll_cons r0
  obtain ⟨rfl, rfl, rfl⟩ := trodAll_nil r1
  obtain rfl : args = #[v0, v1] := by cases args; simp_all
  obtain ⟨rfl, rfl⟩ := trodVars_none hV
  have k0 := h0
  have lt0 : ∀ x ∈ p0, x.block < W.heap.size := by obtain ⟨m, hm⟩ := k0; exact DataW.trod_lt m _ _ _ hm
  obtain ⟨a0, len0, cap0, rfl⟩ := okWide_slice Try.underlying133 (hval 0 133 v0 rfl rfl)
  obtain ⟨rs0, S0, hl0, hi0⟩ := Go.Dn.arg_Slots rfl h0
  have k1 := h1
  have lt1 : ∀ x ∈ p1, x.block < W.heap.size := by obtain ⟨m, hm⟩ := k1; exact DataW.trod_lt m _ _ _ hm
  obtain ⟨a1, len1, cap1, rfl⟩ := okWide_slice Try.underlying33 (hval 1 33 v1 rfl rfl)
  obtain ⟨bs1, S1, hb1⟩ := Go.Dn.arg_bytes rfl h1
  clear hA0 hval0
  refine (Go.Dn.calls_of Try.func11 (by kernel_rfl) (by kernel_rfl) (Go.Dn.law05_CodecSlots S0 hl0 hi0 S1 hb1 (k := fun v w' => v = .bool true ∧ Below W.heap.size W w') fun w' hE => ⟨rfl, hE.below (by simp)⟩)).mono fun e W' he => ?_
  obtain ⟨v, rfl, rfl, bel⟩ := he
  exact ⟨_, rfl, _, _, _, [], _, [], hW', trodAll_mk1 (shut_bool Try.underlying4 _), (trodAll_cons_mk (Below.trod Go.Dn.Fx.laid (by kernel_rfl) (of_decide_eq_true (by kernel_rfl)) k0 bel lt0) (trodAll_cons_mk (Below.trod Go.Dn.Fx.laid (by kernel_rfl) (of_decide_eq_true (by kernel_rfl)) k1 bel lt1) trodAll_mk0)), rfl, bel.frame _, fun h => by cases h⟩

theorem c0 : Try.pinned.checked.prog.funcNamed Rows.codecSlotsRow.func = some 11 := by kernel_rfl
theorem c1 : (Rows.codecSlotsRow.inPlace == Try.prog.inPlace 11) = true := by kernel_rfl
theorem c2 : (Rows.codecSlotsRow.unfollowed == Try.prog.unfollowed 11) = true := by kernel_rfl
theorem c3 : (Rows.codecSlotsRow.recurses == Try.prog.recurses 11) = true := by kernel_rfl
theorem c4 : (Rows.codecSlotsRow.named == Try.prog.varsNamed 11) = true := by kernel_rfl
theorem c5 : Go.Dn.restFacts Try.prog Try.f11 Rows.codecSlotsSpec Rows.codecSlotsRow = true := by kernel_rfl
theorem c6 : Go.Dn.restFacts2 Try.prog Try.f11 Rows.codecSlotsSpec Rows.codecSlotsRow = true := by kernel_rfl
theorem c7 : Try.f11.params.all (Try.prog.readableRec ·) = true := by kernel_rfl
theorem c8 : namedTie Try.prog Rows.codecSlotsRow.named Rows.codecSlotsSpec.vars = true := by kernel_rfl
theorem c9 : joinedFacts Try.pinned.checked.prog 11 Try.f11 Rows.codecSlotsSpec Rows.codecSlotsRow = true :=
  Go.Dn.joined_of (P := Try.prog) (by kernel_rfl) Go.Dn.Fx.laid Go.Dn.Fx.rowed c7 c8 rfl Go.Dn.Fx.stops rfl Go.Dn.Fx.stopKnobs c1 c2 c3 c4 c5 Go.Dn.Fx.keys rfl Go.Dn.Fx.heard Go.Dn.Fx.may Go.Dn.Fx.lifts Go.Dn.Fx.make c6
theorem c10 : Try.f11.isInstance Try.pinned.checked.prog Rows.codecSlotsRow.origin Rows.codecSlotsRow.targs := of_decide_eq_true (by kernel_rfl)
theorem c11 : Try.f11.isWrapper Try.pinned.checked.prog Rows.codecSlotsRow.wrapper Rows.codecSlotsRow.mainSum := by unfold Func.isWrapper; first | (rw [if_pos (by decide +kernel)]; kernel_rfl) | (rw [if_neg (by decide +kernel)]; exact ⟨rfl, rfl⟩)
theorem over : Rows.codecSlotsRow.holds Try.pinned (OpenSpec.ofChange Rows.codecSlotsSpec) :=
  OpenClaim.holds_of_wide 11 Try.f11 rfl rfl rfl rfl rfl rfl rfl ⟨rfl, rfl, rfl, rfl, rfl⟩ rfl rfl rfl rfl rfl c0 Try.func11 c9 c10 c11
    (fun os started H enc _ => lifted os started H enc)

theorem proved : Rows.CodecSlotsSaid := over
#print axioms proved
end Go.Proofs.Ytflnhihdbhjlnaa.codecSlots
