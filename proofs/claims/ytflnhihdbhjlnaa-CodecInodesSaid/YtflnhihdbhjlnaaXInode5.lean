import Derived.Test.YtflnhihdbhjlnaaXInode4
import Derived.Test.YtflnhihdbhjlnaaXInode2
section
/-! What arguments of the reference's types read. -/
set_option maxRecDepth 10000
set_option linter.unusedVariables false
set_option linter.unusedSimpArgs false
namespace Go.Dn
open Go Go.ChangeShapes Go.WideShapes Go.Deep
def ints (l : List (TypeId × IntKind)) : List (TypeId × Nat × (List Value → Prop)) := l.map fun x => (x.1, 1, fun cs => ∃ n, cs = [.int x.2 n] ∧ (Lit.int x.2 n).wf = true)
theorem wf_inR1 {k : IntKind} {n : Int} (hk : k = .u64 ∨ k = .i64 ∨ k = .u32) (h : (Lit.int k n).wf = true) : inR1 k n := by
  have h : (decide (k.min ≤ n) && decide (n ≤ k.max)) = true := h
  simp only [Bool.and_eq_true, decide_eq_true_eq] at h
  rcases hk with rfl | rfl | rfl
  · have h1 : (0 : Int) ≤ n := h.1
    have h2 : n ≤ 18446744073709551615 := h.2
    exact ⟨h1, by omega⟩
  · have h1 : (-9223372036854775808 : Int) ≤ n := h.1
    have h2 : n ≤ 9223372036854775807 := h.2
    exact ⟨h1, h2⟩
  · have h1 : (0 : Int) ≤ n := h.1
    have h2 : n ≤ 4294967295 := h.2
    exact ⟨h1, by omega⟩
theorem rl_ints : ∀ (l : List (TypeId × IntKind)) (cs : List Value), (∀ x ∈ l, x.2 = .u64 ∨ x.2 = .i64 ∨ x.2 = .u32) → RL (ints l) cs → ∃ r, cs = rc (l.map (·.2)) r ∧ r.length = l.length ∧ inR (l.map (·.2)) r
  | [], cs, _, h => ⟨[], h, rfl, trivial⟩
  | x :: l, cs, hk, h => by
    obtain ⟨a, b, rfl, _, ⟨n, rfl, hw⟩, hb⟩ := h
    obtain ⟨r, rfl, hl, hin⟩ := rl_ints l b (fun y hy => hk y (List.mem_cons_of_mem _ hy)) hb
    exact ⟨n :: r, rfl, by simp [hl], wf_inR1 (hk x (List.mem_cons_self ..)) hw, hin⟩
theorem rl_append : ∀ (L1 L2 : List (TypeId × Nat × (List Value → Prop))) (cs : List Value), RL (L1 ++ L2) cs → ∃ a b, cs = a ++ b ∧ RL L1 a ∧ RL L2 b
  | [], L2, cs, h => ⟨[], cs, rfl, rfl, h⟩
  | x :: L1, L2, cs, h => by
    obtain ⟨a, b, rfl, h1, h2, h3⟩ := h
    obtain ⟨c, d, rfl, h4, h5⟩ := rl_append L1 L2 b h3
    exact ⟨a ++ c, d, by simp, ⟨a, c, rfl, h1, h2, h4⟩, h5⟩
section
variable {H : Type} {enc : TypeId × Value → H} {w : World} {base : Nat} {held : Bool}
theorem al_ints : ∀ (l : List (TypeId × IntKind)), (∀ x ∈ l, P.underlying x.1 = some (.int x.2)) → AL enc P w base held (ints l)
  | [], _ => trivial
  | x :: l, h => ⟨argp_int (h x (List.mem_cons_self ..)), al_ints l fun y hy => h y (List.mem_cons_of_mem _ hy)⟩
theorem al_append : ∀ (L1 L2 : List (TypeId × Nat × (List Value → Prop))), AL enc P w base held L1 → AL enc P w base held L2 → AL enc P w base held (L1 ++ L2)
  | [], L2, _, h => h
  | x :: L1, L2, h, h' => ⟨h.1, al_append L1 L2 h.2 h'⟩
theorem ints_sum (l : List (TypeId × IntKind)) : ((ints l).map (·.2.1)).sum = l.length := by
  induction l with
  | nil => rfl
  | cons x l ih => simp only [ints, List.map_cons, List.sum_cons, List.length_cons] at ih ⊢; omega
/-- A record among the arguments. -/
theorem argp_rec {t : TypeId} (l : List (TypeId × IntKind)) (ht : P.underlying t = some (.struct (P.fieldsOf t))) (hm : (P.fieldsOf t).toList.map (fun f => (f.offset, f.type, P.cellsOf f.type)) = offL 0 (ints l)) (hC : P.cellsOf t = l.length) (hu : ∀ x ∈ l, P.underlying x.1 = some (.int x.2))
    (hk : ∀ x ∈ l, x.2 = .u64 ∨ x.2 = .i64 ∨ x.2 = .u32) : ArgP enc P w base held t l.length fun cs => ∃ r, cs = rc (l.map (·.2)) r ∧ r.length = l.length ∧ inR (l.map (·.2)) r := by
  have hs := ints_sum l
  have := argp_struct (enc := enc) (w := w) (base := base) (held := held) ht hm (by rw [hC, hs]) (al_ints l hu)
  rw [hs] at this
  exact this.imp fun cs _ h => rl_ints l cs hk h
theorem args_rcs {ks : List IntKind} {n : Nat} (hn : n = ks.length) : ∀ (xss : List (List Value)), (∀ xs ∈ xss, xs.length = n ∧ ∃ r, xs = rc ks r ∧ r.length = n ∧ inR ks r) → ∃ rs, xss.flatten = rcs ks rs ∧ lenR ks rs ∧ ∀ r ∈ rs, inR ks r
  | [], _ => ⟨[], rfl, by intro r hr; simp at hr, by simp⟩
  | x :: xss, h => by
    obtain ⟨_, r, rfl, hl, hin⟩ := h x (List.mem_cons_self ..)
    obtain ⟨rs, he, hlr, hir⟩ := args_rcs hn xss fun y hy => h y (List.mem_cons_of_mem _ hy)
    refine ⟨r :: rs, by rw [List.flatten_cons, he, rcs_cons], fun q hq => ?_, fun q hq => ?_⟩
    · rcases List.mem_cons.1 hq with rfl | hq
      · rw [hl, hn]
      · exact hlr q hq
    · rcases List.mem_cons.1 hq with rfl | hq
      · exact hin
      · exact hir q hq
theorem arg_list {t e : TypeId} {n : Nat} {ks : List IntKind} (hn : n = ks.length) (hn0 : 0 < n) (hu : P.underlying t = some (.slice e)) (hC : P.cellsOf e = n) (hE : ArgP enc P w base held e n fun cs => ∃ r, cs = rc ks r ∧ r.length = n ∧ inR ks r)
    {v : Value} {d : DataW H} {p : List MemPlace} (hc : v.cells = #[v]) (h : DataW.Trod enc P w base (fun _ => true) held t v d p) : ∃ rs, SlG w n v (rcs ks rs) ∧ lenR ks rs ∧ ∀ r ∈ rs, inR ks r := by
  obtain ⟨fuel, hf⟩ := h
  rw [hc] at hf
  obtain ⟨_, v', xss, he, hS, hall⟩ := argp_slice hu hn0 hC hE _ _ _ hf
  simp at he
  subst he
  obtain ⟨rs, hfl, h1, h2⟩ := args_rcs hn xss hall
  rw [hfl] at hS
  exact ⟨rs, hS, h1, h2⟩
theorem p_Use : ArgP enc P w base held T_ref05_Use 3 fun cs => ∃ r, cs = rc kUse r ∧ r.length = 3 ∧ inR kUse r :=
  argp_rec [(T_int, .i64), (T_int, .i64), (T_uint32, .u32)] (by kernel_rfl) (by kernel_rfl) (by kernel_rfl) (by simp only [List.mem_cons, List.not_mem_nil, or_false]; rintro x (rfl | rfl | rfl) <;> first | exact i_T_int | exact i_T_uint32) (by decide)
theorem p_Slot : ArgP enc P w base held T_ref05_Slot 4 fun cs => ∃ r, cs = rc kSlot r ∧ r.length = 4 ∧ inR kSlot r :=
  argp_rec [(T_int, .i64), (T_uint32, .u32), (T_int, .i64), (T_int, .i64)] (by kernel_rfl) (by kernel_rfl) (by kernel_rfl) (by simp only [List.mem_cons, List.not_mem_nil, or_false]; rintro x (rfl | rfl | rfl | rfl) <;> first | exact i_T_int | exact i_T_uint32) (by decide)
theorem p_Record : ArgP enc P w base held T_ref05_Record 4 fun cs => ∃ r, cs = rc kRecord r ∧ r.length = 4 ∧ inR kRecord r :=
  argp_rec [(T_uint32, .u32), (T_uint32, .u32), (T_int, .i64), (T_int, .i64)] (by kernel_rfl) (by kernel_rfl) (by kernel_rfl) (by simp only [List.mem_cons, List.not_mem_nil, or_false]; rintro x (rfl | rfl | rfl | rfl) <;> first | exact i_T_int | exact i_T_uint32) (by decide)
theorem arg_Uses {v : Value} {d : DataW H} {p : List MemPlace} (hc : v.cells = #[v]) (h : DataW.Trod enc P w base (fun _ => true) held T_Lref05_Use v d p) : ∃ rs, SlG w 3 v (rcs kUse rs) ∧ lenR kUse rs ∧ ∀ r ∈ rs, inR kUse r :=
  arg_list (n := 3) rfl (by omega) u_T_Lref05_Use (by kernel_rfl) p_Use hc h
theorem arg_Slots {v : Value} {d : DataW H} {p : List MemPlace} (hc : v.cells = #[v]) (h : DataW.Trod enc P w base (fun _ => true) held T_Lref05_Slot v d p) : ∃ rs, SlG w 4 v (rcs kSlot rs) ∧ lenR kSlot rs ∧ ∀ r ∈ rs, inR kSlot r :=
  arg_list (n := 4) rfl (by omega) u_T_Lref05_Slot (by kernel_rfl) p_Slot hc h
theorem arg_Records {v : Value} {d : DataW H} {p : List MemPlace} (hc : v.cells = #[v]) (h : DataW.Trod enc P w base (fun _ => true) held T_Lref05_Record v d p) : ∃ rs, SlG w 4 v (rcs kRecord rs) ∧ lenR kRecord rs ∧ ∀ r ∈ rs, inR kRecord r :=
  arg_list (n := 4) rfl (by omega) u_T_Lref05_Record (by kernel_rfl) p_Record hc h
theorem p_u8 : ArgP enc P w base held T_uint8 1 fun cs => ∃ b : Nat, cs = bvs [b] ∧ b < 256 :=
  (argp_int i_T_uint8).imp fun cs _ ⟨n, hn, hw⟩ => by
    have hw : (decide (IntKind.u8.min ≤ n) && decide (n ≤ IntKind.u8.max)) = true := hw
    simp only [Bool.and_eq_true, decide_eq_true_eq] at hw
    have h1 : (0 : Int) ≤ n := hw.1
    have h2 : n ≤ 255 := hw.2
    refine ⟨n.toNat, ?_, by omega⟩
    rw [hn]
    simp only [bvs, List.map_cons, List.map_nil]
    congr 2
    omega
theorem args_bvs : ∀ (xss : List (List Value)), (∀ xs ∈ xss, xs.length = 1 ∧ ∃ b : Nat, xs = bvs [b] ∧ b < 256) → ∃ bs, xss.flatten = bvs bs ∧ ∀ b ∈ bs, b < 256
  | [], _ => ⟨[], rfl, by simp⟩
  | x :: xss, h => by
    obtain ⟨_, b, rfl, hb⟩ := h x (List.mem_cons_self ..)
    obtain ⟨bs, he, hall⟩ := args_bvs xss fun y hy => h y (List.mem_cons_of_mem _ hy)
    refine ⟨b :: bs, by rw [List.flatten_cons, he]; rfl, fun q hq => ?_⟩
    rcases List.mem_cons.1 hq with rfl | hq
    · exact hb
    · exact hall q hq
theorem arg_bytes {v : Value} {d : DataW H} {p : List MemPlace} (hc : v.cells = #[v]) (h : DataW.Trod enc P w base (fun _ => true) held T_Luint8 v d p) : ∃ bs, SlG w 1 v (bvs bs) ∧ ∀ b ∈ bs, b < 256 := by
  obtain ⟨fuel, hf⟩ := h
  rw [hc] at hf
  obtain ⟨_, v', xss, he, hS, hall⟩ := argp_slice u_T_Luint8 (by omega) (by kernel_rfl) p_u8 _ _ _ hf
  simp at he
  subst he
  obtain ⟨bs, hfl, h1⟩ := args_bvs xss hall
  rw [hfl] at hS
  exact ⟨bs, hS, h1⟩
end
end Go.Dn
end
section
/-! Structs of the reference among the arguments. -/
set_option maxRecDepth 10000
set_option linter.unusedVariables false
set_option linter.unusedSimpArgs false
namespace Go.Dn
open Go Go.ChangeShapes Go.WideShapes Go.Deep
theorem args_ints {k : IntKind} (hk : k = .u64 ∨ k = .i64 ∨ k = .u32) : ∀ (xss : List (List Value)), (∀ xs ∈ xss, xs.length = 1 ∧ ∃ n, xs = [.int k n] ∧ (Lit.int k n).wf = true) → ∃ r : List Int, xss.flatten = rc (List.replicate xss.length k) r ∧ r.length = xss.length ∧ inR (List.replicate xss.length k) r
  | [], _ => ⟨[], rfl, rfl, trivial⟩
  | x :: xss, h => by
    obtain ⟨_, n, rfl, hw⟩ := h x (List.mem_cons_self ..)
    obtain ⟨r, he, hl, hin⟩ := args_ints hk xss fun y hy => h y (List.mem_cons_of_mem _ hy)
    exact ⟨n :: r, by rw [List.flatten_cons, he]; rfl, by simp [hl], wf_inR1 hk hw, hin⟩
theorem rc_app : ∀ (k1 k2 : List IntKind) (r1 r2 : List Int), r1.length = k1.length → rc k1 r1 ++ rc k2 r2 = rc (k1 ++ k2) (r1 ++ r2)
  | [], k2, [], r2, _ => rfl
  | _ :: k1, k2, n :: r1, r2, h => by
    have := rc_app k1 k2 r1 r2 (by simpa using h)
    show _ :: (rc k1 r1 ++ rc k2 r2) = _
    rw [this]; rfl
  | [], _, _ :: _, _, h => by simp at h
  | _ :: _, _, [], _, h => by simp at h
theorem inR_append : ∀ (k1 k2 : List IntKind) (r1 r2 : List Int), r1.length = k1.length → inR k1 r1 → inR k2 r2 → inR (k1 ++ k2) (r1 ++ r2)
  | [], k2, [], r2, _, _, h => h
  | _ :: k1, k2, n :: r1, r2, h, h1, h2 => ⟨h1.1, inR_append k1 k2 r1 r2 (by simpa using h) h1.2 h2⟩
  | [], _, _ :: _, _, h, _, _ => by simp at h
  | _ :: _, _, [], _, h, _, _ => by simp at h
section
variable {H : Type} {enc : TypeId × Value → H} {w : World} {base : Nat} {held : Bool}
theorem p_Header : ArgP enc P w base held T_ref05_Header 6 fun cs => ∃ r, cs = rc kHeader r ∧ r.length = 6 ∧ inR kHeader r :=
  argp_rec [(T_uint64, .u64), (T_uint64, .u64), (T_int, .i64), (T_int, .i64), (T_int, .i64), (T_uint32, .u32)] (by kernel_rfl) (by kernel_rfl) (by kernel_rfl) (by simp only [List.mem_cons, List.not_mem_nil, or_false]; rintro x (rfl | rfl | rfl | rfl | rfl | rfl) <;> first | exact i_T_int | exact i_T_uint32 | exact i_T_uint64) (by decide)
theorem p_A8int : ArgP enc P w base held T_A8int 8 fun cs => ∃ r, cs = rc (List.replicate 8 .i64) r ∧ r.length = 8 ∧ inR (List.replicate 8 .i64) r :=
  (argp_array (m := 8) (n := 1) (e := T_int) (by kernel_rfl) (by kernel_rfl) (by kernel_rfl) (argp_int i_T_int)).imp fun cs _ ⟨xss, hcs, hl, hall⟩ => by
    obtain ⟨r, he, hr, hin⟩ := args_ints (.inr (.inl rfl)) xss hall
    rw [hl] at he hr hin
    exact ⟨r, by rw [hcs, he], hr, hin⟩
theorem p_Inode : ArgP enc P w base held T_ref05_Inode 15 fun cs => ∃ r, cs = rc kInode r ∧ r.length = 15 ∧ inR kInode r := by
  have hA : AL enc P w base held (ints [(T_uint32, .u32), (T_uint32, .u32), (T_int, .i64), (T_int, .i64), (T_uint32, .u32)] ++ ((T_A8int, 8, fun cs => ∃ r, cs = rc (List.replicate 8 .i64) r ∧ r.length = 8 ∧ inR (List.replicate 8 .i64) r) :: ints [(T_int, .i64), (T_int, .i64)])) :=
    al_append _ _ (al_ints _ (by simp only [List.mem_cons, List.not_mem_nil, or_false]; rintro x (rfl | rfl | rfl | rfl | rfl) <;> first | exact i_T_int | exact i_T_uint32)) ⟨p_A8int, al_ints _ (by simp only [List.mem_cons, List.not_mem_nil, or_false]; rintro x (rfl | rfl) <;> exact i_T_int)⟩
  refine (argp_struct (t := T_ref05_Inode) (by kernel_rfl) (by kernel_rfl) (by kernel_rfl) hA).imp fun cs hl h => ?_
  obtain ⟨a, b, rfl, ha, c, d, rfl, hc, ⟨r2, rfl, hr2, hi2⟩, hd⟩ := rl_append _ _ _ h
  obtain ⟨r1, rfl, hr1, hi1⟩ := rl_ints _ _ (by decide) ha
  obtain ⟨r3, rfl, hr3, hi3⟩ := rl_ints _ _ (by decide) hd
  refine ⟨r1 ++ (r2 ++ r3), ?_, by simp [hr1, hr2, hr3], ?_⟩
  · exact (congrArg (rc _ r1 ++ ·) (rc_app (List.replicate 8 .i64) _ r2 r3 (by rw [hr2]; rfl))).trans (rc_app _ _ r1 _ (by rw [hr1]; rfl))
  · exact inR_append _ _ _ _ (by rw [hr1]; rfl) hi1 (inR_append (List.replicate 8 .i64) _ _ _ (by rw [hr2]; rfl) hi2 hi3)
theorem arg_of {t : TypeId} {n : Nat} {R : List Value → Prop} (hp : ArgP enc P w base held t n R) {cs : Array Value} {d : DataW H} {p : List MemPlace} (h : DataW.Trod enc P w base (fun _ => true) held t (.agg cs) d p) : ∃ vs, cs = ⟨vs⟩ ∧ R vs := by
  obtain ⟨fuel, hf⟩ := h
  exact ⟨cs.toList, rfl, (hp _ _ _ hf).2⟩
theorem arg_Inode {cs : Array Value} {d : DataW H} {p : List MemPlace} (h : DataW.Trod enc P w base (fun _ => true) held T_ref05_Inode (.agg cs) d p) : ∃ r, cs = ⟨rc kInode r⟩ ∧ r.length = 15 ∧ inR kInode r := by
  obtain ⟨vs, rfl, r, rfl, h1, h2⟩ := arg_of p_Inode h
  exact ⟨r, rfl, h1, h2⟩
theorem arg_Header {cs : Array Value} {d : DataW H} {p : List MemPlace} (h : DataW.Trod enc P w base (fun _ => true) held T_ref05_Header (.agg cs) d p) : ∃ r, cs = ⟨rc kHeader r⟩ ∧ r.length = 6 ∧ inR kHeader r := by
  obtain ⟨vs, rfl, r, rfl, h1, h2⟩ := arg_of p_Header h
  exact ⟨r, rfl, h1, h2⟩
end
end Go.Dn
end
section
/-! From a contract to 'Calls'. -/
set_option linter.unusedVariables false
set_option linter.unusedSimpArgs false
namespace Go.Dn
open Go
attribute [local semireducible] wCall wNext callW
theorem calls_of {P : Program} {f : FuncId} {fn : Func} {args : List Value} {w : World} {R : Value → World → Prop} (hf : P.funcs[f]? = some fn) (hname : (fn.name == "runtime.NumGoroutine") = false) (hb : fn.body.isNone = false) (h : wCall P f args w R) :
    Calls P f ⟨args⟩ w fun e w' => ∃ v, e = .returned v ∧ R v w' := by
  unfold wCall wNext callFunc at h
  simp only [program, Sem.run_bind, Sem.run, Result.andThen_ok, hf, hname, hb, Bool.false_eq_true, if_false] at h
  unfold callW at h
  refine Calls.mono h fun e w' he => ?_
  cases e <;> first | exact ⟨_, rfl, he⟩ | exact he.elim
end Go.Dn
end
