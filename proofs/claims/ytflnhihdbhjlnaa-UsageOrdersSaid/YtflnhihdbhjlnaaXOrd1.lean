import Derived.Calls
import Derived.Orders
import Derived.OrdersHeld
import Derived.Scope
import Derived.Tactics
import Derived.KernelRfl
import Derived.Laws.World
import Derived.Below
import Derived.IntWalk
import Derived.Maps.AppendAt
import Derived.Deep.AppendLies
import Derived.Laws.MakeOwn
import Derived.ChangeKeysEq
import Derived.Laws.StructEq
import Derived.Laws.OwnMore
import Derived.Laws.FloatBits
import Derived.Test.YtflnhihdbhjlnaaProg
section
/-! A denotation of translated Go code: continuation-passing texts without frames, and their soundness for 'Code.wp'. -/
set_option linter.unusedVariables false
set_option linter.unusedSimpArgs false
namespace Go.Dn
open Go

abbrev Env := Nat → Value
def put (e : Env) (i : Nat) (v : Value) : Env := fun j => bif Nat.beq j i then v else e j
def putO (e : Env) (d : Option Tmp) (v : Value) : Env :=
  match d with
  | some i => put e i v
  | none => e
def ev (e : Env) (x : Operand) : Value :=
  match x with
  | .tmp t => e t
  | .const v => v
  | .global g => .pointer (some ⟨g, 0, none⟩)
  | .func f => .func (.func f) #[] #[]
def mixK (ks : List Nat) (e J : Env) : Env :=
  match ks with
  | [] => J
  | k :: ks => fun j => bif Nat.beq j k then e j else mixK ks e J j
def memN (j : Nat) (l : List Nat) : Bool :=
  match l with
  | [] => false
  | k :: l => bif Nat.beq j k then true else memN j l

theorem beq_ne {i j : Nat} (h : j ≠ i) : Nat.beq j i = false := by
  cases hb : Nat.beq j i
  · rfl
  · exact absurd (Nat.eq_of_beq_eq_true hb) h
theorem put_same (e : Env) (i : Nat) (v : Value) : put e i v i = v := by simp [put]
theorem put_ne (e : Env) {i j : Nat} (v : Value) (h : j ≠ i) : put e i v j = e j := by
  have := beq_ne h
  simp [put, this]
theorem put_self (e : Env) (i : Nat) : put e i (e i) = e := by
  funext j
  by_cases h : j = i
  · subst h; exact put_same _ _ _
  · exact put_ne _ _ h
theorem mixK_self (e J : Env) : ∀ ks : List Nat, (∀ k ∈ ks, J k = e k) → mixK ks e J = J
  | [], _ => rfl
  | k :: ks, h => by
    funext j
    show (bif Nat.beq j k then e j else mixK ks e J j) = J j
    rw [mixK_self e J ks fun x hx => h x (List.mem_cons_of_mem _ hx)]
    by_cases hj : j = k
    · subst hj; simp [h j (List.mem_cons_self ..)]
    · have := beq_ne hj
      simp [this]
theorem memN_iff {j : Nat} : ∀ {l : List Nat}, memN j l = true ↔ j ∈ l
  | [] => by simp [memN]
  | k :: l => by
    by_cases h : j = k
    · subst h; simp [memN]
    · have := beq_ne h
      simp [memN, this, h, memN_iff]

/-- A call that returns. -/
def callW (P : Program) (f : FuncId) (args : Array Value) (w : World) (k : Value → World → Prop) : Prop :=
  Calls P f args w fun e w' => match e with
    | .returned v => k v w'
    | _ => False
theorem callW_mono {P : Program} {f : FuncId} {args : Array Value} {w : World} {k k' : Value → World → Prop} (h : callW P f args w k)
    (hk : ∀ v w', k v w' → k' v w') : callW P f args w k' :=
  Calls.mono h fun e w' => by cases e <;> first | exact hk _ _ | exact id
def wNext (P : Program) (s : Sem Next) (w : World) (k : Value → World → Prop) : Prop :=
  match s.run P w with
  | .ok (.value v) w' => k v w'
  | .ok .skip w' => k undef w'
  | .ok (.enter f args) w' => callW P f args w' k
  | _ => False
def runW (P : Program) (s : Sem Value) (w : World) (k : Value → World → Prop) : Prop :=
  match s.run P w with
  | .ok v w' => k v w'
  | .halt _ _ => False
def runU (P : Program) (s : Sem Unit) (w : World) (k : Value → World → Prop) : Prop :=
  match s.run P w with
  | .ok _ w' => k undef w'
  | .halt _ _ => False
/-- A computation that does not look at the world. -/
def pureW (P : Program) (s : Sem Value) (w : World) (k : Value → World → Prop) : Prop := ∃ v, (∀ w', s.run P w' = .ok v w') ∧ k v w
theorem pureW_run {P : Program} {s : Sem Value} {w : World} {k : Value → World → Prop} (h : pureW P s w k) : runW P s w k := by
  obtain ⟨v, hv, hk⟩ := h
  unfold runW
  rw [hv w]
  exact hk
theorem pureW_eq {P : Program} {s : Sem Value} {v : Value} (h : ∀ w', s.run P w' = .ok v w') (w : World) (k : Value → World → Prop) : pureW P s w k = k v w := by
  apply propext
  constructor
  · rintro ⟨v', hv', hk⟩
    have := (hv' w).symm.trans (h w)
    injection this with h1
    subst h1
    exact hk
  · exact fun hk => ⟨v, h, hk⟩
theorem wNext_value (P : Program) (s : Sem Value) (w : World) (k : Value → World → Prop) :
    wNext P (do pure (.value (← s))) w k = runW P s w k := by
  unfold wNext runW
  rw [Sem.run_bind]
  cases s.run P w <;> rfl
theorem wNext_skip (P : Program) (s : Sem Unit) (w : World) (k : Value → World → Prop) :
    wNext P (do s; pure .skip) w k = runU P s w k := by
  unfold wNext runU
  rw [Sem.run_bind]
  cases s.run P w <;> rfl
theorem wNext_pure (P : Program) (v : Value) (w : World) (k : Value → World → Prop) :
    wNext P (pure (.value v)) w k = k v w := rfl

/-! The operations. -/
def wPick (c x y : Value) (w : World) (k : Value → World → Prop) : Prop :=
  match c with
  | .bool b => k (if b = true then x else y) w
  | _ => False
def wAlloc (P : Program) (t : TypeId) := runW P (Instr.alloc t true (.tuple #[]))
def wBox (P : Program) (t : TypeId) (x : Value) := runW P (Instr.box t x)
def wBuild (P : Program) (t : TypeId) (ps : List (Nat × Value)) := pureW P (Instr.build t ⟨ps⟩)
def wBuildS (P : Program) (t : TypeId) (n : Nat) (ps : List (Nat × Value)) := runW P (Instr.buildSlice t n ⟨ps⟩)
def wLoad (P : Program) (t : TypeId) (a : Value) := runW P (Instr.loadAt t a)
def wStore (P : Program) (t : TypeId) (a x : Value) (w : World) (k : World → Prop) : Prop := runU P (Instr.storeAt t a x) w fun _ w' => k w'
def nilS (x : Value) : Sem Value :=
  match x with
  | .pointer none | .nilIface | .nilFunc => .halt (.stuck "")
  | .func (.method name) first captured =>
    match (first[0]? : Option Value) with
    | some (.iface t w) => do
      if (← nilAhead ((← program).types.size + Made.depth) t w name) != some false then Sem.halt (.stuck "")
      pure (.func (.method name) first captured)
    | _ => .halt (.stuck "")
  | x => pure x
theorem nil_exec {P : Program} {ρ : Operand → Value} {dst : Option Tmp} {x : Operand} {type : TypeId} {pos : String} {after : Array Edge} {guard : Option (Nat × Bool)} {w w2 : World} {v : Value}
    (h : (nilS (ρ x)).run P w = .ok v w2) : (execOp ρ ⟨dst, .nilCheck x, type, pos, after, guard⟩).run P w = .ok (.value v) w2 := by
  simp only [execOp]
  generalize ρ x = y at *
  cases y with
  | pointer a => cases a <;> first | (simp [nilS, Sem.run] at h; done) | (injection h with h1 h2; subst h1; subst h2; rfl)
  | nilIface => simp [nilS, Sem.run] at h
  | nilFunc => simp [nilS, Sem.run] at h
  | func fn first captured =>
    cases fn with
    | method name =>
      simp only [nilS] at h ⊢
      generalize (first[0]? : Option Value) = z at *
      cases z with
      | none => simp [Sem.run] at h
      | some z =>
        cases z <;> first | (simp [Sem.run] at h; done) | skip
        simp only [Sem.run_bind, program, Sem.run, Result.andThen_ok] at h ⊢
        cases hn : (nilAhead (P.types.size + Made.depth) _ _ name).run P w with
        | halt e w' => rw [hn] at h; cases h
        | ok r w' =>
          rw [hn] at h
          simp only [Result.andThen_ok] at h ⊢
          by_cases hr : (r != some false) = true
          · rw [if_pos hr] at h; cases h
          · rw [if_neg hr] at h
            rw [if_neg hr]
            simp only [Sem.run_pure, Result.andThen_ok] at h ⊢
            injection h with h1 h2
            subst h1; subst h2; rfl
    | _ => injection h with h1 h2; subst h1; subst h2; rfl
  | _ => injection h with h1 h2; subst h1; subst h2; rfl
def wNil (P : Program) (x : Value) := pureW P (nilS x)
def binS (c : Bool) (op : BinOp) (t : TypeId) (x y : Value) : Sem Value := do
  eqGuard op t (if c = true then .const x else .tmp 0) (.tmp 0) x y
  binOp op t x y
def wBin (P : Program) (op : BinOp) (t : TypeId) (x y : Value) (w : World) (k : Value → World → Prop) : Prop := ∃ v, (∀ (c : Bool) (w' : World), (binS c op t x y).run P w' = .ok v w') ∧ k v w
/-- An operation whose answer may hang on a draw (floats). -/
def wBinF (P : Program) (op : BinOp) (t : TypeId) (x y : Value) (w : World) (k : Value → World → Prop) : Prop := ∀ c : Bool, runW P (binS c op t x y) w k
def isArith (op : BinOp) : Bool :=
  match op with
  | .add | .sub | .mul | .quo => true
  | _ => false
def isFloat (P : Program) (t : TypeId) : Bool :=
  match P.underlying t with
  | some (.float _) => true
  | _ => false
def wUn (P : Program) (op : UnOp) (x : Value) := pureW P (Op.unary op x)
def wConv (P : Program) (s d : TypeId) (x : Value) := pureW P (convert s d x)
def wIface (P : Program) (t : TypeId) (x : Value) := pureW P (Instr.makeInterface t x)
def wFunc (P : Program) (fn : Fn) (first cap : List Value) := runW P (Instr.makeFunc fn ⟨first⟩ ⟨cap⟩)
def wMakeMap (P : Program) (t : TypeId) (r : Option Value) := runW P (Instr.makeMap t r)
def wMake (P : Program) (t : TypeId) (l c : Value) := runW P (Instr.makeSlice t l c)
def wSlice (P : Program) (t : TypeId) (x : Value) (lo hi mx : Option Value) := pureW P (Instr.sliceAt t x lo hi mx)
def wFieldA (P : Program) (s : TypeId) (x : Value) (f : Nat) := pureW P (Instr.fieldAt s x f)
def wField (P : Program) (s : TypeId) (x : Value) (f : Nat) := pureW P (Instr.field s x f)
def wIndexA (P : Program) (t : TypeId) (x i : Value) := pureW P (Instr.indexAt t x i)
def wIndex (P : Program) (t : TypeId) (x i : Value) := pureW P (Instr.index t x i)
def wLookup (P : Program) (t : TypeId) (x i : Value) (ok : Bool) := runW P (Instr.lookup t x i ok)
def wMapSet (P : Program) (t : TypeId) (m i x : Value) (w : World) (k : World → Prop) : Prop := runU P (Instr.mapUpdate t m i x) w fun _ w' => k w'
def wExtract (P : Program) (x : Value) (i : Nat) := pureW P (Instr.extract x i)
def wCall (P : Program) (f : FuncId) (args : List Value) := wNext P (callFunc f ⟨args⟩)
def wCallV (P : Program) (f : Value) (args : List Value) := wNext P (do let d ← Deferred.ofValue f ⟨args⟩; invoke d.target d.args)
def wInvoke (P : Program) (r : Value) (m : String) (args : List Value) := wNext P (callMethod r m ⟨args⟩)
def lenS (b : Builtin) (ts : Array TypeId) (args : List Value) : Sem Value :=
  match b with
  | .len => Builtin.len_ ts 0 ⟨args⟩
  | .cap => Builtin.cap_ ts 0 ⟨args⟩
  | .max => Builtin.max_ ts 0 ⟨args⟩
  | _ => Builtin.min_ ts 0 ⟨args⟩
def wLen (P : Program) (b : Builtin) (ts : Array TypeId) (args : List Value) := pureW P (lenS b ts args)
def wBuiltin (P : Program) (b : Builtin) (ts : Array TypeId) (args : List Value) := wNext P (builtin b ts 0 #[] ⟨args⟩)
def wRange (P : Program) (t : TypeId) (x : Value) := runW P (Instr.range t x)
def wNextI (P : Program) (t : TypeId) (x : Value) (b : Bool) := runW P (Instr.next x b t)
def wEntry (P : Program) (x : Value) := runW P (Instr.entry x)
def wOther (P : Program) (e : Env) (o : Oper) := wNext P (execOp (ev e) o)

def denOp (P : Program) (e : Env) (o : Oper) (w : World) (k : Value → World → Prop) : Prop :=
  match o.op with
  | .move x | .assign x => k (ev e x) w
  | .pick c x y => wPick (ev e c) (ev e x) (ev e y) w k
  | .alloc t => wAlloc P t w k
  | .box t x => wBox P t (ev e x) w k
  | .build t ps => wBuild P t (ps.toList.map fun p => (p.1, ev e p.2)) w k
  | .buildSlice t n ps => wBuildS P t n (ps.toList.map fun p => (p.1, ev e p.2)) w k
  | .load t a => wLoad P t (ev e a) w k
  | .store t a x => wStore P t (ev e a) (ev e x) w fun w' => k undef w'
  | .nilCheck x => wNil P (ev e x) w k
  | .binOp op t x y _ => bif (bif isArith op then isFloat P t else false) then wBinF P op t (ev e x) (ev e y) w k else wBin P op t (ev e x) (ev e y) w k
  | .unOp op _ x => wUn P op (ev e x) w k
  | .convert s d x => wConv P s d (ev e x) w k
  | .makeInterface t x => wIface P t (ev e x) w k
  | .makeFunc fn first cap => wFunc P fn (first.toList.map (ev e)) (cap.toList.map (ev e)) w k
  | .makeMap t r => wMakeMap P t (match r with | some x => some (ev e x) | none => none) w k
  | .makeSlice t l c => wMake P t (ev e l) (ev e c) w k
  | .slice t x lo hi mx => wSlice P t (ev e x) (match lo with | some x => some (ev e x) | none => none) (match hi with | some x => some (ev e x) | none => none) (match mx with | some x => some (ev e x) | none => none) w k
  | .fieldAddr s x f => wFieldA P s (ev e x) f w k
  | .field s x f => wField P s (ev e x) f w k
  | .indexAddr t x i => wIndexA P t (ev e x) (ev e i) w k
  | .index t x i => wIndex P t (ev e x) (ev e i) w k
  | .lookup t x i ok => wLookup P t (ev e x) (ev e i) ok w k
  | .mapUpdate t m i x | .insert t m i x => wMapSet P t (ev e m) (ev e i) (ev e x) w fun w' => k undef w'
  | .extract x i => wExtract P (ev e x) i w k
  | .range t x => wRange P t (ev e x) w k
  | .next x b => wNextI P o.type (ev e x) b w k
  | .entry x => wEntry P (ev e x) w k
  | .panic _ => False
  | .call c =>
    match c.callee with
    | .value (.func f) => wCall P f (c.args.toList.map (ev e)) w k
    | .value x => wCallV P (ev e x) (c.args.toList.map (ev e)) w k
    | .invoke r m => wInvoke P (ev e r) m (c.args.toList.map (ev e)) w k
    | .builtin b => match b with
      | .len | .cap | .max | .min => wLen P b c.argTypes (c.args.toList.map (ev e)) w k
      | .append | .copy | .delete => wBuiltin P b c.argTypes (c.args.toList.map (ev e)) w k
      | _ => wOther P e o w k
  | _ => wOther P e o w k

theorem eqGuard_const (op : BinOp) (t : TypeId) (x y : Operand) (a b : Value) :
    ∃ c : Bool, eqGuard op t x y a b = eqGuard op t (if c = true then .const a else .tmp 0) (.tmp 0) a b := by
  refine ⟨(x matches .const _) || (y matches .const _), ?_⟩
  unfold eqGuard
  cases x <;> cases y <;> rfl

theorem map_toArray {α β : Type} (f : α → β) (xs : Array α) : xs.map f = ⟨xs.toList.map f⟩ := by
  apply Array.toList_inj.1; simp

theorem denOp_sound {P : Program} {e : Env} {o : Oper} {w : World} {k : Value → World → Prop} (h : denOp P e o w k) : wNext P (execOp (ev e) o) w k := by
  obtain ⟨dst, op, type, pos, after, guard⟩ := o
  cases op
  case move x => exact h
  case assign x => exact h
  case pick c x y =>
    simp only [denOp, wPick] at h
    simp only [execOp]
    generalize ev e c = c at *
    cases c <;> first | exact h.elim | skip
    rename_i b
    show wNext P (do pure (.value (if ← asBool (.bool b) then _ else _))) w k
    cases b <;> exact h
  case alloc t => exact (wNext_value P _ w k).symm ▸ h
  case box t x => exact (wNext_value P _ w k).symm ▸ h
  case build t ps =>
    simp only [denOp, wBuild] at h
    simp only [execOp, map_toArray, wNext_value]
    exact pureW_run h
  case buildSlice t n ps =>
    simp only [denOp, wBuildS] at h
    simp only [execOp, map_toArray, wNext_value]
    exact h
  case load t a => exact (wNext_value P _ w k).symm ▸ h
  case store t a x => exact (wNext_skip P _ w k).symm ▸ h
  case nilCheck x =>
    obtain ⟨v, hv, hk⟩ := (show pureW P (nilS (ev e x)) w k from h)
    unfold wNext
    rw [nil_exec (hv w)]
    exact hk
  case binOp op t x y yt =>
    simp only [denOp] at h
    simp only [execOp, wNext_value]
    obtain ⟨c, hc⟩ := eqGuard_const op t x y (ev e x) (ev e y)
    rw [hc]
    cases hf : (bif isArith op then isFloat P t else false)
    · rw [hf] at h
      obtain ⟨v, hv, hk⟩ := h
      unfold runW
      have := hv c w
      unfold binS at this
      rw [this]
      exact hk
    · rw [hf] at h
      exact h c
  case unOp op t x => exact (wNext_value P _ w k).symm ▸ pureW_run h
  case convert s d x => exact (wNext_value P _ w k).symm ▸ pureW_run h
  case makeInterface t x => exact (wNext_value P _ w k).symm ▸ pureW_run h
  case makeFunc fn first cap =>
    simp only [denOp, wFunc] at h
    simp only [execOp, map_toArray, wNext_value]
    exact h
  case makeMap t r =>
    cases r <;> exact (wNext_value P _ w k).symm ▸ h
  case makeSlice t l c => exact (wNext_value P _ w k).symm ▸ h
  case slice t x lo hi mx =>
    cases lo <;> cases hi <;> cases mx <;> exact (wNext_value P _ w k).symm ▸ pureW_run h
  case fieldAddr s x f => exact (wNext_value P _ w k).symm ▸ pureW_run h
  case field s x f => exact (wNext_value P _ w k).symm ▸ pureW_run h
  case indexAddr t x i => exact (wNext_value P _ w k).symm ▸ pureW_run h
  case index t x i => exact (wNext_value P _ w k).symm ▸ pureW_run h
  case lookup t x i ok => exact (wNext_value P _ w k).symm ▸ h
  case mapUpdate t m i x => exact (wNext_skip P _ w k).symm ▸ h
  case insert t m i x => exact (wNext_skip P _ w k).symm ▸ h
  case extract x i => exact (wNext_value P _ w k).symm ▸ pureW_run h
  case range t x => exact (wNext_value P _ w k).symm ▸ h
  case next x b => exact (wNext_value P _ w k).symm ▸ h
  case entry x => exact (wNext_value P _ w k).symm ▸ h
  case panic x => exact h.elim
  case call c =>
    obtain ⟨callee, args, argTypes⟩ := c
    cases callee with
    | value f =>
      cases f with
      | func f =>
        have h' : wNext P (callFunc f ⟨args.toList.map (ev e)⟩) w k := h
        show wNext P (callFunc f (#[] ++ args.map (ev e) ++ #[])) w k
        rw [map_toArray, Array.empty_append, Array.append_empty]
        exact h'
      | tmp t =>
        have h' : wNext P (do let d ← Deferred.ofValue (e t) ⟨args.toList.map (ev e)⟩; invoke d.target d.args) w k := h
        rw [← map_toArray] at h'
        exact h'
      | const v =>
        have h' : wNext P (do let d ← Deferred.ofValue v ⟨args.toList.map (ev e)⟩; invoke d.target d.args) w k := h
        rw [← map_toArray] at h'
        exact h'
      | global g =>
        have h' : wNext P (do let d ← Deferred.ofValue (.pointer (some ⟨g, 0, none⟩)) ⟨args.toList.map (ev e)⟩; invoke d.target d.args) w k := h
        rw [← map_toArray] at h'
        exact h'
    | invoke r m =>
      have h' : wNext P (callMethod (ev e r) m ⟨args.toList.map (ev e)⟩) w k := h
      rw [← map_toArray] at h'
      show wNext P (invoke (.fn (.method m) #[]) (#[ev e r] ++ args.map (ev e))) w k
      have e0 : (#[ev e r] ++ args.map (ev e))[0]? = some (ev e r) := by rw [Array.getElem?_append_left (by simp)]; rfl
      have e1 : (#[ev e r] ++ args.map (ev e)).extract 1 (#[ev e r] ++ args.map (ev e)).size = args.map (ev e) := by
        apply Array.toList_inj.1; simp [List.take_of_length_le]
      unfold invoke
      simp only [e0, e1]
      exact h'
    | builtin b =>
      cases b <;> first
        | exact h
        | (have h' := pureW_run h
           simp only [lenS, ← map_toArray] at h'
           simp only [execOp, resolve, invoke]
           exact (wNext_value P _ w k).symm ▸ h')
        | (have h' := h
           simp only [denOp, wBuiltin, ← map_toArray] at h'
           exact h')
  all_goals exact h


/-! Environments and frames. -/
structure Agrees (n : Nat) (a : Act) (e : Env) : Prop where
  defers : a.defers = []
  size : a.tmps.size = n
  get : ∀ i, a.tmps.getD i undef = e i
theorem Agrees.eval {n : Nat} {a : Act} {e : Env} (h : Agrees n a e) : a.eval = ev e := by
  funext x
  cases x <;> first | exact h.get _ | rfl
theorem Agrees.put {n : Nat} {a : Act} {e : Env} (h : Agrees n a e) {d : Nat} (hd : d < n) (v : Value) : Agrees n (a.put (some d) v) (Dn.put e d v) := by
  refine ⟨h.defers, by simp [Act.put, h.size], fun i => ?_⟩
  have hs : d < a.tmps.size := by rw [h.size]; exact hd
  by_cases hi : i = d
  · subst hi
    rw [put_same]
    simp [Act.put, hs]
  · rw [put_ne _ _ hi, ← h.get i]
    simp [Act.put, Array.getElem?_setIfInBounds_ne (Ne.symm hi)]
def dstOk (n : Nat) (d : Option Tmp) : Bool :=
  match d with
  | some i => Nat.blt i n
  | none => true
theorem Agrees.putO {n : Nat} {a : Act} {e : Env} (h : Agrees n a e) {d : Option Tmp} (hd : dstOk n d = true) (v : Value) : Agrees n (a.put d v) (Dn.putO e d v) := by
  cases d with
  | none => exact h
  | some i => exact h.put (Nat.le_of_ble_eq_true hd) v
theorem putO_ne {e : Env} {d : Option Tmp} {v : Value} {j : Nat} (h : d ≠ some j) : Dn.putO e d v j = e j := by
  cases d with
  | none => rfl
  | some i => exact put_ne _ _ (fun hj => h (by rw [hj]))

theorem wNext_upon {P : Program} {o : Oper} {a : Act} {w : World} {k : Value → World → Prop} {next : Act → World → Prop} {Q : Exit → Act → World → Prop}
    (h : wNext P (execOp a.eval o) w k) (hk : ∀ v w', k v w' → next (a.put o.dst v) w') : o.wp P a w next Q := by
  unfold Oper.wp
  unfold wNext at h
  generalize (execOp a.eval o).run P w = r at *
  cases r with
  | halt x w' => exact h.elim
  | ok x w' =>
    cases x <;> first | exact hk _ _ h | exact h.elim | skip
    refine Calls.mono h fun e w'' he => ?_
    cases e with
    | returned v => exact hk _ _ he
    | panicked c => exact he.elim
    | outgrown => exact he.elim

/-! The texts' heads of control. -/
def wGrp (c : Value) (want : Bool) (body : (Value → World → Prop) → Prop) (w : World) (k : Env → Value → World → Prop) : Prop :=
  match c with
  | .bool b => if b = want then body (fun v w' => ∀ J, k J v w') else ∀ J, k J undef w
  | _ => False
def wIf (c : Value) (A B : Prop) : Prop :=
  match c with
  | .bool true => A
  | .bool false => B
  | _ => False
def wDraw (w : World) (k : World → Prop) : Prop := k w.drew
def wKeep (P : Program) (l : List (TypeId × Value × Value)) (w : World) : Prop := ∀ x ∈ l, (Instr.loadAt x.1 x.2.1).run P w = .ok x.2.2 w

def wJ0 (body : (World → Prop) → Prop) (k : Env → World → Prop) : Prop := body fun  w => ∀ J, k J  w
def wJ1 (body : (Value → World → Prop) → Prop) (k : Env → Value → World → Prop) : Prop := body fun v0 w => ∀ J, k J v0 w
def wJ2 (body : (Value → Value → World → Prop) → Prop) (k : Env → Value → Value → World → Prop) : Prop := body fun v0 v1 w => ∀ J, k J v0 v1 w
def wJ3 (body : (Value → Value → Value → World → Prop) → Prop) (k : Env → Value → Value → Value → World → Prop) : Prop := body fun v0 v1 v2 w => ∀ J, k J v0 v1 v2 w
def wJ4 (body : (Value → Value → Value → Value → World → Prop) → Prop) (k : Env → Value → Value → Value → Value → World → Prop) : Prop := body fun v0 v1 v2 v3 w => ∀ J, k J v0 v1 v2 v3 w
def wJ5 (body : (Value → Value → Value → Value → Value → World → Prop) → Prop) (k : Env → Value → Value → Value → Value → Value → World → Prop) : Prop := body fun v0 v1 v2 v3 v4 w => ∀ J, k J v0 v1 v2 v3 v4 w
def wJ6 (body : (Value → Value → Value → Value → Value → Value → World → Prop) → Prop) (k : Env → Value → Value → Value → Value → Value → Value → World → Prop) : Prop := body fun v0 v1 v2 v3 v4 v5 w => ∀ J, k J v0 v1 v2 v3 v4 v5 w
def wJ7 (body : (Value → Value → Value → Value → Value → Value → Value → World → Prop) → Prop) (k : Env → Value → Value → Value → Value → Value → Value → Value → World → Prop) : Prop := body fun v0 v1 v2 v3 v4 v5 v6 w => ∀ J, k J v0 v1 v2 v3 v4 v5 v6 w
def wJ8 (body : (Value → Value → Value → Value → Value → Value → Value → Value → World → Prop) → Prop) (k : Env → Value → Value → Value → Value → Value → Value → Value → Value → World → Prop) : Prop := body fun v0 v1 v2 v3 v4 v5 v6 v7 w => ∀ J, k J v0 v1 v2 v3 v4 v5 v6 v7 w
def wJ9 (body : (Value → Value → Value → Value → Value → Value → Value → Value → Value → World → Prop) → Prop) (k : Env → Value → Value → Value → Value → Value → Value → Value → Value → Value → World → Prop) : Prop := body fun v0 v1 v2 v3 v4 v5 v6 v7 v8 w => ∀ J, k J v0 v1 v2 v3 v4 v5 v6 v7 v8 w
def wL0 (w : World) (step : Env → World → (World → Prop) → Prop) : Prop :=
  ∃ I : Nat → World → Prop, (∃ n, I n  w) ∧ ∀ n J  w, I n  w → step J  w fun  w' => ∃ n', n' < n ∧ I n'  w'
def wL1 (v0 : Value) (w : World) (step : Env → Value → World → (Value → World → Prop) → Prop) : Prop :=
  ∃ I : Nat → Value → World → Prop, (∃ n, I n v0 w) ∧ ∀ n J x0 w, I n x0 w → step J x0 w fun y0 w' => ∃ n', n' < n ∧ I n' y0 w'
def wL2 (v0 v1 : Value) (w : World) (step : Env → Value → Value → World → (Value → Value → World → Prop) → Prop) : Prop :=
  ∃ I : Nat → Value → Value → World → Prop, (∃ n, I n v0 v1 w) ∧ ∀ n J x0 x1 w, I n x0 x1 w → step J x0 x1 w fun y0 y1 w' => ∃ n', n' < n ∧ I n' y0 y1 w'
def wL3 (v0 v1 v2 : Value) (w : World) (step : Env → Value → Value → Value → World → (Value → Value → Value → World → Prop) → Prop) : Prop :=
  ∃ I : Nat → Value → Value → Value → World → Prop, (∃ n, I n v0 v1 v2 w) ∧ ∀ n J x0 x1 x2 w, I n x0 x1 x2 w → step J x0 x1 x2 w fun y0 y1 y2 w' => ∃ n', n' < n ∧ I n' y0 y1 y2 w'
def wL4 (v0 v1 v2 v3 : Value) (w : World) (step : Env → Value → Value → Value → Value → World → (Value → Value → Value → Value → World → Prop) → Prop) : Prop :=
  ∃ I : Nat → Value → Value → Value → Value → World → Prop, (∃ n, I n v0 v1 v2 v3 w) ∧ ∀ n J x0 x1 x2 x3 w, I n x0 x1 x2 x3 w → step J x0 x1 x2 x3 w fun y0 y1 y2 y3 w' => ∃ n', n' < n ∧ I n' y0 y1 y2 y3 w'
def wL5 (v0 v1 v2 v3 v4 : Value) (w : World) (step : Env → Value → Value → Value → Value → Value → World → (Value → Value → Value → Value → Value → World → Prop) → Prop) : Prop :=
  ∃ I : Nat → Value → Value → Value → Value → Value → World → Prop, (∃ n, I n v0 v1 v2 v3 v4 w) ∧ ∀ n J x0 x1 x2 x3 x4 w, I n x0 x1 x2 x3 x4 w → step J x0 x1 x2 x3 x4 w fun y0 y1 y2 y3 y4 w' => ∃ n', n' < n ∧ I n' y0 y1 y2 y3 y4 w'
def wL6 (v0 v1 v2 v3 v4 v5 : Value) (w : World) (step : Env → Value → Value → Value → Value → Value → Value → World → (Value → Value → Value → Value → Value → Value → World → Prop) → Prop) : Prop :=
  ∃ I : Nat → Value → Value → Value → Value → Value → Value → World → Prop, (∃ n, I n v0 v1 v2 v3 v4 v5 w) ∧ ∀ n J x0 x1 x2 x3 x4 x5 w, I n x0 x1 x2 x3 x4 x5 w → step J x0 x1 x2 x3 x4 x5 w fun y0 y1 y2 y3 y4 y5 w' => ∃ n', n' < n ∧ I n' y0 y1 y2 y3 y4 y5 w'
def wL7 (v0 v1 v2 v3 v4 v5 v6 : Value) (w : World) (step : Env → Value → Value → Value → Value → Value → Value → Value → World → (Value → Value → Value → Value → Value → Value → Value → World → Prop) → Prop) : Prop :=
  ∃ I : Nat → Value → Value → Value → Value → Value → Value → Value → World → Prop, (∃ n, I n v0 v1 v2 v3 v4 v5 v6 w) ∧ ∀ n J x0 x1 x2 x3 x4 x5 x6 w, I n x0 x1 x2 x3 x4 x5 x6 w → step J x0 x1 x2 x3 x4 x5 x6 w fun y0 y1 y2 y3 y4 y5 y6 w' => ∃ n', n' < n ∧ I n' y0 y1 y2 y3 y4 y5 y6 w'
def wL8 (v0 v1 v2 v3 v4 v5 v6 v7 : Value) (w : World) (step : Env → Value → Value → Value → Value → Value → Value → Value → Value → World → (Value → Value → Value → Value → Value → Value → Value → Value → World → Prop) → Prop) : Prop :=
  ∃ I : Nat → Value → Value → Value → Value → Value → Value → Value → Value → World → Prop, (∃ n, I n v0 v1 v2 v3 v4 v5 v6 v7 w) ∧ ∀ n J x0 x1 x2 x3 x4 x5 x6 x7 w, I n x0 x1 x2 x3 x4 x5 x6 x7 w → step J x0 x1 x2 x3 x4 x5 x6 x7 w fun y0 y1 y2 y3 y4 y5 y6 y7 w' => ∃ n', n' < n ∧ I n' y0 y1 y2 y3 y4 y5 y6 y7 w'
def wL9 (v0 v1 v2 v3 v4 v5 v6 v7 v8 : Value) (w : World) (step : Env → Value → Value → Value → Value → Value → Value → Value → Value → Value → World → (Value → Value → Value → Value → Value → Value → Value → Value → Value → World → Prop) → Prop) : Prop :=
  ∃ I : Nat → Value → Value → Value → Value → Value → Value → Value → Value → Value → World → Prop, (∃ n, I n v0 v1 v2 v3 v4 v5 v6 v7 v8 w) ∧ ∀ n J x0 x1 x2 x3 x4 x5 x6 x7 x8 w, I n x0 x1 x2 x3 x4 x5 x6 x7 x8 w → step J x0 x1 x2 x3 x4 x5 x6 x7 x8 w fun y0 y1 y2 y3 y4 y5 y6 y7 y8 w' => ∃ n', n' < n ∧ I n' y0 y1 y2 y3 y4 y5 y6 y7 y8 w'

/-! Code. -/
inductive RT where
  | nil
  | ops (l : List Nat) (rest : RT)
  | eff (i : Nat) (keep : List Nat) (rest : RT)
  | grp (j : Nat) (want : Bool) (live : Nat) (dead : List Nat) (body rest : RT)
  | alt (a b : RT)
inductive Ann where
  | z
  | s (a b : Ann)
  | j (live keep : List Nat) (a b : Ann)
  | l (live keep : List Nat) (a : Ann)
  | b (a : Ann)
  | r (t : RT)
def noOp : Oper := { dst := none, op := .move (.const undef), type := 0, pos := "", after := #[], guard := none }
def nth (l : List Oper) (i : Nat) : Oper :=
  match l, i with
  | [], _ => noOp
  | o :: _, 0 => o
  | _ :: l, i + 1 => nth l i
def dstOf (ops : List Oper) (i : Nat) : Nat :=
  match (nth ops i).dst with
  | some d => d
  | none => 0
def mixD (dead : List Nat) (e J : Env) : Env := fun j => bif memN j dead then J j else e j
def keepOf (ops : List Oper) (e : Env) (i : Nat) : TypeId × Value × Value :=
  match (nth ops i).op with
  | .load t x => (t, ev e x, e (dstOf ops i))
  | _ => (0, undef, undef)
def denLs (P : Program) (l : List Oper) (e : Env) (w : World) (k : Env → World → Prop) : Prop :=
  match l with
  | [] => k e w
  | o :: l => denOp P e o w fun v w' => denLs P l (putO e o.dst v) w' k
def denL (P : Program) (ops : List Oper) (l : List Nat) (e : Env) (w : World) (k : Env → World → Prop) : Prop :=
  match l with
  | [] => k e w
  | i :: l => denOp P e (nth ops i) w fun v w' => denL P ops l (putO e (nth ops i).dst v) w' k
def denR (P : Program) (ops : List Oper) (t : RT) (e : Env) (w : World) (k : Env → World → Prop) : Prop :=
  match t with
  | .nil => k e w
  | .ops l r => denL P ops l e w fun e' w' => denR P ops r e' w' k
  | .eff i ks r =>
    match ks with
    | [] => denOp P e (nth ops i) w fun v w' => denR P ops r (putO e (nth ops i).dst v) w' k
    | _ => denOp P e (nth ops i) w fun v w' => wKeep P (ks.map (keepOf ops e)) w' ∧ denR P ops r (putO e (nth ops i).dst v) w' k
  | .grp j want live dead body r =>
    wGrp (e (dstOf ops j)) want (fun k' => denR P ops body e w fun e' w' => k' (e' live) w') w fun J v w' => denR P ops r (put (mixD dead e J) live v) w' k
  | .alt a b => denR P ops a e w k ∧ denR P ops b e w k
def argE (l : List Value) : Env := fun j =>
  match l, j with
  | [], _ => undef
  | v :: _, 0 => v
  | _ :: l, j + 1 => argE l j
def wRes (P : Program) (t : TypeId) (x : Value) (w : World) (k : Value → Prop) : Prop :=
  ∃ v, (do loadVar t (← asAddr x) : Sem Value).run P w = .ok v w ∧ k v
def mkRes (l : List Value) : Value :=
  match l with
  | [v] => v
  | l => .tuple ⟨l⟩
def denRs (P : Program) (rs : List ResultVar) (acc : List Value) (e : Env) (w : World) (k : Value → World → Prop) : Prop :=
  match rs with
  | [] => k (mkRes acc) w
  | .tmp t :: rs => denRs P rs (acc ++ [e t]) e w k
  | .cell a t :: rs => wRes P t (e a) w fun v => denRs P rs (acc ++ [v]) e w k

def den (P : Program) (rs : List ResultVar) (c : Code) (an : Ann) (e : Env) (w : World) (kn : Env → World → Prop) (kx : Nat → Env → World → Prop)
    (kr : Value → World → Prop) : Prop :=
  match c with
  | .skip => kn e w
  | .region _ ops dr =>
    match an with
    | .r t => bif dr then wDraw w fun w' => denR P ops.toList t e w' kn else denR P ops.toList t e w kn
    | _ => denLs P ops.toList e w kn
  | .seq x y =>
    match an with
    | .j live keep ax ay =>
      match live with
      | [] => wJ0 (fun k => den P rs x ax e w (fun _ w' => k  w') kx kr) fun J  w' => den P rs y ay (mixK keep e J) w' kn kx kr
      | [l0] => wJ1 (fun k => den P rs x ax e w (fun e' w' => k (e' l0) w') kx kr) fun J v0 w' => den P rs y ay (put (mixK keep e J) l0 v0) w' kn kx kr
      | [l0, l1] => wJ2 (fun k => den P rs x ax e w (fun e' w' => k (e' l0) (e' l1) w') kx kr) fun J v0 v1 w' => den P rs y ay (put (put (mixK keep e J) l0 v0) l1 v1) w' kn kx kr
      | [l0, l1, l2] => wJ3 (fun k => den P rs x ax e w (fun e' w' => k (e' l0) (e' l1) (e' l2) w') kx kr) fun J v0 v1 v2 w' => den P rs y ay (put (put (put (mixK keep e J) l0 v0) l1 v1) l2 v2) w' kn kx kr
      | [l0, l1, l2, l3] => wJ4 (fun k => den P rs x ax e w (fun e' w' => k (e' l0) (e' l1) (e' l2) (e' l3) w') kx kr) fun J v0 v1 v2 v3 w' => den P rs y ay (put (put (put (put (mixK keep e J) l0 v0) l1 v1) l2 v2) l3 v3) w' kn kx kr
      | [l0, l1, l2, l3, l4] => wJ5 (fun k => den P rs x ax e w (fun e' w' => k (e' l0) (e' l1) (e' l2) (e' l3) (e' l4) w') kx kr) fun J v0 v1 v2 v3 v4 w' => den P rs y ay (put (put (put (put (put (mixK keep e J) l0 v0) l1 v1) l2 v2) l3 v3) l4 v4) w' kn kx kr
      | [l0, l1, l2, l3, l4, l5] => wJ6 (fun k => den P rs x ax e w (fun e' w' => k (e' l0) (e' l1) (e' l2) (e' l3) (e' l4) (e' l5) w') kx kr) fun J v0 v1 v2 v3 v4 v5 w' => den P rs y ay (put (put (put (put (put (put (mixK keep e J) l0 v0) l1 v1) l2 v2) l3 v3) l4 v4) l5 v5) w' kn kx kr
      | [l0, l1, l2, l3, l4, l5, l6] => wJ7 (fun k => den P rs x ax e w (fun e' w' => k (e' l0) (e' l1) (e' l2) (e' l3) (e' l4) (e' l5) (e' l6) w') kx kr) fun J v0 v1 v2 v3 v4 v5 v6 w' => den P rs y ay (put (put (put (put (put (put (put (mixK keep e J) l0 v0) l1 v1) l2 v2) l3 v3) l4 v4) l5 v5) l6 v6) w' kn kx kr
      | [l0, l1, l2, l3, l4, l5, l6, l7] => wJ8 (fun k => den P rs x ax e w (fun e' w' => k (e' l0) (e' l1) (e' l2) (e' l3) (e' l4) (e' l5) (e' l6) (e' l7) w') kx kr) fun J v0 v1 v2 v3 v4 v5 v6 v7 w' => den P rs y ay (put (put (put (put (put (put (put (put (mixK keep e J) l0 v0) l1 v1) l2 v2) l3 v3) l4 v4) l5 v5) l6 v6) l7 v7) w' kn kx kr
      | [l0, l1, l2, l3, l4, l5, l6, l7, l8] => wJ9 (fun k => den P rs x ax e w (fun e' w' => k (e' l0) (e' l1) (e' l2) (e' l3) (e' l4) (e' l5) (e' l6) (e' l7) (e' l8) w') kx kr) fun J v0 v1 v2 v3 v4 v5 v6 v7 v8 w' => den P rs y ay (put (put (put (put (put (put (put (put (put (mixK keep e J) l0 v0) l1 v1) l2 v2) l3 v3) l4 v4) l5 v5) l6 v6) l7 v7) l8 v8) w' kn kx kr
      | _ => False
    | .s ax ay => den P rs x ax e w (fun e' w' => den P rs y ay e' w' kn kx kr) kx kr
    | _ => den P rs x .z e w (fun e' w' => den P rs y .z e' w' kn kx kr) kx kr
  | .cond v x y =>
    match an with
    | .s ax ay => wIf (ev e v) (den P rs x ax e w kn kx kr) (den P rs y ay e w kn kx kr)
    | _ => wIf (ev e v) (den P rs x .z e w kn kx kr) (den P rs y .z e w kn kx kr)
  | .block id x =>
    match an with
    | .b a => den P rs x a e w kn (fun i e' w' => bif Nat.beq i id then kn e' w' else kx i e' w') kr
    | _ => den P rs x .z e w kn (fun i e' w' => bif Nat.beq i id then kn e' w' else kx i e' w') kr
  | .loop x =>
    match an with
    | .l live keep a =>
      match live with
      | [] => wL0  w fun J  w' k => den P rs x a (mixK keep e J) w' (fun _ w' => k  w') kx kr
      | [l0] => wL1 (e l0) w fun J v0 w' k => den P rs x a (put (mixK keep e J) l0 v0) w' (fun e' w' => k (e' l0) w') kx kr
      | [l0, l1] => wL2 (e l0) (e l1) w fun J v0 v1 w' k => den P rs x a (put (put (mixK keep e J) l0 v0) l1 v1) w' (fun e' w' => k (e' l0) (e' l1) w') kx kr
      | [l0, l1, l2] => wL3 (e l0) (e l1) (e l2) w fun J v0 v1 v2 w' k => den P rs x a (put (put (put (mixK keep e J) l0 v0) l1 v1) l2 v2) w' (fun e' w' => k (e' l0) (e' l1) (e' l2) w') kx kr
      | [l0, l1, l2, l3] => wL4 (e l0) (e l1) (e l2) (e l3) w fun J v0 v1 v2 v3 w' k => den P rs x a (put (put (put (put (mixK keep e J) l0 v0) l1 v1) l2 v2) l3 v3) w' (fun e' w' => k (e' l0) (e' l1) (e' l2) (e' l3) w') kx kr
      | [l0, l1, l2, l3, l4] => wL5 (e l0) (e l1) (e l2) (e l3) (e l4) w fun J v0 v1 v2 v3 v4 w' k => den P rs x a (put (put (put (put (put (mixK keep e J) l0 v0) l1 v1) l2 v2) l3 v3) l4 v4) w' (fun e' w' => k (e' l0) (e' l1) (e' l2) (e' l3) (e' l4) w') kx kr
      | [l0, l1, l2, l3, l4, l5] => wL6 (e l0) (e l1) (e l2) (e l3) (e l4) (e l5) w fun J v0 v1 v2 v3 v4 v5 w' k => den P rs x a (put (put (put (put (put (put (mixK keep e J) l0 v0) l1 v1) l2 v2) l3 v3) l4 v4) l5 v5) w' (fun e' w' => k (e' l0) (e' l1) (e' l2) (e' l3) (e' l4) (e' l5) w') kx kr
      | [l0, l1, l2, l3, l4, l5, l6] => wL7 (e l0) (e l1) (e l2) (e l3) (e l4) (e l5) (e l6) w fun J v0 v1 v2 v3 v4 v5 v6 w' k => den P rs x a (put (put (put (put (put (put (put (mixK keep e J) l0 v0) l1 v1) l2 v2) l3 v3) l4 v4) l5 v5) l6 v6) w' (fun e' w' => k (e' l0) (e' l1) (e' l2) (e' l3) (e' l4) (e' l5) (e' l6) w') kx kr
      | [l0, l1, l2, l3, l4, l5, l6, l7] => wL8 (e l0) (e l1) (e l2) (e l3) (e l4) (e l5) (e l6) (e l7) w fun J v0 v1 v2 v3 v4 v5 v6 v7 w' k => den P rs x a (put (put (put (put (put (put (put (put (mixK keep e J) l0 v0) l1 v1) l2 v2) l3 v3) l4 v4) l5 v5) l6 v6) l7 v7) w' (fun e' w' => k (e' l0) (e' l1) (e' l2) (e' l3) (e' l4) (e' l5) (e' l6) (e' l7) w') kx kr
      | [l0, l1, l2, l3, l4, l5, l6, l7, l8] => wL9 (e l0) (e l1) (e l2) (e l3) (e l4) (e l5) (e l6) (e l7) (e l8) w fun J v0 v1 v2 v3 v4 v5 v6 v7 v8 w' k => den P rs x a (put (put (put (put (put (put (put (put (put (mixK keep e J) l0 v0) l1 v1) l2 v2) l3 v3) l4 v4) l5 v5) l6 v6) l7 v7) l8 v8) w' (fun e' w' => k (e' l0) (e' l1) (e' l2) (e' l3) (e' l4) (e' l5) (e' l6) (e' l7) (e' l8) w') kx kr
      | _ => False
    | _ => False
  | .scope x =>
    match an with
    | .b a => den P rs x a e w kn kx kr
    | _ => den P rs x .z e w kn kx kr
  | .ret => denRs P rs [] e w kr
  | .exit id => kx id e w
  | .label _ => kn e w
  | _ => False

def bodyOf (f : Func) : Code :=
  match f.body with
  | some c => c
  | none => .skip
def denF (P : Program) (f : Func) (an : Ann) (args : List Value) (w : World) (k : Value → World → Prop) : Prop :=
  den P f.results.toList (bodyOf f) an (argE args) w (fun e w' => denRs P f.results.toList [] e w' k) (fun _ _ _ => False) k


/-! What is checked of an annotation (by the kernel), and soundness. -/
def dsts (ops : List Oper) (l : List Nat) : List Nat :=
  match l with
  | [] => []
  | i :: l => match (nth ops i).dst with
    | some d => d :: dsts ops l
    | none => dsts ops l
def flat (t : RT) : List Nat :=
  match t with
  | .nil => []
  | .ops l r => l ++ flat r
  | .eff i _ r => i :: flat r
  | .grp _ _ _ _ body r => flat body ++ flat r
  | .alt a _ => flat a
def allN (f : Nat → Bool) (l : List Nat) : Bool :=
  match l with
  | [] => true
  | x :: l => bif f x then allN f l else false
theorem allN_iff {f : Nat → Bool} : ∀ {l : List Nat}, allN f l = true ↔ ∀ x ∈ l, f x = true
  | [] => by simp [allN]
  | x :: l => by
    cases h : f x <;> simp [allN, h, allN_iff]
def guardIs (g g' : Option (Nat × Bool)) : Bool :=
  match g, g' with
  | none, none => true
  | some (i, a), some (j, b) => bif Nat.beq i j then (bif a then b else !b) else false
  | _, _ => false
theorem guardIs_eq {g g' : Option (Nat × Bool)} (h : guardIs g g' = true) : g = g' := by
  unfold guardIs at h
  split at h
  · rfl
  · rename_i i a j b
    cases hb : Nat.beq i j
    · rw [hb] at h; exact absurd h (by simp)
    · have := Nat.eq_of_beq_eq_true hb
      rw [hb] at h
      subst this
      cases a <;> cases b <;> first | rfl | exact absurd h (by simp)
  · exact absurd h (by simp)
def basicChk (n len : Nat) (ops : List Oper) (i : Nat) : Bool := bif Nat.blt i len then dstOk n (nth ops i).dst else false
def opChk (n len : Nat) (ops : List Oper) (g : Option (Nat × Bool)) (prot : List Nat) (i : Nat) : Bool :=
  bif basicChk n len ops i then (bif guardIs (nth ops i).guard g then (match (nth ops i).dst with
    | some d => !memN d prot
    | none => true) else false) else false
def isDst (ops : List Oper) (j : Nat) : Bool :=
  match (nth ops j).dst with
  | some _ => true
  | none => false
def skipChk (n len : Nat) (ops : List Oper) (j : Nat) (want : Bool) (done l : List Nat) : Bool :=
  match l with
  | [] => true
  | i :: l => bif basicChk n len ops i then (bif (match (nth ops i).guard with
      | some (j', b') => bif guardIs (some (j', b')) (some (j, want)) then true else (bif memN j' done then isDst ops j' else false)
      | none => false) then skipChk n len ops j want (i :: done) l else false) else false
def seqChk (n len : Nat) (ops : List Oper) (g : Option (Nat × Bool)) (prot : List Nat) (t : RT) : Bool :=
  match t with
  | .nil => true
  | .ops l r => bif allN (opChk n len ops g prot) l then seqChk n len ops g prot r else false
  | .eff _ _ _ => false
  | .grp j want live dead body r =>
    bif basicChk n len ops j then (bif isDst ops j then (bif seqChk n len ops (some (j, want)) (dstOf ops j :: prot) body then
      (bif allN (fun x => memN x (live :: dead)) (dsts ops (flat body)) then (bif memN live (dsts ops (flat body)) then
        (bif allN (fun x => !memN x prot) (dsts ops (flat body)) then
        (bif skipChk n len ops j want [] (flat body) then seqChk n len ops g prot r else false) else false) else false) else false) else false) else false) else false
  | .alt _ _ => false

theorem bif_t {b c : Bool} (h : (bif b then c else false) = true) : b = true ∧ c = true := by
  cases b
  · exact absurd h (by simp)
  · exact ⟨rfl, h⟩
theorem nth_get : ∀ {l : List Oper} {i : Nat}, i < l.length → l[i]? = some (nth l i)
  | [], _, h => absurd h (by simp)
  | _ :: _, 0, _ => rfl
  | _ :: l, i + 1, h => by
    have := nth_get (l := l) (i := i) (by simpa using h)
    simpa [nth] using this
theorem dstOf_eq {ops : List Oper} {j : Nat} (h : isDst ops j = true) : (nth ops j).dst = some (dstOf ops j) := by
  unfold isDst at h
  unfold dstOf
  split at h
  · rename_i d hd; rw [hd]
  · exact absurd h (by simp)
theorem mem_dsts {ops : List Oper} {i d : Nat} (hd : (nth ops i).dst = some d) : ∀ {l : List Nat}, i ∈ l → d ∈ dsts ops l
  | x :: l, h => by
    unfold dsts
    rcases List.mem_cons.1 h with rfl | h
    · rw [hd]; exact List.mem_cons_self ..
    · have := mem_dsts hd (l := l) h
      split
      · exact List.mem_cons_of_mem _ this
      · exact this
theorem dsts_append {ops : List Oper} {l m : List Nat} : dsts ops (l ++ m) = dsts ops l ++ dsts ops m := by
  induction l with
  | nil => rfl
  | cons x l ih =>
    simp only [List.cons_append, dsts]
    split <;> simp [ih]
theorem basic_spec {n len : Nat} {ops : List Oper} {i : Nat} (h : basicChk n len ops i = true) : i < len ∧ dstOk n (nth ops i).dst = true := by
  have := bif_t h
  exact ⟨Nat.le_of_ble_eq_true this.1, this.2⟩

section seqs
variable {P : Program} {n : Nat} {arr : Array Oper} {ops : List Oper} {Q : Exit → Act → World → Prop}
theorem yielded_of (ho : ops = arr.toList) {a : Act} {e : Env} (hA : Agrees n a e) {j : Nat} (hj : basicChk n ops.length ops j = true) (hd : isDst ops j = true) :
    yielded arr a.tmps j = (match e (dstOf ops j) with
      | .bool b => some b
      | _ => none) := by
  obtain ⟨hl, hn⟩ := basic_spec hj
  have h1 := nth_get hl
  have h2 := dstOf_eq hd
  rw [h2] at hn
  have hn' : dstOf ops j < a.tmps.size := by rw [hA.size]; exact Nat.le_of_ble_eq_true hn
  have h3 : arr[j]? = some (nth ops j) := by rw [← h1, ho]; simp
  unfold yielded
  rw [h3]
  simp only [Option.bind_some, h2]
  have h4 := hA.get (dstOf ops j)
  rw [← h4]
  simp only [hn', Array.getElem?_eq_getElem, Array.getD_eq_getD_getElem?, Option.getD_some]
  generalize a.tmps[dstOf ops j] = v
  cases v <;> rfl
theorem wpOps_step {a : Act} {w : World} {i : Nat} {rest : List Nat} {o : Oper} {k : Value → World → Prop} (ho : arr[i]? = some o)
    (hw : Region.wanted o (yielded arr a.tmps) = true) (h : wNext P (execOp a.eval o) w k)
    (hk : ∀ v w', k v w' → wpOps P arr Q rest (a.put o.dst v) w') : wpOps P arr Q (i :: rest) a w := by
  simp only [wpOps, ho, hw, if_true]
  exact .inl (wNext_upon h hk)
theorem wpOps_pass {a : Act} {w : World} {i : Nat} {rest : List Nat} {o : Oper} (ho : arr[i]? = some o)
    (hw : Region.wanted o (yielded arr a.tmps) = false) (h : wpOps P arr Q rest (a.put o.dst undef) w) : wpOps P arr Q (i :: rest) a w := by
  simp only [wpOps, ho, hw]
  simpa using h
def Holds (n : Nat) (ops : List Oper) (g : Option (Nat × Bool)) (prot : List Nat) (e : Env) : Prop :=
  match g with
  | none => True
  | some (j, want) => basicChk n ops.length ops j = true ∧ isDst ops j = true ∧ dstOf ops j ∈ prot ∧ e (dstOf ops j) = .bool want
theorem Holds.keep {g : Option (Nat × Bool)} {prot : List Nat} {e e' : Env} (h : Holds n ops g prot e) (hk : ∀ s ∈ prot, e' s = e s) : Holds n ops g prot e' := by
  unfold Holds at *
  split
  · trivial
  · rename_i j want
    obtain ⟨h1, h2, h3, h4⟩ := h
    exact ⟨h1, h2, h3, (hk _ h3).trans h4⟩
theorem Holds.wanted (ho : ops = arr.toList) {g : Option (Nat × Bool)} {prot : List Nat} {a : Act} {e : Env} (hA : Agrees n a e) (h : Holds n ops g prot e) {o : Oper} (hg : o.guard = g) :
    Region.wanted o (yielded arr a.tmps) = true := by
  unfold Region.wanted
  rw [hg]
  unfold Holds at h
  cases g with
  | none => rfl
  | some p =>
    obtain ⟨j, want⟩ := p
    obtain ⟨h1, h2, _, h4⟩ := h
    simp only [yielded_of ho hA h1 h2, h4]
    simp
theorem opChk_spec {g : Option (Nat × Bool)} {prot : List Nat} {i len : Nat} (h : opChk n len ops g prot i = true) :
    basicChk n len ops i = true ∧ (nth ops i).guard = g ∧ ∀ d, (nth ops i).dst = some d → d ∉ prot := by
  obtain ⟨h1, h2⟩ := bif_t h
  obtain ⟨h2, h3⟩ := bif_t h2
  refine ⟨h1, guardIs_eq h2, fun d hd hm => ?_⟩
  rw [hd] at h3
  simp [memN_iff.2 hm] at h3
theorem denL_seq (ho : ops = arr.toList) {g : Option (Nat × Bool)} {prot : List Nat} : ∀ (l rest : List Nat) (e : Env) (a : Act) (w : World) (k : Env → World → Prop),
    allN (opChk n ops.length ops g prot) l = true → Agrees n a e → Holds n ops g prot e → denL P ops l e w k →
    (∀ a' e' w', Agrees n a' e' → (∀ s, s ∉ dsts ops l → e' s = e s) → k e' w' → wpOps P arr Q rest a' w') → wpOps P arr Q (l ++ rest) a w := by
  intro l
  induction l with
  | nil => exact fun rest e a w k _ hA _ h hk => hk a e w hA (fun _ _ => rfl) h
  | cons i l ih =>
    intro rest e a w k hc hA hH h hk
    have hc' := allN_iff.1 hc
    obtain ⟨h1, h2, h3⟩ := opChk_spec (hc' i (List.mem_cons_self ..))
    obtain ⟨hl, hn⟩ := basic_spec h1
    have hget : arr[i]? = some (nth ops i) := by rw [← nth_get hl, ho]; simp
    have h' := denOp_sound h
    rw [← hA.eval] at h'
    refine wpOps_step hget (hH.wanted ho hA h2) h' fun v w' hv => ?_
    have hput : ∀ s, s ∉ dsts ops (i :: l) → putO e (nth ops i).dst v s = e s := by
      intro s hs
      refine putO_ne fun hd => hs (mem_dsts hd (List.mem_cons_self ..))
    refine ih rest _ _ w' k (allN_iff.2 fun x hx => hc' x (List.mem_cons_of_mem _ hx)) (hA.putO hn v) (hH.keep fun s hs => putO_ne fun hd => h3 s hd hs) hv ?_
    intro a' e' w'' hA' hf hk'
    refine hk a' e' w'' hA' (fun s hs => ?_) hk'
    rw [hf s (fun hm => hs ?_), hput s hs]
    unfold dsts
    split
    · exact List.mem_cons_of_mem _ hm
    · exact hm
theorem skip_seq (ho : ops = arr.toList) {j : Nat} {want : Bool} (hj : basicChk n ops.length ops j = true) (hjd : isDst ops j = true) {rest : List Nat} {w : World} :
    ∀ (l done : List Nat) (e : Env) (a : Act),
    skipChk n ops.length ops j want done l = true → Agrees n a e → e (dstOf ops j) ≠ .bool want → (∀ i ∈ done, basicChk n ops.length ops i = true ∧ ∀ d, (nth ops i).dst = some d → e d = undef) →
    (∀ a' e', Agrees n a' e' → (∀ s, s ∉ dsts ops l → e' s = e s) → (∀ s ∈ dsts ops l, e' s = undef) → wpOps P arr Q rest a' w) → wpOps P arr Q (l ++ rest) a w := by
  intro l
  induction l with
  | nil => exact fun done e a _ hA _ _ hk => hk a e hA (fun _ _ => rfl) (fun s hs => by simp [dsts] at hs)
  | cons i l ih =>
    intro done e a hc hA hne hdone hk
    obtain ⟨hb, hc⟩ := bif_t hc
    obtain ⟨hg, hc⟩ := bif_t hc
    obtain ⟨hl, hn⟩ := basic_spec hb
    have hget : arr[i]? = some (nth ops i) := by rw [← nth_get hl, ho]; simp
    have hun : Region.wanted (nth ops i) (yielded arr a.tmps) = false := by
      unfold Region.wanted
      split at hg
      · rename_i j' b' hgd
        rw [hgd]
        show (yielded arr a.tmps j' == some b') = false
        cases hgi : guardIs (some (j', b')) (some (j, want))
        · rw [hgi] at hg
          obtain ⟨hm, hd'⟩ := bif_t hg
          obtain ⟨hb', hu⟩ := hdone j' (memN_iff.1 hm)
          rw [yielded_of ho hA hb' hd', hu _ (dstOf_eq hd')]
          rfl
        · have := guardIs_eq hgi
          injection this with this
          injection this with e1 e2
          subst e1; subst e2
          rw [yielded_of ho hA hj hjd]
          generalize e (dstOf ops j') = v at *
          cases v <;> first | rfl | skip
          rename_i b
          have : b ≠ b' := fun h => hne (by rw [h])
          simpa using this
      · exact absurd hg (by simp)
    refine wpOps_pass hget hun ?_
    have hund : ∀ d, (nth ops i).dst = some d → putO e (nth ops i).dst undef d = undef := by
      intro d hd
      rw [hd]
      exact put_same _ _ _
    have hkeepU : ∀ d, e d = undef → putO e (nth ops i).dst undef d = undef := by
      intro d hd
      by_cases h : (nth ops i).dst = some d
      · exact hund d h
      · rw [putO_ne h, hd]
    refine ih (i :: done) _ _ hc (hA.putO hn undef) ?_ ?_ ?_
    · by_cases h : (nth ops i).dst = some (dstOf ops j)
      · rw [hund _ h]; intro h'; simp [undef] at h'
      · rw [putO_ne h]; exact hne
    · intro x hx
      rcases List.mem_cons.1 hx with rfl | hx
      · exact ⟨hb, hund⟩
      · exact ⟨(hdone x hx).1, fun d hd => hkeepU d ((hdone x hx).2 d hd)⟩
    · intro a' e' hA' hf hu
      refine hk a' e' hA' (fun s hs => ?_) (fun s hs => ?_)
      · have h1 : (nth ops i).dst ≠ some s := fun hd => hs (mem_dsts hd (List.mem_cons_self ..))
        rw [hf s (fun hm => hs (by unfold dsts; split <;> first | exact List.mem_cons_of_mem _ hm | exact hm)), putO_ne h1]
      · by_cases hm : s ∈ dsts ops l
        · exact hu s hm
        · rw [hf s hm]
          unfold dsts at hs
          split at hs
          · rename_i d hd
            rcases List.mem_cons.1 hs with rfl | hs
            · have := hund s hd; rw [hd] at this ⊢; exact this
            · exact absurd hs hm
          · exact absurd hs hm
end seqs


section regs
variable {P : Program} {n : Nat} {arr : Array Oper} {ops : List Oper} {Q : Exit → Act → World → Prop}
theorem mixD_self {dead : List Nat} {e e' : Env} {live : Nat} (h : ∀ s, s ≠ live → s ∉ dead → e' s = e s) : put (mixD dead e e') live (e' live) = e' := by
  funext s
  by_cases hs : s = live
  · subst hs; exact put_same _ _ _
  · rw [put_ne _ _ hs]
    unfold mixD
    by_cases hd : s ∈ dead
    · rw [memN_iff.2 hd]; rfl
    · have : memN s dead = false := by
        cases h' : memN s dead
        · rfl
        · exact absurd (memN_iff.1 h') hd
      rw [this]
      exact (h s hs hd).symm
theorem prot_dsts {g : Option (Nat × Bool)} {prot : List Nat} {len : Nat} : ∀ {l : List Nat}, allN (opChk n len ops g prot) l = true → ∀ s ∈ prot, s ∉ dsts ops l
  | [], _, _, _ => by simp [dsts]
  | i :: l, hc, s, hs => by
    have hc' := allN_iff.1 hc
    have h3 := (opChk_spec (hc' i (List.mem_cons_self ..))).2.2
    have := prot_dsts (l := l) (allN_iff.2 fun x hx => hc' x (List.mem_cons_of_mem _ hx)) s hs
    unfold dsts
    split
    · rename_i d hd
      intro hm
      rcases List.mem_cons.1 hm with rfl | hm
      · exact h3 _ hd hs
      · exact this hm
    · exact this
theorem denR_seq (ho : ops = arr.toList) : ∀ (t : RT) (g : Option (Nat × Bool)) (prot rest : List Nat) (e : Env) (a : Act) (w : World) (k : Env → World → Prop),
    seqChk n ops.length ops g prot t = true → Agrees n a e → Holds n ops g prot e → denR P ops t e w k →
    (∀ a' e' w', Agrees n a' e' → (∀ s, s ∉ dsts ops (flat t) → e' s = e s) → (∀ s ∈ prot, e' s = e s) → k e' w' → wpOps P arr Q rest a' w') → wpOps P arr Q (flat t ++ rest) a w := by
  intro t
  induction t with
  | nil => exact fun g prot rest e a w k _ hA _ h hk => hk a e w hA (fun _ _ => rfl) (fun _ _ => rfl) h
  | ops l r ih =>
    intro g prot rest e a w k hc hA hH h hk
    obtain ⟨hc1, hc2⟩ := bif_t hc
    show wpOps P arr Q ((l ++ flat r) ++ rest) a w
    rw [List.append_assoc]
    have hpl := prot_dsts hc1
    refine denL_seq ho (g := g) (prot := prot) l (flat r ++ rest) e a w _ hc1 hA hH h ?_
    intro a' e' w' hA' hf hk'
    refine ih g prot rest e' a' w' k hc2 hA' (hH.keep fun s hs => hf s (hpl s hs)) hk' ?_
    intro a2 e2 w2 hA2 hf2 hp2 hk2
    refine hk a2 e2 w2 hA2 (fun s hs => ?_) (fun s hs => (hp2 s hs).trans (hf s (hpl s hs))) hk2
    simp only [flat, dsts_append, List.mem_append, not_or] at hs
    rw [hf2 s hs.2, hf s hs.1]
  | eff i ks r => exact fun g prot rest e a w k hc => absurd hc (by simp [seqChk])
  | alt x y => exact fun g prot rest e a w k hc => absurd hc (by simp [seqChk])
  | grp j want live dead body r ihb ihr =>
    intro g prot rest e a w k hc hA hH h hk
    obtain ⟨c1, hc⟩ := bif_t hc
    obtain ⟨c2, hc⟩ := bif_t hc
    obtain ⟨c3, hc⟩ := bif_t hc
    obtain ⟨c4, hc⟩ := bif_t hc
    obtain ⟨c5, hc⟩ := bif_t hc
    obtain ⟨c6, hc⟩ := bif_t hc
    obtain ⟨c7, c8⟩ := bif_t hc
    have c4' := allN_iff.1 c4
    have c6' := allN_iff.1 c6
    have hsub : ∀ s, s ∈ dsts ops (flat body) → s = live ∨ s ∈ dead := fun s hs => by
      have := memN_iff.1 (c4' s hs)
      simpa using this
    have hprot : ∀ s ∈ prot, s ∉ dsts ops (flat body) := fun s hs hm => by
      have := c6' s hm
      simp [memN_iff.2 hs] at this
    show wpOps P arr Q ((flat body ++ flat r) ++ rest) a w
    rw [List.append_assoc]
    have fin : ∀ a' e' w', Agrees n a' e' → (∀ s, s ∉ dsts ops (flat body) → e' s = e s) → (∀ J, denR P ops r (put (mixD dead e J) live (e' live)) w' k) → wpOps P arr Q (flat r ++ rest) a' w' := by
      intro a' e' w' hA' hf hk'
      have h1 := hk' e'
      rw [mixD_self (fun s hs hd => hf s (fun hm => by rcases hsub s hm with h | h <;> contradiction))] at h1
      refine ihr g prot rest e' a' w' k c8 hA' (hH.keep fun s hs => hf s (hprot s hs)) h1 ?_
      intro a2 e2 w2 hA2 hf2 hp2 hk2
      refine hk a2 e2 w2 hA2 (fun s hs => ?_) (fun s hs => (hp2 s hs).trans (hf s (hprot s hs))) hk2
      simp only [flat, dsts_append, List.mem_append, not_or] at hs
      rw [hf2 s hs.2, hf s hs.1]
    have h' : wGrp (e (dstOf ops j)) want (fun k' => denR P ops body e w fun e' w' => k' (e' live) w') w (fun J v w' => denR P ops r (put (mixD dead e J) live v) w' k) := h
    unfold wGrp at h'
    split at h'
    · rename_i b hb
      by_cases hbw : b = want
      · rw [if_pos hbw] at h'
        subst hbw
        refine ihb (some (j, b)) (dstOf ops j :: prot) (flat r ++ rest) e a w _ c3 hA ⟨c1, c2, List.mem_cons_self .., hb⟩ h' ?_
        intro a' e' w' hA' hf hp hk'
        exact fin a' e' w' hA' hf hk'
      · rw [if_neg hbw] at h'
        refine skip_seq ho c1 c2 (flat body) [] e a c7 hA (by rw [hb]; intro h; injection h with h; exact hbw h) (fun i hi => by simp at hi) ?_
        intro a' e' hA' hf hu
        refine fin a' e' w hA' hf ?_
        rw [hu live (memN_iff.1 c5)]
        exact h'
    · exact h'.elim
end regs


/-! Regions that draw their order. -/
def nthN (l : List Nat) (i : Nat) : Nat :=
  match l, i with
  | [], _ => 0
  | x :: _, 0 => x
  | _ :: l, i + 1 => nthN l i
def edgeMask (acc : List Nat) (es : List Edge) : Nat :=
  match es with
  | [] => 0
  | e :: es => (bif Region.binds .any e then 2 ^ e.on ||| nthN acc e.on else 0) ||| edgeMask acc es
def masksGo (acc : List Nat) (os : List Oper) : List Nat :=
  match os with
  | [] => acc
  | o :: os => masksGo (acc ++ [edgeMask acc o.after.toList]) os
theorem nthN_append_lt : ∀ {l : List Nat} {m : List Nat} {i : Nat}, i < l.length → nthN (l ++ m) i = nthN l i
  | [], _, _, h => absurd h (by simp)
  | _ :: _, _, 0, _ => rfl
  | _ :: l, m, i + 1, h => nthN_append_lt (l := l) (by simpa using h)
theorem nthN_append_len : ∀ {l : List Nat} {x : Nat}, nthN (l ++ [x]) l.length = x
  | [], _ => rfl
  | _ :: l, x => nthN_append_len (l := l) (x := x)
theorem nthN_ge : ∀ {l : List Nat} {i : Nat}, l.length ≤ i → nthN l i = 0
  | [], _, _ => rfl
  | _ :: _, 0, h => absurd h (by simp)
  | _ :: l, i + 1, h => nthN_ge (l := l) (by simpa using h)
def PredsIn (S : Nat → Prop) (o : Oper) : Prop := ∀ e ∈ o.after, Region.binds .any e = true → S e.on
theorem edgeMask_sound {S : Nat → Prop} {acc : List Nat} {i : Nat} : ∀ {es : List Edge}, (edgeMask acc es).testBit i = true →
    (∀ e ∈ es, Region.binds .any e = true → S e.on) → (∀ x, S x → (nthN acc x).testBit i = true → S i) → S i
  | [], h, _, _ => by simp [edgeMask] at h
  | e :: es, h, hs, ha => by
    simp only [edgeMask, Nat.testBit_or, Bool.or_eq_true] at h
    rcases h with h | h
    · cases hb : Region.binds .any e
      · rw [hb] at h; simp at h
      · rw [hb] at h
        simp only [cond_true, Nat.testBit_or, Bool.or_eq_true, Nat.testBit_two_pow, decide_eq_true_eq] at h
        have h1 := hs e (List.mem_cons_self ..) hb
        rcases h with h | h
        · exact h ▸ h1
        · exact ha _ h1 h
    · exact edgeMask_sound h (fun e he => hs e (List.mem_cons_of_mem _ he)) ha
theorem masks_sound {S : Nat → Prop} {all : List Oper} (hcl : ∀ x, x < all.length → S x → PredsIn S (nth all x)) : ∀ (os pre : List Oper) (acc : List Nat),
    all = pre ++ os → acc.length = pre.length → (∀ x i, (nthN acc x).testBit i = true → x < pre.length ∧ (PredsIn S (nth all x) → S i)) →
    ∀ x i, (nthN (masksGo acc os) x).testBit i = true → x < all.length ∧ (PredsIn S (nth all x) → S i) := by
  intro os
  induction os with
  | nil =>
    intro pre acc hall hlen hacc x i h
    have := hacc x i h
    simp only [List.append_nil] at hall
    exact ⟨hall ▸ this.1, this.2⟩
  | cons o os ih =>
    intro pre acc hall hlen hacc
    have hno : nth all pre.length = o := by
      rw [hall]
      clear hall hlen hacc hcl ih
      induction pre with
      | nil => rfl
      | cons p pre ih => exact ih
    refine ih (pre ++ [o]) _ (by simp [hall]) (by simp [hlen]) ?_
    intro x i h
    rcases Nat.lt_trichotomy x acc.length with hx | hx | hx
    · rw [nthN_append_lt hx] at h
      have := hacc x i h
      exact ⟨by simp; omega, this.2⟩
    · subst hx
      rw [nthN_append_len] at h
      refine ⟨by simp [hlen], fun hp => ?_⟩
      rw [hlen, hno] at hp
      refine edgeMask_sound h (fun e he hb => hp e (by simpa using he) hb) fun y hy hyt => ?_
      obtain ⟨h1, h2⟩ := hacc y i hyt
      exact h2 (hcl y (by rw [hall]; simp; omega) hy)
    · rw [nthN_ge (by simp; omega)] at h
      simp at h
def masks (ops : List Oper) : List Nat := masksGo [] ops
theorem masks_spec {S : Nat → Prop} {ops : List Oper} (hcl : ∀ x, x < ops.length → S x → PredsIn S (nth ops x)) {j i : Nat} (h : (nthN (masks ops) j).testBit i = true)
    (hp : PredsIn S (nth ops j)) : S i :=
  (masks_sound hcl ops [] [] rfl rfl (fun x i h => by simp [nthN] at h) j i h).2 hp

section anyK
variable {P : Program} {ops : Array Oper} {Q : Exit → Act → World → Prop}
def wpAnyK (P : Program) (ops : Array Oper) (Q : Exit → Act → World → Prop) (R : Nat → World → Prop) : Nat → Array Bool → Act → World → Prop
  | 0, L, a, w => Region.ready .any ops L = [] ∧ Q .normal a w
  | f + 1, L, a, w => (Region.ready .any ops L = [] → Q .normal a w) ∧
    ∀ j ∈ Region.ready .any ops L, wpOp P ops Q j (fun a' w' => (w' = w ∨ ∀ i, (nthN (masks ops.toList) j).testBit i = false → R i w') ∧ wpAnyK P ops Q R f (L.setIfInBounds j true) a' w') a w
theorem wpAny_of_K {R : Nat → World → Prop} : ∀ (f : Nat) (L : Array Bool) (a : Act) (w : World), wpAnyK P ops Q R f L a w → wpAny P .any ops Q f L a w
  | 0, _, _, _, h => h
  | f + 1, _, _, _, h => ⟨h.1, fun i hi => wpOp_mono (fun _ _ h' => wpAny_of_K f _ _ _ h'.2) (h.2 i hi)⟩
theorem wpAnyK_weak {R R' : Nat → World → Prop} (hR : ∀ x w, R x w → R' x w) : ∀ (f : Nat) (L : Array Bool) (a : Act) (w : World), wpAnyK P ops Q R f L a w → wpAnyK P ops Q R' f L a w
  | 0, _, _, _, h => h
  | f + 1, _, _, _, h => ⟨h.1, fun i hi => wpOp_mono (fun _ _ h' => ⟨h'.1.imp id fun h x hx => hR _ _ (h x hx), wpAnyK_weak hR f _ _ _ h'.2⟩) (h.2 i hi)⟩
def Closed (ops : Array Oper) (L : Array Bool) : Prop := ∀ x o, ops[x]? = some o → L.getD x false = true → ∀ e ∈ o.after, Region.binds .any e = true → L.getD e.on false = true
theorem Closed.set {L : Array Bool} (h : Closed ops L) {j : Nat} (hj : j ∈ Region.ready .any ops L) : Closed ops (L.setIfInBounds j true) := by
  intro x o hx hl e he hb
  by_cases hjx : j = x
  · subst hjx
    obtain ⟨_, o', ho', hall⟩ := mem_ready.1 hj
    have : o = o' := Option.some.inj (hx.symm.trans ho')
    subst this
    exact getD_set_true (hall e he hb)
  · rw [getD_set_ne false hjx] at hl
    exact getD_set_true (h x o hx hl e he hb)
theorem nth_arr {i : Nat} (h : i < ops.size) : ops[i]? = some (nth ops.toList i) := by
  rw [← nth_get (l := ops.toList) (by simpa using h)]; simp
theorem Closed.mask {L : Array Bool} (h : Closed ops L) {j i : Nat} (hj : j ∈ Region.ready .any ops L) (hi : L.getD i false = false) : (nthN (masks ops.toList) j).testBit i = false := by
  cases ht : (nthN (masks ops.toList) j).testBit i
  · rfl
  · obtain ⟨_, o, ho, hall⟩ := mem_ready.1 hj
    have hjl := (Array.getElem?_eq_some_iff.1 ho).1
    have hno : nth ops.toList j = o := by
      have := nth_arr hjl
      rw [ho] at this
      exact (Option.some.inj this).symm
    have := masks_spec (S := fun x => L.getD x false = true) (ops := ops.toList) (fun x hx hs e he hb => h x _ (nth_arr (by simpa using hx)) hs e he hb) ht (by rw [hno]; exact hall)
    rw [hi] at this
    cases this
theorem getD_false_of {L : Array Bool} {i : Nat} (h : L.getD i true = false) : L.getD i false = false := by
  rcases Nat.lt_or_ge i L.size with h' | h'
  · simp [h'] at h ⊢; exact h
  · simp [Array.getElem?_eq_none h'] at h
def updR (R : Nat → World → Prop) (i : Nat) (Ri : World → Prop) : Nat → World → Prop := fun x w => R x w ∧ (x = i → Ri w)
theorem wpAnyK_first {i : Nat} {oi : Oper} {v : Value} {Ri : World → Prop} {R : Nat → World → Prop} (hi : ops[i]? = some oi) (hsel : ∀ (j : Nat) (o : Oper) cs b, ops[j]? = some o → o.op ≠ .select cs b)
    (hQ : ∀ c a w, Q (.panic c) (a.put oi.dst v) w → Q (.panic c) a w) :
    ∀ (fuel : Nat) (L : Array Bool) (a : Act) (w : World),
      (∀ j oj, ops[j]? = some oj → j ≠ i → L.getD j true = false → (∀ e ∈ oj.after, Region.binds .any e = true → e.on ≠ i) → oi.apart ops oj = true) →
      i ∈ Region.ready .any ops L → Closed ops L → YieldsIf P ops Ri oi v a → Ri w →
      wpAnyK P ops Q (updR R i Ri) fuel (L.setIfInBounds i true) (a.put oi.dst v) w → wpAnyK P ops Q R (fuel + 1) L a w := by
  intro fuel
  induction fuel with
  | zero =>
    intro L a w _ hr hcl hy hS H
    refine ⟨fun h => (by rw [h] at hr; cases hr), fun j hj => ?_⟩
    by_cases hji : j = i
    · subst hji
      exact hy.wpOp hi hS ⟨.inl rfl, H⟩
    · have := ready_mono hj hji
      rw [H.1] at this
      cases this
  | succ fuel ih =>
    intro L a w hfree hr hcl hy hS H
    refine ⟨fun h => (by rw [h] at hr; cases hr), fun j hj => ?_⟩
    by_cases hji : j = i
    · subst hji
      exact hy.wpOp hi hS ⟨.inl rfl, wpAnyK_weak (fun x w h => h.1) _ _ _ _ H⟩
    · have h1 := H.2 j (ready_mono hj hji)
      obtain ⟨hjun, oj, hoj, hall⟩ := mem_ready.1 hj
      have hil := getD_false_of (mem_ready.1 hr).1
      have hnot : ∀ e ∈ oj.after, Region.binds .any e = true → e.on ≠ i := fun e he hb heq => by
        have h1 := hall e he hb
        rw [heq, hil] at h1
        cases h1
      have h2 := wpOp_putIf hoj (hfree j oj hoj hji hjun hnot) (fun cs b => hsel i oi cs b hi) (fun cs b => hsel j oj cs b hoj) hQ hy h1
      have hfree' : ∀ k ok, ops[k]? = some ok → k ≠ i → (L.setIfInBounds j true).getD k true = false →
          (∀ e ∈ ok.after, Region.binds .any e = true → e.on ≠ i) → oi.apart ops ok = true := fun k ok hk hki hun hno => by
        refine hfree k ok hk hki ?_ hno
        by_cases hjk : j = k
        · subst hjk; exact hjun
        · rw [getD_set_ne true hjk] at hun; exact hun
      refine wpOp_mono (fun a' w' h3 => ⟨h3.2.1.imp id (fun h x hx => (h x hx).1), ih (L.setIfInBounds j true) a' w' hfree' (ready_mono hr (Ne.symm hji)) (hcl.set hj) h3.1 ?_ ?_⟩) h2
      · rcases h3.2.1 with h | h
        · exact h ▸ hS
        · exact (h i (hcl.mask hj hil)).2 rfl
      · rw [Array.setIfInBounds_comm _ _ hji]
        exact h3.2.2
end anyK


theorem run_bind_ok {P : Program} {α β : Type} {s : Sem α} {f : α → Sem β} {w w' : World} {v : β} (h : (s >>= f).run P w = .ok v w') :
    ∃ a w1, s.run P w = .ok a w1 ∧ (f a).run P w1 = .ok v w' := by
  rw [Sem.run_bind] at h
  cases hr : s.run P w with
  | halt x w1 => rw [hr] at h; cases h
  | ok a w1 => rw [hr] at h; exact ⟨a, w1, rfl, h⟩
theorem sizeOf_same {P : Program} {t : TypeId} {w w' : World} {n : Nat} (h : (sizeOf t).run P w = .ok n w') : w' = w := by
  unfold sizeOf at h
  obtain ⟨i, w1, h1, h2⟩ := run_bind_ok h
  injection h2 with _ h2
  subst h2
  unfold typeInfo program at h1
  cases hi : P.info? t with
  | none => simp [Sem.run_bind, Sem.run, hi, stuck] at h1
  | some d => simp [Sem.run_bind, Sem.run, hi] at h1; exact h1.2.symm
theorem loadCells_same {P : Program} {a : Addr} : ∀ (n i : Nat) (acc : Array Value) {w w' : World} {r : Array Value}, (loadCellsFrom a i n acc).run P w = .ok r w' → w' = w := by
  intro n
  induction n with
  | zero => intro i acc w w' r h; injection h with _ h; exact h.symm
  | succ n ih =>
    intro i acc w w' r h
    unfold loadCellsFrom at h
    rw [Sem.run_bind] at h
    have hl : ∀ r w1, (load (a.add i)).run P w = .ok r w1 → w1 = w := by
      intro r w1 h
      unfold load at h
      simp only [Sem.run] at h
      split at h
      · injection h with _ h; exact h.symm
      · split at h
        · injection h with _ h; exact h.symm
        · cases h
    cases hr : (load (a.add i)).run P w with
    | ok v w1 =>
      rw [hr] at h
      have := hl _ _ hr
      subst this
      exact ih _ _ h
    | halt x w1 => rw [hr] at h; cases h
theorem load_same {P : Program} {t : TypeId} {x : Value} {w w' : World} {v : Value} (h : (Instr.loadAt t x).run P w = .ok v w') : w' = w := by
  unfold Instr.loadAt at h
  rw [Sem.run_bind] at h
  cases x <;> first | (simp [Instr.sureAddr, stuck] at h; done) | skip
  rename_i a
  cases a with
  | none => simp [Instr.sureAddr, stuck] at h
  | some a =>
    simp only [Instr.sureAddr, Sem.run_pure, Result.andThen_ok] at h
    unfold loadVar at h
    rw [Sem.run_bind] at h
    have hagg : ∀ r w1, (isAgg t).run P w = .ok r w1 → w1 = w := by
      intro r w1 h
      unfold isAgg underlying program at h
      cases hu : P.underlying t with
      | none => simp [Sem.run_bind, Sem.run, hu, stuck] at h
      | some d =>
        cases d <;> (simp [Sem.run_bind, Sem.run, hu] at h; exact h.2.symm)
    cases hr : (isAgg t).run P w with
    | halt x w1 => rw [hr] at h; cases h
    | ok b w1 =>
      rw [hr] at h
      have := hagg _ _ hr
      subst this
      simp only [Result.andThen_ok] at h
      cases b
      · simp only [Bool.false_eq_true, if_false] at h
        unfold load at h
        simp only [Sem.run] at h
        split at h
        · injection h with _ h; exact h.symm
        · split at h
          · injection h with _ h; exact h.symm
          · cases h
      · simp only [if_true] at h
        obtain ⟨n, w2, h2, h3⟩ := run_bind_ok h
        have := sizeOf_same h2
        subst this
        obtain ⟨cs, w3, h4, h5⟩ := run_bind_ok h3
        injection h5 with _ h5
        subst h5
        exact loadCells_same _ _ _ h4
def hoistB (P : Program) (o : Oper) : Bool :=
  match o.op with
  | .move _ | .assign _ | .pick .. | .build .. | .nilCheck _ | .unOp .. | .convert .. | .makeInterface .. | .slice .. | .fieldAddr .. | .field .. | .indexAddr .. | .index ..
  | .extract .. | .load .. => true
  | .binOp op t _ _ _ => !(bif isArith op then isFloat P t else false)
  | .call c => match c.callee with
    | .builtin .len | .builtin .cap | .builtin .max | .builtin .min => true
    | _ => false
  | _ => false
def isLoad (o : Oper) : Bool :=
  match o.op with
  | .load .. => true
  | _ => false
theorem value_run {P : Program} {s : Sem Value} {v : Value} (h : ∀ w', s.run P w' = .ok v w') (w' : World) : (do pure (.value (← s)) : Sem Next).run P w' = .ok (.value v) w' := by
  rw [Sem.run_bind, h w']; rfl
theorem pure_spec {P : Program} {e : Env} {o : Oper} {w : World} {k : Value → World → Prop} (ho : hoistB P o = true) (hl : isLoad o = false) (h : denOp P e o w k) :
    ∃ v, (∀ w', (execOp (ev e) o).run P w' = .ok (.value v) w') ∧ k v w := by
  obtain ⟨dst, op, type, pos, after, guard⟩ := o
  have fin : ∀ {s : Sem Value} , pureW P s w k → execOp (ev e) ⟨dst, op, type, pos, after, guard⟩ = (do pure (.value (← s))) →
      ∃ v, (∀ w', (execOp (ev e) ⟨dst, op, type, pos, after, guard⟩).run P w' = .ok (.value v) w') ∧ k v w := by
    rintro s ⟨v, hv, hk⟩ he
    exact ⟨v, fun w' => by rw [he]; exact value_run hv w', hk⟩
  cases op <;> first | (simp [hoistB] at ho; done) | (simp [isLoad] at hl; done) | skip
  case move x => exact ⟨_, fun _ => rfl, h⟩
  case assign x => exact ⟨_, fun _ => rfl, h⟩
  case pick c x y =>
    simp only [denOp, wPick] at h
    simp only [execOp]
    generalize ev e c = c at *
    cases c <;> first | exact h.elim | skip
    rename_i b
    refine ⟨_, fun w' => ?_, h⟩
    cases b <;> rfl
  case build t ps =>
    refine fin (s := Instr.build t ⟨ps.toList.map fun (p : Nat × Operand) => (p.1, ev e p.2)⟩) h ?_
    simp only [execOp, map_toArray]
  case nilCheck x =>
    obtain ⟨v, hv, hk⟩ := (show pureW P (nilS (ev e x)) w k from h)
    exact ⟨v, fun w' => nil_exec (hv w'), hk⟩
  case binOp op t x y yt =>
    have hf : (bif isArith op then isFloat P t else false) = false := by
      cases hx : (bif isArith op then isFloat P t else false)
      · rfl
      · rw [show hoistB P ⟨dst, .binOp op t x y yt, type, pos, after, guard⟩ = !(bif isArith op then isFloat P t else false) from rfl, hx] at ho; cases ho
    simp only [denOp, hf, cond_false] at h
    obtain ⟨v, hv, hk⟩ := h
    refine ⟨v, fun w' => ?_, hk⟩
    obtain ⟨c, hc⟩ := eqGuard_const op t x y (ev e x) (ev e y)
    simp only [execOp]
    rw [hc]
    exact value_run (s := binS c op t (ev e x) (ev e y)) (fun w' => hv c w') w'
  case unOp op t x => exact fin (s := Op.unary op (ev e x)) h rfl
  case convert s d x => exact fin (s := Go.convert s d (ev e x)) h rfl
  case makeInterface t x => exact fin (s := Instr.makeInterface t (ev e x)) h rfl
  case slice t x lo hi mx =>
    cases lo <;> cases hi <;> cases mx <;> exact fin h rfl
  case fieldAddr s x f => exact fin (s := Instr.fieldAt s (ev e x) f) h rfl
  case field s x f => exact fin (s := Instr.field s (ev e x) f) h rfl
  case indexAddr t x i => exact fin (s := Instr.indexAt t (ev e x) (ev e i)) h rfl
  case index t x i => exact fin (s := Instr.index t (ev e x) (ev e i)) h rfl
  case extract x i => exact fin (s := Instr.extract (ev e x) i) h rfl
  case call c =>
    obtain ⟨callee, args, argTypes⟩ := c
    cases callee with
    | value f => simp [hoistB] at ho
    | invoke r m => simp [hoistB] at ho
    | builtin b =>
      cases b <;> first
        | (simp [hoistB] at ho; done)
        | (refine fin (s := lenS _ argTypes (args.toList.map (ev e))) h ?_
           simp only [lenS, ← map_toArray]
           rfl)


def markL (L : Array Bool) (l : List Nat) : Array Bool :=
  match l with
  | [] => L
  | i :: l => markL (L.setIfInBounds i true) l
def tmpsOf (x : Operand) : List Nat :=
  match x with
  | .tmp t => [t]
  | _ => []
def slotsOf (ops : List Oper) (i : Nat) : List Nat :=
  match (nth ops i).op with
  | .load _ x => dstOf ops i :: tmpsOf x
  | _ => []
def offSlots (ops : List Oper) (rc : List Nat) (i : Nat) : Bool :=
  match (nth ops i).dst with
  | some d => allN (fun r => !memN d (slotsOf ops r)) rc
  | none => true
def selfOk (ops : List Oper) (i : Nat) : Bool :=
  match (nth ops i).op with
  | .load _ x => bif isDst ops i then !memN (dstOf ops i) (tmpsOf x) else false
  | _ => true
def upOk (arr : Array Oper) (L : Array Bool) (i : Nat) : Bool := bif Region.free .any arr L i then (Region.ready .any arr L).contains i else false
def stepOk (P : Program) (n : Nat) (arr : Array Oper) (ops : List Oper) (g : Option (Nat × Bool)) (prot rc : List Nat) (L : Array Bool) (i : Nat) : Bool :=
  bif opChk n ops.length ops g prot i then (bif offSlots ops rc i then (bif selfOk ops i then (bif upOk arr L i then hoistB P (nth ops i) else false) else false) else false) else false
def addLoad (ops : List Oper) (rc : List Nat) (i : Nat) : List Nat := bif isLoad (nth ops i) then i :: rc else rc
def addLoads (ops : List Oper) (rc l : List Nat) : List Nat :=
  match l with
  | [] => rc
  | i :: l => addLoads ops (addLoad ops rc i) l
def hoistsChk (P : Program) (n : Nat) (arr : Array Oper) (ops : List Oper) (g : Option (Nat × Bool)) (prot rc : List Nat) (L : Array Bool) (l : List Nat) : Bool :=
  match l with
  | [] => true
  | i :: l => bif stepOk P n arr ops g prot rc L i then hoistsChk P n arr ops g prot (addLoad ops rc i) (L.setIfInBounds i true) l else false
def upsChk (arr : Array Oper) (L : Array Bool) (l : List Nat) : Bool :=
  match l with
  | [] => true
  | i :: l => bif upOk arr L i then upsChk arr (L.setIfInBounds i true) l else false
def noAlt (t : RT) : Bool :=
  match t with
  | .nil => true
  | .ops _ r => noAlt r
  | .eff _ _ r => noAlt r
  | .grp _ _ _ _ b r => bif noAlt b then noAlt r else false
  | .alt _ _ => false
def headsOf (t : RT) : List Nat :=
  match t with
  | .eff i _ _ => [i]
  | .alt a b => headsOf a ++ headsOf b
  | _ => []
def isHead (t : RT) : Bool :=
  match t with
  | .eff _ _ _ => true
  | .alt a b => bif isHead a then isHead b else false
  | _ => false
def effOk (n : Nat) (arr : Array Oper) (ops : List Oper) (g : Option (Nat × Bool)) (prot rc drp : List Nat) (L : Array Bool) (hs : List Nat) (i : Nat) (ks : List Nat) : Bool :=
  bif opChk n ops.length ops g prot i then (bif offSlots ops rc i then (bif (Region.ready .any arr L).contains i then
    (bif allN (fun x => memN x hs) (Region.ready .any arr L) then (bif allN (fun x => bif memN x ks then true else (nthN (masks ops) i).testBit x) rc then
      allN (fun x => (nthN (masks ops) i).testBit x) drp else false) else false) else false) else false) else false
def drChk (P : Program) (n : Nat) (arr : Array Oper) (ops : List Oper) (g : Option (Nat × Bool)) (prot rc drp : List Nat) (L : Array Bool) (hs : Option (List Nat)) (top : Bool) (t : RT) : Bool :=
  match t with
  | .nil => bif top then (Region.ready .any arr L).isEmpty else true
  | .ops l r => bif hoistsChk P n arr ops g prot rc L l then drChk P n arr ops g prot (addLoads ops rc l) drp (markL L l) none top r else false
  | .eff i ks r => bif effOk n arr ops g prot rc drp L (match hs with | some h => h | none => [i]) i ks then drChk P n arr ops g prot rc drp (L.setIfInBounds i true) none top r else false
  | .grp j want live dead body r =>
    bif basicChk n ops.length ops j then (bif isDst ops j then (bif drChk P n arr ops (some (j, want)) (dstOf ops j :: prot) rc drp L none false body then
      (bif allN (fun x => memN x (live :: dead)) (dsts ops (flat body)) then (bif memN live (dsts ops (flat body)) then
        (bif allN (fun x => !memN x prot) (dsts ops (flat body)) then (bif allN (offSlots ops rc) (flat body) then (bif noAlt body then (bif upsChk arr L (flat body) then
        (bif skipChk n ops.length ops j want [] (flat body) then drChk P n arr ops g prot rc (addLoads ops drp (flat body)) (markL L (flat body)) none top r else false) else false) else false) else false) else false) else false) else false) else false) else false) else false
  | .alt a b => bif top then (bif isHead a then (bif isHead b then
      (bif drChk P n arr ops g prot rc drp L (some (match hs with | some h => h | none => headsOf a ++ headsOf b)) top a then
        drChk P n arr ops g prot rc drp L (some (match hs with | some h => h | none => headsOf a ++ headsOf b)) top b else false) else false) else false) else false
def steps (t : RT) : Nat :=
  match t with
  | .nil => 0
  | .ops l r => l.length + steps r
  | .eff _ _ r => 1 + steps r
  | .grp _ _ _ _ b r => (flat b).length + steps r
  | .alt a b => max (steps a) (steps b)

def keepOk (P : Program) (ops : List Oper) (e : Env) (x : Nat) (w : World) : Prop := (Instr.loadAt (keepOf ops e x).1 (keepOf ops e x).2.1).run P w = .ok (keepOf ops e x).2.2 w
theorem ev_put {e : Env} {d : Option Tmp} {v : Value} {x : Operand} (h : ∀ t, d = some t → t ∉ tmpsOf x) : ev (putO e d v) x = ev e x := by
  cases x <;> first | rfl | skip
  rename_i t
  exact putO_ne fun hd => h t hd (by simp [tmpsOf])
theorem keepOf_congr {ops : List Oper} {e e' : Env} {i : Nat} (h : ∀ s ∈ slotsOf ops i, e' s = e s) : keepOf ops e' i = keepOf ops e i := by
  unfold keepOf
  unfold slotsOf at h
  split
  · rename_i t x hx
    rw [hx] at h
    have h1 := h _ (List.mem_cons_self ..)
    have h2 : ev e' x = ev e x := by
      cases x <;> first | rfl | skip
      exact h _ (by simp [tmpsOf])
    rw [h1, h2]
  · rfl
theorem offSlots_spec {ops : List Oper} {rc : List Nat} {i : Nat} (h : offSlots ops rc i = true) {d : Nat} (hd : (nth ops i).dst = some d) {r : Nat} (hr : r ∈ rc) : d ∉ slotsOf ops r := by
  unfold offSlots at h
  rw [hd] at h
  have := allN_iff.1 h r hr
  intro hm
  simp [memN_iff.2 hm] at this
theorem addLoads_mem {ops : List Oper} : ∀ {l rc : List Nat} {x : Nat}, x ∈ addLoads ops rc l ↔ x ∈ rc ∨ (x ∈ l ∧ isLoad (nth ops x) = true)
  | [], rc, x => by simp [addLoads]
  | i :: l, rc, x => by
    simp only [addLoads, addLoads_mem (l := l), addLoad]
    cases hl : isLoad (nth ops i)
    · simp only [cond_false, List.mem_cons]
      constructor
      · rintro (h | h)
        · exact .inl h
        · exact .inr ⟨.inr h.1, h.2⟩
      · rintro (h | ⟨rfl | h, h2⟩)
        · exact .inl h
        · rw [hl] at h2; cases h2
        · exact .inr ⟨h, h2⟩
    · simp only [cond_true, List.mem_cons]
      constructor
      · rintro ((rfl | h) | h)
        · exact .inr ⟨.inl rfl, hl⟩
        · exact .inl h
        · exact .inr ⟨.inr h.1, h.2⟩
      · rintro (h | ⟨rfl | h, h2⟩)
        · exact .inl (.inr h)
        · exact .inl (.inl rfl)
        · exact .inr ⟨h, h2⟩
section drs
variable {P : Program} {n : Nat} {arr : Array Oper} {ops : List Oper} {Q : Exit → Act → World → Prop}
structure DrInv (P : Program) (n : Nat) (arr : Array Oper) (ops : List Oper) (g : Option (Nat × Bool)) (prot rc drp : List Nat) (L : Array Bool) (e : Env) (a : Act) (R : Nat → World → Prop) : Prop where
  agrees : Agrees n a e
  holds : Holds n ops g prot e
  closed : Closed arr L
  rel : ∀ x w', x ∉ drp → (x ∈ rc → keepOk P ops e x w') → R x w'
theorem up_spec {L : Array Bool} {i : Nat} (h : upOk arr L i = true) : Region.free .any arr L i = true ∧ i ∈ Region.ready .any arr L := by
  obtain ⟨h1, h2⟩ := bif_t h
  exact ⟨h1, by simpa using h2⟩
theorem hoist1 (ho : ops = arr.toList) (hs : Region.noSelect arr = true) (hQ : ∀ c a w, ¬ Q (.panic c) a w) {g : Option (Nat × Bool)} {prot rc drp : List Nat} {L : Array Bool} {i : Nat} {e : Env} {a : Act} {R : Nat → World → Prop} {w : World} {f : Nat} {k : Value → World → Prop}
    (hc : stepOk P n arr ops g prot rc L i = true) (hI : DrInv P n arr ops g prot rc drp L e a R) (h : denOp P e (nth ops i) w k)
    (hk : ∀ v R', k v w → DrInv P n arr ops g prot (addLoad ops rc i) drp (L.setIfInBounds i true) (putO e (nth ops i).dst v) (a.put (nth ops i).dst v) R' → wpAnyK P arr Q R' f (L.setIfInBounds i true) (a.put (nth ops i).dst v) w) :
    wpAnyK P arr Q R (f + 1) L a w := by
  obtain ⟨c1, hc⟩ := bif_t hc
  obtain ⟨c2, hc⟩ := bif_t hc
  obtain ⟨c3, hc⟩ := bif_t hc
  obtain ⟨c4, c5⟩ := bif_t hc
  obtain ⟨o1, o2, o3⟩ := opChk_spec c1
  obtain ⟨hl, hn⟩ := basic_spec o1
  obtain ⟨u1, u2⟩ := up_spec c4
  have hget : arr[i]? = some (nth ops i) := by rw [← nth_get hl, ho]; simp
  have hw := hI.holds.wanted ho hI.agrees o2
  have hkeep : ∀ v s, (nth ops i).dst ≠ some s → putO e (nth ops i).dst v s = e s := fun v s h => putO_ne h
  have hkc : ∀ v x, x ∈ rc → keepOf ops (putO e (nth ops i).dst v) x = keepOf ops e x := fun v x hx =>
    keepOf_congr fun s hs => hkeep v s fun hd => offSlots_spec c2 hd hx hs
  have main : ∀ v (Ri : World → Prop), k v w → (∀ w', Ri w' → (execOp a.eval (nth ops i)).run P w' = .ok (.value v) w') → Ri w →
      (isLoad (nth ops i) = true → ∀ w', keepOk P ops (putO e (nth ops i).dst v) i w' → Ri w') → (isLoad (nth ops i) = false → ∀ w', Ri w') → wpAnyK P arr Q R (f + 1) L a w := by
    intro v Ri hv hrun hRi hld hnl
    refine wpAnyK_first (Ri := Ri) (v := v) hget (Region.noSelect_spec hs) (fun c a w h => absurd h (hQ c _ w)) f L a w (Region.free_spec hget u1) u2 hI.closed (.inl ⟨hw, hrun⟩) hRi ?_
    refine hk v _ hv ⟨hI.agrees.putO hn v, hI.holds.keep fun s hs => hkeep v s fun hd => o3 s hd hs, hI.closed.set u2, ?_⟩
    intro x w' hx hr
    refine ⟨hI.rel x w' hx fun hxr => ?_, ?_⟩
    · have hm : x ∈ addLoad ops rc i := by
        unfold addLoad
        cases isLoad (nth ops i)
        · exact hxr
        · exact List.mem_cons_of_mem _ hxr
      have := hr hm
      unfold keepOk at this ⊢
      rw [hkc v x hxr] at this
      exact this
    · rintro rfl
      cases hld' : isLoad (nth ops x)
      · exact hnl hld' w'
      · exact hld hld' w' (hr (by unfold addLoad; rw [hld']; exact List.mem_cons_self ..))
  cases hld : isLoad (nth ops i)
  · obtain ⟨v, hv, hk'⟩ := pure_spec c5 hld h
    refine main v (fun _ => True) hk' (fun w' _ => by rw [hI.agrees.eval]; exact hv w') trivial (fun h => ?_) (fun _ _ => trivial)
    rw [hld] at h; cases h
  · have : ∃ t x, (nth ops i).op = .load t x := by
      unfold isLoad at hld
      split at hld
      · rename_i t x hx; exact ⟨t, x, hx⟩
      · cases hld
    obtain ⟨t, x, hop⟩ := this
    have h' : wLoad P t (ev e x) w k := by
      unfold denOp at h
      rw [hop] at h
      exact h
    unfold wLoad runW at h'
    cases hr : (Instr.loadAt t (ev e x)).run P w with
    | halt y w' => rw [hr] at h'; exact h'.elim
    | ok v w' =>
      rw [hr] at h'
      have hww := load_same hr
      subst hww
      have c3' : (bif isDst ops i then !memN (dstOf ops i) (tmpsOf x) else false) = true := by
        have := c3
        unfold selfOk at this
        rw [hop] at this
        exact this
      obtain ⟨d1, d2⟩ := bif_t c3'
      have hdd := dstOf_eq d1
      have hnm : dstOf ops i ∉ tmpsOf x := fun hm => by simp [memN_iff.2 hm] at d2
      refine main v (fun w'' => (Instr.loadAt t (ev e x)).run P w'' = .ok v w'') h' (fun w'' hw'' => ?_) hr (fun _ w'' hko => ?_) (fun h => ?_)
      · rw [hI.agrees.eval]
        have : execOp (ev e) (nth ops i) = (do pure (.value (← Instr.loadAt t (ev e x)))) := by
          unfold execOp
          rw [hop]
        rw [this, Sem.run_bind, hw'']
        rfl
      · unfold keepOk keepOf at hko
        rw [hop] at hko
        simp only at hko
        rw [ev_put (fun t' ht => by rw [hdd] at ht; injection ht with ht; rw [← ht]; exact hnm), hdd] at hko
        simp only [putO, put_same] at hko
        exact hko
      · rw [hld] at h; cases h
theorem hoists (ho : ops = arr.toList) (hs : Region.noSelect arr = true) (hQ : ∀ c a w, ¬ Q (.panic c) a w) {g : Option (Nat × Bool)} {prot drp : List Nat} {w : World} {k : Env → World → Prop} : ∀ (l rc : List Nat) (L : Array Bool) (e : Env) (a : Act) (R : Nat → World → Prop) (f : Nat),
    hoistsChk P n arr ops g prot rc L l = true → DrInv P n arr ops g prot rc drp L e a R → denL P ops l e w k →
    (∀ a' e' R', DrInv P n arr ops g prot (addLoads ops rc l) drp (markL L l) e' a' R' → (∀ s, s ∉ dsts ops l → e' s = e s) → k e' w → wpAnyK P arr Q R' f (markL L l) a' w) → wpAnyK P arr Q R (f + l.length) L a w := by
  intro l
  induction l with
  | nil => exact fun rc L e a R f _ hI h hk => hk a e R hI (fun _ _ => rfl) h
  | cons i l ih =>
    intro rc L e a R f hc hI h hk
    obtain ⟨c1, c2⟩ := bif_t hc
    show wpAnyK P arr Q R ((f + l.length) + 1) L a w
    refine hoist1 ho hs hQ c1 hI h fun v R' hv hI' => ?_
    refine ih _ _ _ _ R' f c2 hI' hv fun a' e' R'' hI'' hf hk' => ?_
    refine hk a' e' R'' hI'' (fun s hs => ?_) hk'
    have h1 : (nth ops i).dst ≠ some s := fun hd => hs (mem_dsts hd (List.mem_cons_self ..))
    rw [hf s (fun hm => hs (by unfold dsts; split <;> first | exact List.mem_cons_of_mem _ hm | exact hm)), putO_ne h1]
end drs


section drs2
variable {P : Program} {n : Nat} {arr : Array Oper} {ops : List Oper} {Q : Exit → Act → World → Prop}
theorem wNext_mono {s : Sem Next} {w : World} {k k' : Value → World → Prop} (h : wNext P s w k) (hk : ∀ v w', k v w' → k' v w') : wNext P s w k' := by
  unfold wNext at *
  split at h
  · exact hk _ _ h
  · exact hk _ _ h
  · exact callW_mono h hk
  · exact h.elim
theorem denR_eff {i : Nat} {ks : List Nat} {r : RT} {e : Env} {w : World} {k : Env → World → Prop} (h : denR P ops (.eff i ks r) e w k) :
    wNext P (execOp (ev e) (nth ops i)) w fun v w' => (∀ x ∈ ks, keepOk P ops e x w') ∧ denR P ops r (putO e (nth ops i).dst v) w' k := by
  cases ks with
  | nil =>
    have h' : denOp P e (nth ops i) w fun v w' => denR P ops r (putO e (nth ops i).dst v) w' k := h
    exact wNext_mono (denOp_sound h') fun v w' hv => ⟨fun x hx => by simp at hx, hv⟩
  | cons x ks =>
    have h' : denOp P e (nth ops i) w fun v w' => wKeep P ((x :: ks).map (keepOf ops e)) w' ∧ denR P ops r (putO e (nth ops i).dst v) w' k := h
    refine wNext_mono (denOp_sound h') fun v w' hv => ⟨fun y hy => ?_, hv.2⟩
    exact hv.1 (keepOf ops e y) (List.mem_map.2 ⟨y, hy, rfl⟩)
theorem effOk_spec {g : Option (Nat × Bool)} {prot rc drp : List Nat} {L : Array Bool} {hs : List Nat} {i : Nat} {ks : List Nat} (h : effOk n arr ops g prot rc drp L hs i ks = true) :
    opChk n ops.length ops g prot i = true ∧ offSlots ops rc i = true ∧ i ∈ Region.ready .any arr L ∧ (∀ x ∈ Region.ready .any arr L, x ∈ hs) ∧
    (∀ x ∈ rc, x ∈ ks ∨ (nthN (masks ops) i).testBit x = true) ∧ ∀ x ∈ drp, (nthN (masks ops) i).testBit x = true := by
  obtain ⟨c1, h⟩ := bif_t h
  obtain ⟨c2, h⟩ := bif_t h
  obtain ⟨c3, h⟩ := bif_t h
  obtain ⟨c4, h⟩ := bif_t h
  obtain ⟨c5, c6⟩ := bif_t h
  refine ⟨c1, c2, by simpa using c3, fun x hx => memN_iff.1 (allN_iff.1 c4 x hx), fun x hx => ?_, allN_iff.1 c6⟩
  have := allN_iff.1 c5 x hx
  cases hm : memN x ks
  · rw [hm] at this; exact .inr this
  · exact .inl (memN_iff.1 hm)
theorem eff1 (ho : ops = arr.toList) {g : Option (Nat × Bool)} {prot rc drp : List Nat} {L : Array Bool} {hs : List Nat} {i : Nat} {ks : List Nat} {r : RT} {e : Env} {a : Act} {R : Nat → World → Prop} {w : World} {k : Env → World → Prop} {X : Act → World → Prop}
    (hc : effOk n arr ops g prot rc drp L hs i ks = true) (hI : DrInv P n arr ops g prot rc drp L e a R) (h : denR P ops (.eff i ks r) e w k)
    (hk : ∀ v w', DrInv P n arr ops g prot rc drp (L.setIfInBounds i true) (putO e (nth ops i).dst v) (a.put (nth ops i).dst v) R → denR P ops r (putO e (nth ops i).dst v) w' k → X (a.put (nth ops i).dst v) w') :
    wpOp P arr Q i (fun a' w' => (w' = w ∨ ∀ x, (nthN (masks arr.toList) i).testBit x = false → R x w') ∧ X a' w') a w := by
  obtain ⟨c1, c2, c3, _, c5, c6⟩ := effOk_spec hc
  obtain ⟨o1, o2, o3⟩ := opChk_spec c1
  obtain ⟨hl, hn⟩ := basic_spec o1
  have hget : arr[i]? = some (nth ops i) := by rw [← nth_get hl, ho]; simp
  have hw := hI.holds.wanted ho hI.agrees o2
  have h' := denR_eff h
  rw [← hI.agrees.eval] at h'
  unfold wpOp
  simp only [hget, hw, if_true]
  refine .inl (wNext_upon h' fun v w' hv => ⟨.inr fun x hx => ?_, hk v w' ⟨hI.agrees.putO hn v, hI.holds.keep fun s hs => putO_ne fun hd => o3 s hd hs, hI.closed.set c3, ?_⟩ hv.2⟩)
  · rw [← ho] at hx
    refine hI.rel x w' (fun hm => ?_) fun hm => ?_
    · rw [c6 x hm] at hx; cases hx
    · rcases c5 x hm with h | h
      · exact hv.1 x h
      · rw [h] at hx; cases hx
  · intro x w'' hx hr
    refine hI.rel x w'' hx fun hm => ?_
    have := hr hm
    unfold keepOk at this ⊢
    rw [keepOf_congr fun s hs => putO_ne fun hd => offSlots_spec c2 hd hm hs] at this
    exact this
theorem markL_append : ∀ {l m : List Nat} {L : Array Bool}, markL L (l ++ m) = markL (markL L l) m
  | [], _, _ => rfl
  | _ :: l, m, _ => markL_append (l := l) (m := m)
theorem skipD (ho : ops = arr.toList) (hs : Region.noSelect arr = true) (hQ : ∀ c a w, ¬ Q (.panic c) a w) {j : Nat} {want : Bool} (hj : basicChk n ops.length ops j = true) (hjd : isDst ops j = true) {rc drp : List Nat} {w : World} :
    ∀ (l done : List Nat) (L : Array Bool) (e : Env) (a : Act) (R : Nat → World → Prop) (f : Nat),
    skipChk n ops.length ops j want done l = true → upsChk arr L l = true → allN (offSlots ops rc) l = true → Agrees n a e → Closed arr L → (∀ x w', x ∉ drp → (x ∈ rc → keepOk P ops e x w') → R x w') →
    e (dstOf ops j) ≠ .bool want → (∀ i ∈ done, basicChk n ops.length ops i = true ∧ ∀ d, (nth ops i).dst = some d → e d = undef) →
    (∀ a' e' R', Agrees n a' e' → Closed arr (markL L l) → (∀ x w', x ∉ drp → (x ∈ rc → keepOk P ops e' x w') → R' x w') → (∀ s, s ∉ dsts ops l → e' s = e s) → (∀ s ∈ dsts ops l, e' s = undef) → wpAnyK P arr Q R' f (markL L l) a' w) →
    wpAnyK P arr Q R (f + l.length) L a w := by
  intro l
  induction l with
  | nil => exact fun done L e a R f _ _ _ hA hcl hrel _ _ hk => hk a e R hA hcl hrel (fun _ _ => rfl) (fun s hs => by simp [dsts] at hs)
  | cons i l ih =>
    intro done L e a R f hc hu hof hA hcl hrel hne hdone hk
    obtain ⟨hb, hc⟩ := bif_t hc
    obtain ⟨hg, hc⟩ := bif_t hc
    obtain ⟨hu1, hu2⟩ := bif_t hu
    have hof' := allN_iff.1 hof
    obtain ⟨u1, u2⟩ := up_spec hu1
    obtain ⟨hl, hn⟩ := basic_spec hb
    have hget : arr[i]? = some (nth ops i) := by rw [← nth_get hl, ho]; simp
    have hun : Region.wanted (nth ops i) (yielded arr a.tmps) = false := by
      unfold Region.wanted
      split at hg
      · rename_i j' b' hgd
        rw [hgd]
        show (yielded arr a.tmps j' == some b') = false
        cases hgi : guardIs (some (j', b')) (some (j, want))
        · rw [hgi] at hg
          obtain ⟨hm, hd'⟩ := bif_t hg
          obtain ⟨hb', hu⟩ := hdone j' (memN_iff.1 hm)
          rw [yielded_of ho hA hb' hd', hu _ (dstOf_eq hd')]
          rfl
        · have := guardIs_eq hgi
          injection this with this
          injection this with e1 e2
          subst e1; subst e2
          rw [yielded_of ho hA hj hjd]
          generalize e (dstOf ops j') = v at *
          cases v <;> first | rfl | skip
          rename_i b
          have : b ≠ b' := fun h => hne (by rw [h])
          simpa using this
      · exact absurd hg (by simp)
    have hund : ∀ d, (nth ops i).dst = some d → putO e (nth ops i).dst undef d = undef := by
      intro d hd
      rw [hd]
      exact put_same _ _ _
    have hkeepU : ∀ d, e d = undef → putO e (nth ops i).dst undef d = undef := by
      intro d hd
      by_cases h : (nth ops i).dst = some d
      · exact hund d h
      · rw [putO_ne h, hd]
    show wpAnyK P arr Q R ((f + l.length) + 1) L a w
    refine wpAnyK_first (Ri := fun _ => True) (v := undef) hget (Region.noSelect_spec hs) (fun c a w h => absurd h (hQ c _ w)) _ L a w (Region.free_spec hget u1) u2 hcl (.inr ⟨hun, rfl⟩) trivial ?_
    refine ih (i :: done) _ _ _ _ f hc hu2 (allN_iff.2 fun x hx => hof' x (List.mem_cons_of_mem _ hx)) (hA.putO hn undef) (hcl.set u2) ?_ ?_ ?_ ?_
    · intro x w' hx hr
      refine ⟨hrel x w' hx fun hm => ?_, fun _ => trivial⟩
      have := hr hm
      unfold keepOk at this ⊢
      rw [keepOf_congr fun s hs => putO_ne fun hd => offSlots_spec (hof' i (List.mem_cons_self ..)) hd hm hs] at this
      exact this
    · by_cases h : (nth ops i).dst = some (dstOf ops j)
      · rw [hund _ h]; intro h'; simp [undef] at h'
      · rw [putO_ne h]; exact hne
    · intro x hx
      rcases List.mem_cons.1 hx with rfl | hx
      · exact ⟨hb, hund⟩
      · exact ⟨(hdone x hx).1, fun d hd => hkeepU d ((hdone x hx).2 d hd)⟩
    · intro a' e' R' hA' hcl' hrel' hf hu
      refine hk a' e' R' hA' hcl' hrel' (fun s hs => ?_) (fun s hs => ?_)
      · have h1 : (nth ops i).dst ≠ some s := fun hd => hs (mem_dsts hd (List.mem_cons_self ..))
        rw [hf s (fun hm => hs (by unfold dsts; split <;> first | exact List.mem_cons_of_mem _ hm | exact hm)), putO_ne h1]
      · by_cases hm : s ∈ dsts ops l
        · exact hu s hm
        · rw [hf s hm]
          unfold dsts at hs
          split at hs
          · rename_i d hd
            rcases List.mem_cons.1 hs with rfl | hs
            · have := hund s hd; rw [hd] at this ⊢; exact this
            · exact absurd hs hm
          · exact absurd hs hm
theorem ready_only {R : Nat → World → Prop} {L : Array Bool} {i f : Nat} {a : Act} {w : World} (h1 : i ∈ Region.ready .any arr L) (h2 : ∀ x ∈ Region.ready .any arr L, x ∈ [i])
    (h : wpOp P arr Q i (fun a' w' => (w' = w ∨ ∀ x, (nthN (masks arr.toList) i).testBit x = false → R x w') ∧ wpAnyK P arr Q R f (L.setIfInBounds i true) a' w') a w) : wpAnyK P arr Q R (f + 1) L a w :=
  ⟨fun h0 => by rw [h0] at h1; simp at h1, fun j hj => by
    have := h2 j hj
    simp only [List.mem_singleton] at this
    subst this
    exact h⟩
theorem offSlots_dsts {rc l : List Nat} (h : allN (offSlots ops rc) l = true) {x : Nat} (hx : x ∈ rc) : ∀ s ∈ slotsOf ops x, s ∉ dsts ops l := by
  intro s hs hm
  have h' := allN_iff.1 h
  clear h
  induction l with
  | nil => simp [dsts] at hm
  | cons i l ih =>
    unfold dsts at hm
    split at hm
    · rename_i d hd
      rcases List.mem_cons.1 hm with rfl | hm
      · exact offSlots_spec (h' i (List.mem_cons_self ..)) hd hx hs
      · exact ih hm fun y hy => h' y (List.mem_cons_of_mem _ hy)
    · exact ih hm fun y hy => h' y (List.mem_cons_of_mem _ hy)
end drs2


section drs3
variable {P : Program} {n : Nat} {arr : Array Oper} {ops : List Oper} {Q : Exit → Act → World → Prop}
theorem dsts_sub {l : List Nat} {s : Nat} (h : s ∈ dsts ops l) : ∃ i ∈ l, (nth ops i).dst = some s := by
  induction l with
  | nil => simp [dsts] at h
  | cons i l ih =>
    unfold dsts at h
    split at h
    · rename_i d hd
      rcases List.mem_cons.1 h with rfl | h
      · exact ⟨i, List.mem_cons_self .., hd⟩
      · obtain ⟨x, hx, hd'⟩ := ih h
        exact ⟨x, List.mem_cons_of_mem _ hx, hd'⟩
    · obtain ⟨x, hx, hd'⟩ := ih h
      exact ⟨x, List.mem_cons_of_mem _ hx, hd'⟩
theorem hoists_prot {g : Option (Nat × Bool)} {prot : List Nat} : ∀ {l rc : List Nat} {L : Array Bool}, hoistsChk P n arr ops g prot rc L l = true → allN (opChk n ops.length ops g prot) l = true
  | [], _, _, _ => rfl
  | i :: l, rc, L, h => by
    obtain ⟨c1, c2⟩ := bif_t h
    have := (bif_t c1).1
    simp [allN, this, hoists_prot c2]
theorem hoists_off {g : Option (Nat × Bool)} {prot : List Nat} {x : Nat} : ∀ {l rc : List Nat} {L : Array Bool}, hoistsChk P n arr ops g prot rc L l = true → x ∈ rc → ∀ s ∈ slotsOf ops x, s ∉ dsts ops l
  | [], _, _, _, _, s, _ => by simp [dsts]
  | i :: l, rc, L, h, hx, s, hs => by
    obtain ⟨c1, c2⟩ := bif_t h
    have h1 := (bif_t (bif_t c1).2).1
    have h2 := hoists_off (x := x) c2 (by unfold addLoad; cases isLoad (nth ops i) <;> simp [hx]) s hs
    unfold dsts
    split
    · rename_i d hd
      intro hm
      rcases List.mem_cons.1 hm with rfl | hm
      · exact offSlots_spec h1 hd hx hs
      · exact h2 hm
    · exact h2
theorem keepOk_congr {e e' : Env} {x : Nat} {w : World} (h : ∀ s ∈ slotsOf ops x, e' s = e s) (hk : keepOk P ops e' x w) : keepOk P ops e x w := by
  unfold keepOk at *
  rw [keepOf_congr h] at hk
  exact hk
theorem grp_chk {g : Option (Nat × Bool)} {prot rc drp : List Nat} {L : Array Bool} {top : Bool} {hs : Option (List Nat)} {j : Nat} {want : Bool} {live : Nat} {dead : List Nat} {body r : RT}
    (h : drChk P n arr ops g prot rc drp L hs top (.grp j want live dead body r) = true) :
    basicChk n ops.length ops j = true ∧ isDst ops j = true ∧ drChk P n arr ops (some (j, want)) (dstOf ops j :: prot) rc drp L none false body = true ∧
    (∀ s, s ∈ dsts ops (flat body) → s = live ∨ s ∈ dead) ∧ live ∈ dsts ops (flat body) ∧ (∀ s ∈ prot, s ∉ dsts ops (flat body)) ∧ allN (offSlots ops rc) (flat body) = true ∧ noAlt body = true ∧
    upsChk arr L (flat body) = true ∧ skipChk n ops.length ops j want [] (flat body) = true ∧ drChk P n arr ops g prot rc (addLoads ops drp (flat body)) (markL L (flat body)) none top r = true := by
  obtain ⟨c1, h⟩ := bif_t h
  obtain ⟨c2, h⟩ := bif_t h
  obtain ⟨c3, h⟩ := bif_t h
  obtain ⟨c4, h⟩ := bif_t h
  obtain ⟨c5, h⟩ := bif_t h
  obtain ⟨c6, h⟩ := bif_t h
  obtain ⟨c7, h⟩ := bif_t h
  obtain ⟨c8, h⟩ := bif_t h
  obtain ⟨c9, h⟩ := bif_t h
  obtain ⟨c10, c11⟩ := bif_t h
  have c4' := allN_iff.1 c4
  have c6' := allN_iff.1 c6
  refine ⟨c1, c2, c3, fun s hs => ?_, memN_iff.1 c5, fun s hs hm => ?_, c7, c8, c9, c10, c11⟩
  · have := memN_iff.1 (c4' s hs)
    simpa using this
  · have := c6' s hm
    simp [memN_iff.2 hs] at this
theorem grp1 (ho : ops = arr.toList) (hs : Region.noSelect arr = true) (hQ : ∀ c a w, ¬ Q (.panic c) a w) {g : Option (Nat × Bool)} {prot rc drp : List Nat} {L : Array Bool} {top : Bool} {hss : Option (List Nat)} {j : Nat} {want : Bool} {live : Nat} {dead : List Nat} {body r : RT} {e : Env} {a : Act} {R : Nat → World → Prop} {w : World} {k : Env → World → Prop} {f : Nat}
    (hc : drChk P n arr ops g prot rc drp L hss top (.grp j want live dead body r) = true) (hI : DrInv P n arr ops g prot rc drp L e a R) (h : denR P ops (.grp j want live dead body r) e w k)
    (ihb : ∀ (k : Env → World → Prop), DrInv P n arr ops (some (j, want)) (dstOf ops j :: prot) rc drp L e a R → denR P ops body e w k →
      (∀ a' e' w' R', Agrees n a' e' → (∀ s, s ∉ dsts ops (flat body) → e' s = e s) → Closed arr (markL L (flat body)) → (∀ x w'', x ∉ addLoads ops drp (flat body) → (x ∈ rc → keepOk P ops e' x w'') → R' x w'') → k e' w' →
        wpAnyK P arr Q R' f (markL L (flat body)) a' w') → wpAnyK P arr Q R (f + (flat body).length) L a w)
    (hk : ∀ a' e' w' R', DrInv P n arr ops g prot rc (addLoads ops drp (flat body)) (markL L (flat body)) e' a' R' → (∀ s, s ∉ dsts ops (flat body) → e' s = e s) → denR P ops r e' w' k → wpAnyK P arr Q R' f (markL L (flat body)) a' w') :
    wpAnyK P arr Q R (f + (flat body).length) L a w := by
  obtain ⟨c1, c2, c3, c4, c5, c6, c7, c8, c9, c10, c11⟩ := grp_chk hc
  have fin : ∀ a' e' w' R', Agrees n a' e' → (∀ s, s ∉ dsts ops (flat body) → e' s = e s) → Closed arr (markL L (flat body)) → (∀ x w'', x ∉ addLoads ops drp (flat body) → (x ∈ rc → keepOk P ops e' x w'') → R' x w'') →
      (∀ J, denR P ops r (put (mixD dead e J) live (e' live)) w' k) → wpAnyK P arr Q R' f (markL L (flat body)) a' w' := by
    intro a' e' w' R' hA' hf hcl hrel hk'
    have h1 := hk' e'
    rw [mixD_self (fun s hs hd => hf s (fun hm => by rcases c4 s hm with h | h <;> contradiction))] at h1
    exact hk a' e' w' R' ⟨hA', hI.holds.keep fun s hs => hf s (c6 s hs), hcl, hrel⟩ hf h1
  have h' : wGrp (e (dstOf ops j)) want (fun k' => denR P ops body e w fun e' w' => k' (e' live) w') w (fun J v w' => denR P ops r (put (mixD dead e J) live v) w' k) := h
  unfold wGrp at h'
  split at h'
  · rename_i b hb
    by_cases hbw : b = want
    · rw [if_pos hbw] at h'
      subst hbw
      exact ihb _ ⟨hI.agrees, ⟨c1, c2, List.mem_cons_self .., hb⟩, hI.closed, hI.rel⟩ h' fun a' e' w' R' hA' hf hcl hrel hk' => fin a' e' w' R' hA' hf hcl hrel hk'
    · rw [if_neg hbw] at h'
      refine skipD ho hs hQ (rc := rc) (drp := drp) c1 c2 (flat body) [] L e a R f c10 c9 c7 hI.agrees hI.closed hI.rel (by rw [hb]; intro h; injection h with h; exact hbw h) (fun i hi => by simp at hi) ?_
      intro a' e' R' hA' hcl hrel hf hu
      refine fin a' e' w R' hA' hf hcl (fun x w'' hx hr => hrel x w'' (fun hm => hx (addLoads_mem.2 (.inl hm))) hr) ?_
      rw [hu live c5]
      exact h'
  · exact h'.elim
theorem denR_in (ho : ops = arr.toList) (hs : Region.noSelect arr = true) (hQ : ∀ c a w, ¬ Q (.panic c) a w) : ∀ (t : RT) (g : Option (Nat × Bool)) (prot rc drp : List Nat) (L : Array Bool) (e : Env) (a : Act) (w : World) (R : Nat → World → Prop) (k : Env → World → Prop) (f : Nat),
    drChk P n arr ops g prot rc drp L none false t = true → noAlt t = true → DrInv P n arr ops g prot rc drp L e a R → denR P ops t e w k →
    (∀ a' e' w' R', Agrees n a' e' → (∀ s, s ∉ dsts ops (flat t) → e' s = e s) → Closed arr (markL L (flat t)) → (∀ x w'', x ∉ addLoads ops drp (flat t) → (x ∈ rc → keepOk P ops e' x w'') → R' x w'') → k e' w' →
      wpAnyK P arr Q R' f (markL L (flat t)) a' w') → wpAnyK P arr Q R (f + (flat t).length) L a w := by
  intro t
  induction t with
  | nil => exact fun g prot rc drp L e a w R k f _ _ hI h hk => hk a e w R hI.agrees (fun _ _ => rfl) hI.closed hI.rel h
  | ops l r ih =>
    intro g prot rc drp L e a w R k f hc hna hI h hk
    obtain ⟨c1, c2⟩ := bif_t hc
    have e1 : f + (flat (.ops l r)).length = (f + (flat r).length) + l.length := by simp [flat]; omega
    rw [e1]
    refine hoists ho hs hQ l rc L e a R _ c1 hI h fun a' e' R' hI' hf hk' => ?_
    refine ih g prot _ drp _ e' a' w R' k f c2 hna hI' hk' fun a2 e2 w2 R2 hA2 hf2 hcl2 hrel2 hk2 => ?_
    have hm : markL L (flat (RT.ops l r)) = markL (markL L l) (flat r) := markL_append
    have := hk a2 e2 w2 R2 hA2 (fun s hs => ?_) (by rw [hm]; exact hcl2) (fun x w'' hx hr => ?_) hk2
    · rw [hm] at this; exact this
    · simp only [flat, dsts_append, List.mem_append, not_or] at hs
      rw [hf2 s hs.2, hf s hs.1]
    · have hx' : x ∉ drp ∧ ¬ ((x ∈ l ∨ x ∈ flat r) ∧ isLoad (nth ops x) = true) := by
        have := fun h => hx (addLoads_mem.2 h)
        simp only [flat, List.mem_append] at this
        exact ⟨fun h => this (.inl h), fun h => this (.inr h)⟩
      refine hrel2 x w'' (fun hm => ?_) fun hm => ?_
      · rcases addLoads_mem.1 hm with h | h
        · exact hx'.1 h
        · exact hx'.2 ⟨.inr h.1, h.2⟩
      · rcases addLoads_mem.1 hm with h | h
        · exact hr h
        · exact absurd ⟨.inl h.1, h.2⟩ hx'.2
  | eff i ks r ih =>
    intro g prot rc drp L e a w R k f hc hna hI h hk
    obtain ⟨c1, c2⟩ := bif_t hc
    obtain ⟨d1, d2, d3, d4, d5, d6⟩ := effOk_spec c1
    have e1 : f + (flat (.eff i ks r)).length = (f + (flat r).length) + 1 := by simp [flat]; omega
    rw [e1]
    refine ready_only d3 d4 (eff1 ho c1 hI h fun v w' hI' hv => ?_)
    refine ih g prot rc drp _ _ _ w' R k f c2 hna hI' hv fun a2 e2 w2 R2 hA2 hf2 hcl2 hrel2 hk2 => ?_
    refine hk a2 e2 w2 R2 hA2 (fun s hs => ?_) hcl2 (fun x w'' hx hr => ?_) hk2
    · have h1 : (nth ops i).dst ≠ some s := fun hd => hs (mem_dsts hd (List.mem_cons_self ..))
      rw [hf2 s (fun hm => hs (by unfold flat dsts; split <;> first | exact List.mem_cons_of_mem _ hm | exact hm)), putO_ne h1]
    · refine hrel2 x w'' (fun hm => hx ?_) hr
      rcases addLoads_mem.1 hm with h | h
      · exact addLoads_mem.2 (.inl h)
      · exact addLoads_mem.2 (.inr ⟨List.mem_cons_of_mem _ h.1, h.2⟩)
  | alt x y => exact fun g prot rc drp L e a w R k f _ hna => absurd hna (by simp [noAlt])
  | grp j want live dead body r ihb ihr =>
    intro g prot rc drp L e a w R k f hc hna hI h hk
    obtain ⟨n1, n2⟩ := bif_t hna
    obtain ⟨c1, c2, c3, c4, c5, c6, c7, c8, c9, c10, c11⟩ := grp_chk hc
    have e1 : f + (flat (.grp j want live dead body r)).length = (f + (flat r).length) + (flat body).length := by simp [flat]; omega
    rw [e1]
    refine grp1 ho hs hQ hc hI h (fun k' hI' hb hk' => ihb _ _ _ _ _ _ _ _ _ _ _ c3 n1 hI' hb hk') fun a' e' w' R' hI' hf hr' => ?_
    refine ihr g prot rc _ _ e' a' w' R' k f c11 n2 hI' hr' fun a2 e2 w2 R2 hA2 hf2 hcl2 hrel2 hk2 => ?_
    have hm : markL L (flat (RT.grp j want live dead body r)) = markL (markL L (flat body)) (flat r) := markL_append
    have := hk a2 e2 w2 R2 hA2 (fun s hs => ?_) (by rw [hm]; exact hcl2) (fun x w'' hx hr => ?_) hk2
    · rw [hm] at this; exact this
    · simp only [flat, dsts_append, List.mem_append, not_or] at hs
      rw [hf2 s hs.2, hf s hs.1]
    · refine hrel2 x w'' (fun hm => hx ?_) hr
      rcases addLoads_mem.1 hm with h | h
      · rcases addLoads_mem.1 h with h | h
        · exact addLoads_mem.2 (.inl h)
        · exact addLoads_mem.2 (.inr ⟨by simp [flat, h.1], h.2⟩)
      · exact addLoads_mem.2 (.inr ⟨by simp [flat, h.1], h.2⟩)
end drs3


section drs4
variable {P : Program} {n : Nat} {arr : Array Oper} {ops : List Oper} {Q : Exit → Act → World → Prop}
theorem head_ready {g : Option (Nat × Bool)} {prot rc drp : List Nat} {L : Array Bool} {hs : List Nat} {top : Bool} : ∀ {t : RT}, isHead t = true → drChk P n arr ops g prot rc drp L (some hs) top t = true →
    (∃ i, i ∈ Region.ready .any arr L) ∧ ∀ x ∈ Region.ready .any arr L, x ∈ hs
  | .nil, h, _ => by simp [isHead] at h
  | .ops _ _, h, _ => by simp [isHead] at h
  | .grp _ _ _ _ _ _, h, _ => by simp [isHead] at h
  | .eff i ks r, _, h => by
    obtain ⟨c1, _⟩ := bif_t h
    obtain ⟨_, _, d3, d4, _, _⟩ := effOk_spec c1
    exact ⟨⟨i, d3⟩, d4⟩
  | .alt a b, _, h => by
    obtain ⟨_, h⟩ := bif_t h
    obtain ⟨h1, h⟩ := bif_t h
    obtain ⟨_, h⟩ := bif_t h
    obtain ⟨h2, _⟩ := bif_t h
    exact head_ready h1 h2
theorem steps_head : ∀ {t : RT}, isHead t = true → 1 ≤ steps t
  | .nil, h => by simp [isHead] at h
  | .ops _ _, h => by simp [isHead] at h
  | .grp _ _ _ _ _ _, h => by simp [isHead] at h
  | .eff _ _ _, _ => by simp [steps]
  | .alt a b, h => by
    have := steps_head (bif_t h).1
    simp only [steps]
    omega
/-- The walk of a whole region that draws its order. -/
theorem denR_top (ho : ops = arr.toList) (hs : Region.noSelect arr = true) (hQ : ∀ c a w, ¬ Q (.panic c) a w) : ∀ (t : RT),
    (∀ (g : Option (Nat × Bool)) (prot rc drp : List Nat) (L : Array Bool) (e : Env) (a : Act) (w : World) (R : Nat → World → Prop) (k : Env → World → Prop) (f : Nat),
      drChk P n arr ops g prot rc drp L none true t = true → DrInv P n arr ops g prot rc drp L e a R → denR P ops t e w k → steps t ≤ f →
      (∀ a' e' w', Agrees n a' e' → (∀ s, (∀ i, i < ops.length → (nth ops i).dst ≠ some s) → e' s = e s) → k e' w' → Q .normal a' w') → wpAnyK P arr Q R f L a w) ∧
    (isHead t = true → ∀ (hss : List Nat) (g : Option (Nat × Bool)) (prot rc drp : List Nat) (L : Array Bool) (e : Env) (a : Act) (w : World) (R : Nat → World → Prop) (k : Env → World → Prop) (f : Nat),
      drChk P n arr ops g prot rc drp L (some hss) true t = true → DrInv P n arr ops g prot rc drp L e a R → denR P ops t e w k → steps t ≤ f + 1 →
      (∀ a' e' w', Agrees n a' e' → (∀ s, (∀ i, i < ops.length → (nth ops i).dst ≠ some s) → e' s = e s) → k e' w' → Q .normal a' w') →
      ∀ j ∈ headsOf t, wpOp P arr Q j (fun a' w' => (w' = w ∨ ∀ x, (nthN (masks arr.toList) j).testBit x = false → R x w') ∧ wpAnyK P arr Q R f (L.setIfInBounds j true) a' w') a w) := by
  intro t
  induction t with
  | nil =>
    refine ⟨fun g prot rc drp L e a w R k f hc hI h _ hk => ?_, fun h => by simp [isHead] at h⟩
    have hr : Region.ready .any arr L = [] := by simpa [drChk] using hc
    have hq := hk a e w hI.agrees (fun _ _ => rfl) h
    cases f with
    | zero => exact ⟨hr, hq⟩
    | succ f => exact ⟨fun _ => hq, fun j hj => by rw [hr] at hj; simp at hj⟩
  | ops l r ih =>
    refine ⟨fun g prot rc drp L e a w R k f hc hI h hf hk => ?_, fun h => by simp [isHead] at h⟩
    obtain ⟨c1, c2⟩ := bif_t hc
    simp only [steps] at hf
    obtain ⟨f', rfl⟩ : ∃ f', f = f' + l.length := ⟨f - l.length, by omega⟩
    refine hoists ho hs hQ l rc L e a R _ c1 hI h fun a' e' R' hI' hf' hk' => ?_
    refine ih.1 g prot _ drp _ e' a' w R' k f' c2 hI' hk' (by omega) fun a2 e2 w2 hA2 hf2 hk2 => ?_
    refine hk a2 e2 w2 hA2 (fun s hs => ?_) hk2
    rw [hf2 s hs, hf' s fun hm => ?_]
    obtain ⟨i, hi, hd⟩ := dsts_sub hm
    have := allN_iff.1 (hoists_prot c1) i hi
    exact hs i (basic_spec (opChk_spec this).1).1 hd
  | eff i ks r ih =>
    have core : ∀ (hss : List Nat) (g : Option (Nat × Bool)) (prot rc drp : List Nat) (L : Array Bool) (e : Env) (a : Act) (w : World) (R : Nat → World → Prop) (k : Env → World → Prop) (f : Nat),
        effOk n arr ops g prot rc drp L hss i ks = true → drChk P n arr ops g prot rc drp (L.setIfInBounds i true) none true r = true → DrInv P n arr ops g prot rc drp L e a R → denR P ops (.eff i ks r) e w k → steps r ≤ f →
        (∀ a' e' w', Agrees n a' e' → (∀ s, (∀ i, i < ops.length → (nth ops i).dst ≠ some s) → e' s = e s) → k e' w' → Q .normal a' w') →
        wpOp P arr Q i (fun a' w' => (w' = w ∨ ∀ x, (nthN (masks arr.toList) i).testBit x = false → R x w') ∧ wpAnyK P arr Q R f (L.setIfInBounds i true) a' w') a w := by
      intro hss g prot rc drp L e a w R k f c1 c2 hI h hf hk
      refine eff1 ho c1 hI h fun v w' hI' hv => ?_
      refine ih.1 g prot rc drp _ _ _ w' R k f c2 hI' hv hf fun a2 e2 w2 hA2 hf2 hk2 => ?_
      refine hk a2 e2 w2 hA2 (fun s hs => ?_) hk2
      have hb := (basic_spec (opChk_spec (effOk_spec c1).1).1).1
      rw [hf2 s hs, putO_ne (hs i hb)]
    refine ⟨fun g prot rc drp L e a w R k f hc hI h hf hk => ?_, fun _ hss g prot rc drp L e a w R k f hc hI h hf hk j hj => ?_⟩
    · obtain ⟨c1, c2⟩ := bif_t hc
      obtain ⟨d1, d2, d3, d4, d5, d6⟩ := effOk_spec c1
      simp only [steps] at hf
      obtain ⟨f', rfl⟩ : ∃ f', f = f' + 1 := ⟨f - 1, by omega⟩
      exact ready_only d3 d4 (core _ g prot rc drp L e a w R k f' c1 c2 hI h (by omega) hk)
    · obtain ⟨c1, c2⟩ := bif_t hc
      simp only [headsOf, List.mem_singleton] at hj
      subst hj
      simp only [steps] at hf
      exact core _ g prot rc drp L e a w R k f c1 c2 hI h (by omega) hk
  | alt x y ihx ihy =>
    have core : ∀ (hss : List Nat) (g : Option (Nat × Bool)) (prot rc drp : List Nat) (L : Array Bool) (e : Env) (a : Act) (w : World) (R : Nat → World → Prop) (k : Env → World → Prop) (f : Nat),
        isHead x = true → isHead y = true → drChk P n arr ops g prot rc drp L (some hss) true x = true → drChk P n arr ops g prot rc drp L (some hss) true y = true → DrInv P n arr ops g prot rc drp L e a R → denR P ops (.alt x y) e w k → steps (.alt x y) ≤ f + 1 →
        (∀ a' e' w', Agrees n a' e' → (∀ s, (∀ i, i < ops.length → (nth ops i).dst ≠ some s) → e' s = e s) → k e' w' → Q .normal a' w') →
        ∀ j ∈ headsOf x ++ headsOf y, wpOp P arr Q j (fun a' w' => (w' = w ∨ ∀ x, (nthN (masks arr.toList) j).testBit x = false → R x w') ∧ wpAnyK P arr Q R f (L.setIfInBounds j true) a' w') a w := by
      intro hss g prot rc drp L e a w R k f hx hy cx cy hI h hf hk j hj
      simp only [steps] at hf
      rcases List.mem_append.1 hj with hj | hj
      · exact ihx.2 hx hss g prot rc drp L e a w R k f cx hI h.1 (by omega) hk j hj
      · exact ihy.2 hy hss g prot rc drp L e a w R k f cy hI h.2 (by omega) hk j hj
    refine ⟨fun g prot rc drp L e a w R k f hc hI h hf hk => ?_, fun _ hss g prot rc drp L e a w R k f hc hI h hf hk j hj => ?_⟩
    · obtain ⟨_, hc⟩ := bif_t hc
      obtain ⟨h1, hc⟩ := bif_t hc
      obtain ⟨h2, hc⟩ := bif_t hc
      obtain ⟨c1, c2⟩ := bif_t hc
      obtain ⟨⟨i, hi⟩, hr⟩ := head_ready h1 c1
      cases f with
      | zero =>
        exfalso
        simp only [steps] at hf
        have := steps_head h1
        omega
      | succ f =>
        refine ⟨fun h0 => by rw [h0] at hi; simp at hi, fun j hj => ?_⟩
        exact core _ g prot rc drp L e a w R k f h1 h2 c1 c2 hI h hf hk j (hr j hj)
    · obtain ⟨_, hc⟩ := bif_t hc
      obtain ⟨h1, hc⟩ := bif_t hc
      obtain ⟨h2, hc⟩ := bif_t hc
      obtain ⟨c1, c2⟩ := bif_t hc
      exact core hss g prot rc drp L e a w R k f h1 h2 c1 c2 hI h hf hk j hj
  | grp j want live dead body r ihb ihr =>
    refine ⟨fun g prot rc drp L e a w R k f hc hI h hf hk => ?_, fun h => by simp [isHead] at h⟩
    obtain ⟨c1, c2, c3, c4, c5, c6, c7, c8, c9, c10, c11⟩ := grp_chk hc
    simp only [steps] at hf
    obtain ⟨f', rfl⟩ : ∃ f', f = f' + (flat body).length := ⟨f - (flat body).length, by omega⟩
    refine grp1 ho hs hQ hc hI h (fun k' hI' hb hk' => denR_in ho hs hQ body _ _ _ _ _ _ _ _ _ _ _ c3 c8 hI' hb hk') fun a' e' w' R' hI' hf' hr' => ?_
    refine ihr.1 g prot rc _ _ e' a' w' R' k f' c11 hI' hr' (by omega) fun a2 e2 w2 hA2 hf2 hk2 => ?_
    refine hk a2 e2 w2 hA2 (fun s hs => ?_) hk2
    rw [hf2 s hs, hf' s fun hm => ?_]
    obtain ⟨i, hi, hd⟩ := dsts_sub hm
    have : i < ops.length := by
      have hsk := c10
      clear hf' hr' hI' h hk hf2 hk2
      revert hi
      generalize flat body = l at *
      have gen : ∀ (l done : List Nat), skipChk n ops.length ops j want done l = true → i ∈ l → i < ops.length := by
        intro l
        induction l with
        | nil => intro done _ hi; simp at hi
        | cons y l ih =>
          intro done hsk hi
          obtain ⟨b1, hsk⟩ := bif_t hsk
          obtain ⟨b2, hsk⟩ := bif_t hsk
          rcases List.mem_cons.1 hi with rfl | hi
          · exact (basic_spec b1).1
          · exact ih _ hsk hi
      exact gen l [] hsk
    exact hs i this hd
end drs4


/-! Code: what it writes, what is checked, soundness. -/
def wrOps (l : List Oper) (s : Nat) : Bool :=
  match l with
  | [] => false
  | o :: l => bif (match o.dst with
    | some d => Nat.beq d s
    | none => false) then true else wrOps l s
def wr (c : Code) (s : Nat) : Bool :=
  match c with
  | .region _ ops _ => wrOps ops.toList s
  | .seq x y => bif wr x s then true else wr y s
  | .cond _ x y => bif wr x s then true else wr y s
  | .block _ x => wr x s
  | .loop x => wr x s
  | .scope x => wr x s
  | _ => false
def lsChk (n : Nat) (l : List Oper) : Bool :=
  match l with
  | [] => true
  | o :: l => bif (match o.guard with
    | none => dstOk n o.dst
    | some _ => false) then lsChk n l else false
def countN (n : Nat) : List Nat := List.range n
def eqN (l m : List Nat) : Bool :=
  match l, m with
  | [], [] => true
  | x :: l, y :: m => bif Nat.beq x y then eqN l m else false
  | _, _ => false
theorem eqN_eq : ∀ {l m : List Nat}, eqN l m = true → l = m
  | [], [], _ => rfl
  | [], _ :: _, h => by simp [eqN] at h
  | _ :: _, [], h => by simp [eqN] at h
  | x :: l, y :: m, h => by
    obtain ⟨h1, h2⟩ := bif_t h
    rw [Nat.eq_of_beq_eq_true h1, eqN_eq h2]
def regChk (P : Program) (n : Nat) (ops : Array Oper) (dr : Bool) (t : RT) : Bool :=
  bif dr then (bif Region.noSelect ops then (bif Nat.ble (steps t) ops.size then drChk P n ops ops.toList none [] [] [] (Array.replicate ops.size false) none true t else false) else false)
  else (bif eqN (flat t) (List.range ops.size) then seqChk n ops.toList.length ops.toList none [] t else false)
def chk (P : Program) (n : Nat) (c : Code) (an : Ann) : Bool :=
  match c with
  | .skip => true
  | .region _ ops dr =>
    match an with
    | .r t => regChk P n ops dr t
    | _ => bif dr then false else lsChk n ops.toList
  | .seq x y =>
    match an with
    | .j _ keep ax ay => bif allN (fun s => !wr x s) keep then (bif chk P n x ax then chk P n y ay else false) else false
    | .s ax ay => bif chk P n x ax then chk P n y ay else false
    | _ => bif chk P n x .z then chk P n y .z else false
  | .cond _ x y =>
    match an with
    | .s ax ay => bif chk P n x ax then chk P n y ay else false
    | _ => bif chk P n x .z then chk P n y .z else false
  | .block _ x =>
    match an with
    | .b a => chk P n x a
    | _ => chk P n x .z
  | .loop x =>
    match an with
    | .l _ keep a => bif allN (fun s => !wr x s) keep then chk P n x a else false
    | _ => false
  | .scope x =>
    match an with
    | .b a => chk P n x a
    | _ => chk P n x .z
  | _ => true
theorem wrOps_of {l : List Oper} {s : Nat} (h : wrOps l s = false) : ∀ o ∈ l, o.dst ≠ some s := by
  induction l with
  | nil => intro o ho; simp at ho
  | cons o l ih =>
    intro o' ho' hd
    unfold wrOps at h
    rcases List.mem_cons.1 ho' with rfl | ho'
    · rw [hd] at h; simp at h
    · cases hb : (match o.dst with
        | some d => Nat.beq d s
        | none => false)
      · rw [hb] at h; exact ih h o' ho' hd
      · rw [hb] at h; cases h
theorem nth_mem : ∀ {l : List Oper} {i : Nat}, i < l.length → nth l i ∈ l
  | [], _, h => absurd h (by simp)
  | o :: l, 0, _ => List.mem_cons_self ..
  | o :: l, i + 1, h => List.mem_cons_of_mem _ (nth_mem (l := l) (by simpa using h))
theorem denLs_sound {P : Program} {n : Nat} {arr : Array Oper} {Q : Exit → Act → World → Prop} : ∀ (l : List Oper) (i : Nat) (e : Env) (a : Act) (w : World) (k : Env → World → Prop),
    (∀ j, l[j]? = arr[i + j]?) → lsChk n l = true → Agrees n a e → denLs P l e w k →
    (∀ a' e' w', Agrees n a' e' → (∀ s, wrOps l s = false → e' s = e s) → k e' w' → Q .normal a' w') → wpOps P arr Q (List.range' i l.length) a w := by
  intro l
  induction l with
  | nil => exact fun i e a w k _ _ hA h hk => hk a e w hA (fun _ _ => rfl) h
  | cons o l ih =>
    intro i e a w k hl hc hA h hk
    have h0 : arr[i]? = some o := by simpa using (hl 0).symm
    obtain ⟨c1, c2⟩ := bif_t hc
    have hg : o.guard = none ∧ dstOk n o.dst = true := by
      split at c1
      · rename_i hg; exact ⟨hg, c1⟩
      · cases c1
    have h' := denOp_sound h
    rw [← hA.eval] at h'
    rw [List.length_cons, List.range'_succ]
    refine wpOps_step h0 (by simp [Region.wanted, hg.1]) h' fun v w' hv => ?_
    refine ih (i + 1) _ _ w' k (fun j => by have := hl (j + 1); simpa [Nat.add_assoc, Nat.add_comm 1 j] using this) c2 (hA.putO hg.2 v) hv fun a' e' w'' hA' hf hk' => ?_
    refine hk a' e' w'' hA' (fun s hs => ?_) hk'
    have h1 := wrOps_of hs o (List.mem_cons_self ..)
    rw [hf s ?_, putO_ne h1]
    unfold wrOps at hs
    cases hb : (match o.dst with
      | some d => Nat.beq d s
      | none => false)
    · rw [hb] at hs; exact hs
    · rw [hb] at hs; cases hs
def noPanic (Q : Exit → Act → World → Prop) : Exit → Act → World → Prop
  | .normal, a, w => Q .normal a w
  | _, _, _ => False
theorem region_sound {P : Program} {n : Nat} {id : Nat} {ops : Array Oper} {dr : Bool} {an : Ann} {Q : Exit → Act → World → Prop} {rs : List ResultVar} {e : Env} {a : Act} {w : World} {kn : Env → World → Prop} {kx : Nat → Env → World → Prop} {kr : Value → World → Prop}
    (hm : P.follows .mixedOrders = true) (hc : chk P n (.region id ops dr) an = true) (hA : Agrees n a e) (h : den P rs (.region id ops dr) an e w kn kx kr)
    (hn : ∀ a' e' w', Agrees n a' e' → (∀ s, wr (.region id ops dr) s = false → e' s = e s) → kn e' w' → Q .normal a' w') : (Code.region id ops dr).wp P Q a w := by
  have hfr : ∀ s, wr (.region id ops dr) s = false → ∀ i, i < ops.toList.length → (nth ops.toList i).dst ≠ some s := fun s hs i hi => wrOps_of hs _ (nth_mem hi)
  have plain : dr = false → lsChk n ops.toList = true → denLs P ops.toList e w kn → (Code.region id ops dr).wp P Q a w := by
    rintro rfl hc h
    refine wp_region ?_
    rw [List.range_eq_range', ← Array.length_toList]
    exact denLs_sound ops.toList 0 e a w kn (fun j => by simp) hc hA h hn
  have notr : (∀ t, an ≠ .r t) → (Code.region id ops dr).wp P Q a w := by
    intro hr
    have hc' : (bif dr then false else lsChk n ops.toList) = true := by cases an <;> first | exact hc | exact absurd rfl (hr _)
    have h' : denLs P ops.toList e w kn := by cases an <;> first | exact h | exact absurd rfl (hr _)
    cases dr
    · exact plain rfl hc' h'
    · cases hc'
  cases an with
  | r t =>
    cases dr
    · obtain ⟨c1, c2⟩ := bif_t (show (bif eqN (flat t) (List.range ops.size) then seqChk n ops.toList.length ops.toList none [] t else false) = true from hc)
      have h' : denR P ops.toList t e w kn := h
      refine wp_region ?_
      have := denR_seq (Q := Q) (arr := ops) rfl t none [] [] e a w kn c2 hA trivial h' fun a' e' w' hA' hf _ hk => ?_
      · rw [List.append_nil, eqN_eq c1] at this
        exact this
      · refine hn a' e' w' hA' (fun s hs => hf s fun hm => ?_) hk
        obtain ⟨i, hi, hd⟩ := dsts_sub hm
        rw [eqN_eq c1] at hi
        exact hfr s hs i (by simpa using hi) hd
    · obtain ⟨c1, hc⟩ := bif_t (show (bif Region.noSelect ops then (bif Nat.ble (steps t) ops.size then drChk P n ops ops.toList none [] [] [] (Array.replicate ops.size false) none true t else false) else false) = true from hc)
      obtain ⟨c2, c3⟩ := bif_t hc
      have h' : denR P ops.toList t e w.drew kn := h
      refine Code.wp_mono (Q := noPanic Q) (fun ex a w hq => by cases ex <;> first | exact hq | exact hq.elim) (wp_region_any hm (wpAny_of_K (R := fun _ _ => True) _ _ _ _ ?_))
      refine (denR_top (Q := noPanic Q) (arr := ops) (n := n) rfl c1 (fun c a w h => h) t).1 none [] [] [] _ e a w.drew _ kn ops.size c3 ⟨hA, trivial, ?_, fun _ _ _ _ => trivial⟩ h' (Nat.le_of_ble_eq_true c2) fun a' e' w' hA' hf hk => ?_
      · intro x o _ hl
        exfalso
        rcases Nat.lt_or_ge x ops.size with h | h
        · simp [h] at hl
        · simp [h] at hl
      · exact hn a' e' w' hA' (fun s hs => hf s (hfr s hs)) hk
  | z => exact notr (fun t => by simp)
  | s x y => exact notr (fun t => by simp)
  | j l k x y => exact notr (fun t => by simp)
  | l l k x => exact notr (fun t => by simp)
  | b x => exact notr (fun t => by simp)


theorem wp_loop_idx {P : Program} {Q : Exit → Act → World → Prop} {c : Code} {a : Act} {w : World} (I : Nat → Act → World → Prop) (h0 : ∃ m, I m a w)
    (round : ∀ m a w, I m a w → c.wp P (Exit.then (fun a' w' => ∃ m', m' < m ∧ I m' a' w') Q) a w) : (Code.loop c).wp P Q a w := by
  intro b k cs
  have key : ∀ m a w, I m a w → ∃ e a' w', Q e a' w' ∧ Arrives P (lone (b.at a (.code c :: .inLoop c :: k)) cs w) b k cs e a' w' := by
    intro m
    induction m using Nat.strongRecOn with
    | _ m ih =>
      intro a w hI
      obtain ⟨e, a₁, w₁, hq, harr⟩ := round m a w hI b (.inLoop c :: k) cs
      cases e with
      | normal =>
        obtain ⟨m', hlt, hI₁⟩ := hq
        obtain ⟨e₂, a₂, w₂, hq₂, harr₂⟩ := ih m' hlt a₁ w₁ hI₁
        exact ⟨e₂, a₂, w₂, hq₂, .of_steps (Steps.trans harr (.one step_inLoop)) harr₂⟩
      | exit id => exact ⟨_, a₁, w₁, hq, .pass (x := .inLoop c) rfl (fun _ _ => .inl (by simp)) harr⟩
      | goto l => exact ⟨_, a₁, w₁, hq, .pass (x := .inLoop c) rfl (fun _ _ => .inl (by simp)) harr⟩
      | ret => exact ⟨_, a₁, w₁, hq, .pass (x := .inLoop c) rfl (fun _ _ => .inl (by simp)) harr⟩
      | panic ch => exact ⟨_, a₁, w₁, hq, .pass (x := .inLoop c) rfl (fun _ _ => .inl (by simp)) harr⟩
      | outgrown => exact ⟨_, a₁, w₁, hq, .pass (x := .inLoop c) rfl (fun _ _ => .inl (by simp)) harr⟩
  obtain ⟨m, hm⟩ := h0
  obtain ⟨e, a', w', hq, harr⟩ := key m a w hm
  exact ⟨e, a', w', hq, .of_steps (.one step_loop) harr⟩
theorem bifN {b c : Bool} (h : (bif b then true else c) = false) : b = false ∧ c = false := by
  cases b
  · exact ⟨rfl, h⟩
  · cases h
def Fr (c : Code) (e e' : Env) : Prop := ∀ s, wr c s = false → e' s = e s
theorem keep_of {x : Code} {keep : List Nat} (h : allN (fun s => !wr x s) keep = true) {e e' : Env} (hf : Fr x e e') : ∀ k ∈ keep, e' k = e k := fun k hk => by
  have := allN_iff.1 h k hk
  exact hf k (by simpa using this)
theorem den_sound {P : Program} {n : Nat} {rs : List ResultVar} (hm : P.follows .mixedOrders = true) : ∀ (c : Code) (an : Ann) (e : Env) (a : Act) (w : World) (kn : Env → World → Prop) (kx : Nat → Env → World → Prop) (kr : Value → World → Prop) (Q : Exit → Act → World → Prop),
    chk P n c an = true → Agrees n a e → den P rs c an e w kn kx kr →
    (∀ a' e' w', Agrees n a' e' → Fr c e e' → kn e' w' → Q .normal a' w') →
    (∀ id a' e' w', Agrees n a' e' → Fr c e e' → kx id e' w' → Q (.exit id) a' w') →
    (∀ a' e' w', Agrees n a' e' → denRs P rs [] e' w' kr → Q .ret a' w') → c.wp P Q a w := by
  intro c
  induction c with
  | skip => exact fun an e a w kn kx kr Q _ hA h hn _ _ => wp_skip (hn a e w hA (fun _ _ => rfl) h)
  | label l => exact fun an e a w kn kx kr Q _ hA h hn _ _ => wp_label (hn a e w hA (fun _ _ => rfl) h)
  | ret => exact fun an e a w kn kx kr Q _ hA h _ _ hr => wp_ret (hr a e w hA h)
  | exit id => exact fun an e a w kn kx kr Q _ hA h _ hx _ => wp_exit (hx id a e w hA (fun _ _ => rfl) h)
  | region id ops dr => exact fun an e a w kn kx kr Q hc hA h hn _ _ => region_sound hm hc hA h hn
  | rangeFunc f ps as_ b => exact fun an e a w kn kx kr Q _ _ h _ _ _ => h.elim
  | scope x ih =>
    intro an e a w kn kx kr Q hc hA h hn hx hr
    have main : ∀ ax, chk P n x ax = true → den P rs x ax e w kn kx kr → (Code.scope x).wp P Q a w := by
      intro ax c1 h
      exact wp_scope_straight (ih ax e a w kn kx kr (Exit.noGoto Q) c1 hA h (fun a' e' w' h1 h2 h3 => hn a' e' w' h1 h2 h3) (fun i a' e' w' h1 h2 h3 => hx i a' e' w' h1 h2 h3) (fun a' e' w' h1 h2 => hr a' e' w' h1 h2))
    cases an with
    | b ax => exact main ax hc h
    | z => exact main .z hc h
    | j l k x y => exact main .z hc h
    | l l k x => exact main .z hc h
    | s x y => exact main .z hc h
    | r x => exact main .z hc h
  | goto l => exact fun an e a w kn kx kr Q _ _ h _ _ _ => h.elim
  | refuse y => exact fun an e a w kn kx kr Q _ _ h _ _ _ => h.elim
  | cond v x y ihx ihy =>
    intro an e a w kn kx kr Q hc hA h hn hx hr
    have main : ∀ ax ay, chk P n x ax = true → chk P n y ay = true → wIf (ev e v) (den P rs x ax e w kn kx kr) (den P rs y ay e w kn kx kr) → (Code.cond v x y).wp P Q a w := by
      intro ax ay c1 c2 h
      unfold wIf at h
      have hev : a.eval v = ev e v := by rw [hA.eval]
      have fx : ∀ e', Fr x e e' → Fr (.cond v x y) e e' := fun e' hf s hs => hf s (bifN hs).1
      have fy : ∀ e', Fr y e e' → Fr (.cond v x y) e e' := fun e' hf s hs => hf s (bifN hs).2
      split at h
      · rename_i hb
        exact wp_cond_true (hev.trans hb) (ihx ax e a w kn kx kr Q c1 hA h (fun a' e' w' h1 h2 => hn a' e' w' h1 (fx e' h2)) (fun id a' e' w' h1 h2 => hx id a' e' w' h1 (fx e' h2)) hr)
      · rename_i hb
        exact wp_cond_false (hev.trans hb) (ihy ay e a w kn kx kr Q c2 hA h (fun a' e' w' h1 h2 => hn a' e' w' h1 (fy e' h2)) (fun id a' e' w' h1 h2 => hx id a' e' w' h1 (fy e' h2)) hr)
      · exact h.elim
    cases an with
    | s ax ay => exact main ax ay (bif_t hc).1 (bif_t hc).2 h
    | z => exact main .z .z (bif_t hc).1 (bif_t hc).2 h
    | j l k x y => exact main .z .z (bif_t hc).1 (bif_t hc).2 h
    | l l k x => exact main .z .z (bif_t hc).1 (bif_t hc).2 h
    | b x => exact main .z .z (bif_t hc).1 (bif_t hc).2 h
    | r x => exact main .z .z (bif_t hc).1 (bif_t hc).2 h
  | block id x ih =>
    intro an e a w kn kx kr Q hc hA h hn hx hr
    have main : ∀ ax, chk P n x ax = true → den P rs x ax e w kn (fun i e' w' => bif Nat.beq i id then kn e' w' else kx i e' w') kr → (Code.block id x).wp P Q a w := by
      intro ax c1 h
      refine wp_block (ih ax e a w kn _ kr (Exit.inBlock id Q) c1 hA h (fun a' e' w' h1 h2 h3 => hn a' e' w' h1 h2 h3) (fun i a' e' w' h1 h2 h3 => ?_) (fun a' e' w' h1 h2 => hr a' e' w' h1 h2))
      by_cases hi : i = id
      · subst hi
        simp only [Exit.inBlock, if_true]
        exact hn a' e' w' h1 h2 (by simpa using h3)
      · simp only [Exit.inBlock, hi, if_false]
        rw [beq_ne hi] at h3
        exact hx i a' e' w' h1 h2 h3
    cases an with
    | b ax => exact main ax hc h
    | z => exact main .z hc h
    | j l k x y => exact main .z hc h
    | l l k x => exact main .z hc h
    | s x y => exact main .z hc h
    | r x => exact main .z hc h
  | seq x y ihx ihy =>
    intro an e a w kn kx kr Q hc hA h hn hx hr
    have fx : ∀ e', Fr x e e' → Fr (.seq x y) e e' := fun e' hf s hs => hf s (bifN hs).1
    have fy : ∀ e1 e', Fr x e e1 → Fr y e1 e' → Fr (.seq x y) e e' := fun e1 e' hf hf' s hs => (hf' s (bifN hs).2).trans (hf s (bifN hs).1)
    have step : ∀ ax (K : Env → World → Prop), chk P n x ax = true → den P rs x ax e w K kx kr →
        (∀ a' e' w', Agrees n a' e' → Fr x e e' → K e' w' → y.wp P Q a' w') → (Code.seq x y).wp P Q a w := by
      intro ax K c1 h hK
      exact wp_seq (ihx ax e a w K kx kr (Exit.then (y.wp P Q) Q) c1 hA h (fun a' e' w' h1 h2 h3 => hK a' e' w' h1 h2 h3) (fun id a' e' w' h1 h2 h3 => hx id a' e' w' h1 (fx e' h2) h3) (fun a' e' w' h1 h2 => hr a' e' w' h1 h2))
    have rest : ∀ ay e1 a1 w1, chk P n y ay = true → Agrees n a1 e1 → Fr x e e1 → den P rs y ay e1 w1 kn kx kr → y.wp P Q a1 w1 := by
      intro ay e1 a1 w1 c2 hA1 hf1 h
      exact ihy ay e1 a1 w1 kn kx kr Q c2 hA1 h (fun a' e' w' h1 h2 h3 => hn a' e' w' h1 (fy e1 e' hf1 h2) h3) (fun id a' e' w' h1 h2 h3 => hx id a' e' w' h1 (fy e1 e' hf1 h2) h3) hr
    have main : ∀ ax ay, chk P n x ax = true → chk P n y ay = true → den P rs x ax e w (fun e' w' => den P rs y ay e' w' kn kx kr) kx kr → (Code.seq x y).wp P Q a w :=
      fun ax ay c1 c2 h => step ax _ c1 h fun a' e' w' h1 h2 h3 => rest ay e' a' w' c2 h1 h2 h3
    cases an with
    | s ax ay => exact main ax ay (bif_t hc).1 (bif_t hc).2 h
    | z => exact main .z .z (bif_t hc).1 (bif_t hc).2 h
    | l l k x => exact main .z .z (bif_t hc).1 (bif_t hc).2 h
    | b x => exact main .z .z (bif_t hc).1 (bif_t hc).2 h
    | r x => exact main .z .z (bif_t hc).1 (bif_t hc).2 h
    | j live keep ax ay =>
      obtain ⟨c0, hc⟩ := bif_t hc
      obtain ⟨c1, c2⟩ := bif_t hc
      have fin : ∀ (e' : Env), Fr x e e' → mixK keep e e' = e' := fun e' hf => mixK_self e e' keep (keep_of c0 hf)
      match live with
      | [] =>
        refine step ax _ c1 (show den P rs x ax e w (fun e' w' => ∀ J, den P rs y ay (_ : Env) w' kn kx kr) kx kr from h) fun a' e' w' h1 h2 h3 => rest ay e' a' w' c2 h1 h2 ?_
        have := h3 e'
        simp only [fin e' h2] at this
        exact this
      | [l0] =>
        refine step ax _ c1 (show den P rs x ax e w (fun e' w' => ∀ J, den P rs y ay (_ : Env) w' kn kx kr) kx kr from h) fun a' e' w' h1 h2 h3 => rest ay e' a' w' c2 h1 h2 ?_
        have := h3 e'
        simp only [fin e' h2, put_self] at this
        exact this
      | [l0, l1] =>
        refine step ax _ c1 (show den P rs x ax e w (fun e' w' => ∀ J, den P rs y ay (_ : Env) w' kn kx kr) kx kr from h) fun a' e' w' h1 h2 h3 => rest ay e' a' w' c2 h1 h2 ?_
        have := h3 e'
        simp only [fin e' h2, put_self] at this
        exact this
      | [l0, l1, l2] =>
        refine step ax _ c1 (show den P rs x ax e w (fun e' w' => ∀ J, den P rs y ay (_ : Env) w' kn kx kr) kx kr from h) fun a' e' w' h1 h2 h3 => rest ay e' a' w' c2 h1 h2 ?_
        have := h3 e'
        simp only [fin e' h2, put_self] at this
        exact this
      | [l0, l1, l2, l3] =>
        refine step ax _ c1 (show den P rs x ax e w (fun e' w' => ∀ J, den P rs y ay (_ : Env) w' kn kx kr) kx kr from h) fun a' e' w' h1 h2 h3 => rest ay e' a' w' c2 h1 h2 ?_
        have := h3 e'
        simp only [fin e' h2, put_self] at this
        exact this
      | [l0, l1, l2, l3, l4] =>
        refine step ax _ c1 (show den P rs x ax e w (fun e' w' => ∀ J, den P rs y ay (_ : Env) w' kn kx kr) kx kr from h) fun a' e' w' h1 h2 h3 => rest ay e' a' w' c2 h1 h2 ?_
        have := h3 e'
        simp only [fin e' h2, put_self] at this
        exact this
      | [l0, l1, l2, l3, l4, l5] =>
        refine step ax _ c1 (show den P rs x ax e w (fun e' w' => ∀ J, den P rs y ay (_ : Env) w' kn kx kr) kx kr from h) fun a' e' w' h1 h2 h3 => rest ay e' a' w' c2 h1 h2 ?_
        have := h3 e'
        simp only [fin e' h2, put_self] at this
        exact this
      | [l0, l1, l2, l3, l4, l5, l6] =>
        refine step ax _ c1 (show den P rs x ax e w (fun e' w' => ∀ J, den P rs y ay (_ : Env) w' kn kx kr) kx kr from h) fun a' e' w' h1 h2 h3 => rest ay e' a' w' c2 h1 h2 ?_
        have := h3 e'
        simp only [fin e' h2, put_self] at this
        exact this
      | [l0, l1, l2, l3, l4, l5, l6, l7] =>
        refine step ax _ c1 (show den P rs x ax e w (fun e' w' => ∀ J, den P rs y ay (_ : Env) w' kn kx kr) kx kr from h) fun a' e' w' h1 h2 h3 => rest ay e' a' w' c2 h1 h2 ?_
        have := h3 e'
        simp only [fin e' h2, put_self] at this
        exact this
      | [l0, l1, l2, l3, l4, l5, l6, l7, l8] =>
        refine step ax _ c1 (show den P rs x ax e w (fun e' w' => ∀ J, den P rs y ay (_ : Env) w' kn kx kr) kx kr from h) fun a' e' w' h1 h2 h3 => rest ay e' a' w' c2 h1 h2 ?_
        have := h3 e'
        simp only [fin e' h2, put_self] at this
        exact this
      | _ :: _ :: _ :: _ :: _ :: _ :: _ :: _ :: _ :: _ :: _ => exact h.elim
  | loop x ih =>
    intro an e a w kn kx kr Q hc hA h hn hx hr
    cases an with
    | z => exact h.elim
    | s x y => exact h.elim
    | j l k x y => exact h.elim
    | b x => exact h.elim
    | r x => exact h.elim
    | l live keep ax =>
      obtain ⟨c0, c1⟩ := bif_t hc
      have core : ∀ (J : Nat → Env → World → Prop), (∃ m, J m e w) → (∀ m e1 w1, J m e1 w1 → (∀ k ∈ keep, e1 k = e k) → den P rs x ax e1 w1 (fun e' w' => ∃ m', m' < m ∧ J m' e' w') kx kr) → (Code.loop x).wp P Q a w := by
        intro J h0 hst
        refine wp_loop_idx (fun m a' w' => ∃ e1, Agrees n a' e1 ∧ Fr x e e1 ∧ J m e1 w') ?_ ?_
        · obtain ⟨m, hm'⟩ := h0
          exact ⟨m, e, hA, fun _ _ => rfl, hm'⟩
        · rintro m a1 w1 ⟨e1, hA1, hf1, hJ⟩
          have hd := hst m e1 w1 hJ (keep_of c0 hf1)
          refine ih ax e1 a1 w1 _ kx kr _ c1 hA1 hd (fun a' e' w' h1 h2 h3 => ?_) (fun id a' e' w' h1 h2 h3 => hx id a' e' w' h1 (fun s hs => (h2 s hs).trans (hf1 s hs)) h3) (fun a' e' w' h1 h2 => hr a' e' w' h1 h2)
          obtain ⟨m', hlt, hJ'⟩ := h3
          exact ⟨m', hlt, e', h1, fun s hs => (h2 s hs).trans (hf1 s hs), hJ'⟩
      have fin : ∀ (e' : Env), (∀ k ∈ keep, e' k = e k) → mixK keep e e' = e' := fun e' hf => mixK_self e e' keep hf
      match live with
      | [] =>
        obtain ⟨I, h0, hst⟩ := h
        refine core (fun m e1 w1 => I m  w1) h0 fun m e1 w1 hI hk => ?_
        have := hst m e1  w1 hI
        simp only [fin e1 hk] at this
        exact this
      | [l0] =>
        obtain ⟨I, h0, hst⟩ := h
        refine core (fun m e1 w1 => I m (e1 l0) w1) h0 fun m e1 w1 hI hk => ?_
        have := hst m e1 (e1 l0) w1 hI
        simp only [fin e1 hk, put_self] at this
        exact this
      | [l0, l1] =>
        obtain ⟨I, h0, hst⟩ := h
        refine core (fun m e1 w1 => I m (e1 l0) (e1 l1) w1) h0 fun m e1 w1 hI hk => ?_
        have := hst m e1 (e1 l0) (e1 l1) w1 hI
        simp only [fin e1 hk, put_self] at this
        exact this
      | [l0, l1, l2] =>
        obtain ⟨I, h0, hst⟩ := h
        refine core (fun m e1 w1 => I m (e1 l0) (e1 l1) (e1 l2) w1) h0 fun m e1 w1 hI hk => ?_
        have := hst m e1 (e1 l0) (e1 l1) (e1 l2) w1 hI
        simp only [fin e1 hk, put_self] at this
        exact this
      | [l0, l1, l2, l3] =>
        obtain ⟨I, h0, hst⟩ := h
        refine core (fun m e1 w1 => I m (e1 l0) (e1 l1) (e1 l2) (e1 l3) w1) h0 fun m e1 w1 hI hk => ?_
        have := hst m e1 (e1 l0) (e1 l1) (e1 l2) (e1 l3) w1 hI
        simp only [fin e1 hk, put_self] at this
        exact this
      | [l0, l1, l2, l3, l4] =>
        obtain ⟨I, h0, hst⟩ := h
        refine core (fun m e1 w1 => I m (e1 l0) (e1 l1) (e1 l2) (e1 l3) (e1 l4) w1) h0 fun m e1 w1 hI hk => ?_
        have := hst m e1 (e1 l0) (e1 l1) (e1 l2) (e1 l3) (e1 l4) w1 hI
        simp only [fin e1 hk, put_self] at this
        exact this
      | [l0, l1, l2, l3, l4, l5] =>
        obtain ⟨I, h0, hst⟩ := h
        refine core (fun m e1 w1 => I m (e1 l0) (e1 l1) (e1 l2) (e1 l3) (e1 l4) (e1 l5) w1) h0 fun m e1 w1 hI hk => ?_
        have := hst m e1 (e1 l0) (e1 l1) (e1 l2) (e1 l3) (e1 l4) (e1 l5) w1 hI
        simp only [fin e1 hk, put_self] at this
        exact this
      | [l0, l1, l2, l3, l4, l5, l6] =>
        obtain ⟨I, h0, hst⟩ := h
        refine core (fun m e1 w1 => I m (e1 l0) (e1 l1) (e1 l2) (e1 l3) (e1 l4) (e1 l5) (e1 l6) w1) h0 fun m e1 w1 hI hk => ?_
        have := hst m e1 (e1 l0) (e1 l1) (e1 l2) (e1 l3) (e1 l4) (e1 l5) (e1 l6) w1 hI
        simp only [fin e1 hk, put_self] at this
        exact this
      | [l0, l1, l2, l3, l4, l5, l6, l7] =>
        obtain ⟨I, h0, hst⟩ := h
        refine core (fun m e1 w1 => I m (e1 l0) (e1 l1) (e1 l2) (e1 l3) (e1 l4) (e1 l5) (e1 l6) (e1 l7) w1) h0 fun m e1 w1 hI hk => ?_
        have := hst m e1 (e1 l0) (e1 l1) (e1 l2) (e1 l3) (e1 l4) (e1 l5) (e1 l6) (e1 l7) w1 hI
        simp only [fin e1 hk, put_self] at this
        exact this
      | [l0, l1, l2, l3, l4, l5, l6, l7, l8] =>
        obtain ⟨I, h0, hst⟩ := h
        refine core (fun m e1 w1 => I m (e1 l0) (e1 l1) (e1 l2) (e1 l3) (e1 l4) (e1 l5) (e1 l6) (e1 l7) (e1 l8) w1) h0 fun m e1 w1 hI hk => ?_
        have := hst m e1 (e1 l0) (e1 l1) (e1 l2) (e1 l3) (e1 l4) (e1 l5) (e1 l6) (e1 l7) (e1 l8) w1 hI
        simp only [fin e1 hk, put_self] at this
        exact this
      | _ :: _ :: _ :: _ :: _ :: _ :: _ :: _ :: _ :: _ :: _ => exact h.elim


/-! Functions. -/
def resOf (tmps : Array Value) (r : ResultVar) : Sem Value :=
  match r with
  | .tmp t => pure (tmps.getD t undef)
  | .cell a t => do loadVar t (← asAddr (tmps.getD a undef))
theorem res_list {P : Program} {n : Nat} {a : Act} {e : Env} (hA : Agrees n a e) {w : World} {kr : Value → World → Prop} : ∀ (rs : List ResultVar) (acc : List Value), denRs P rs acc e w kr →
    ∃ vs : List Value, (rs.mapM (resOf a.tmps)).run P w = .ok vs w ∧ kr (mkRes (acc ++ vs)) w := by
  intro rs
  induction rs with
  | nil => exact fun acc h => ⟨[], rfl, by rw [List.append_nil]; exact h⟩
  | cons r rs ih =>
    intro acc h
    have key : ∀ v, (resOf a.tmps r).run P w = .ok v w → denRs P rs (acc ++ [v]) e w kr → ∃ vs : List Value, ((r :: rs).mapM (resOf a.tmps)).run P w = .ok vs w ∧ kr (mkRes (acc ++ vs)) w := by
      intro v hv hd
      obtain ⟨vs, h1, h2⟩ := ih _ hd
      refine ⟨v :: vs, ?_, by simpa using h2⟩
      rw [List.mapM_cons, Sem.run_bind, hv]
      simp only [Result.andThen_ok]
      rw [Sem.run_bind, h1]
      rfl
    cases r with
    | tmp t => exact key _ rfl (by rw [hA.get t]; exact h)
    | cell ad t =>
      obtain ⟨v, hv, hd⟩ := h
      refine key v ?_ hd
      unfold resOf
      simp only [hA.get ad]
      exact hv
theorem results_of {P : Program} {fn : Func} {n : Nat} {a : Act} {e : Env} (hA : Agrees n a e) {w : World} {kr : Value → World → Prop} (h : denRs P fn.results.toList [] e w kr) :
    ∃ v, (results fn a.tmps).run P w = .ok v w ∧ kr v w := by
  obtain ⟨vs, h1, h2⟩ := res_list hA _ _ h
  refine ⟨mkRes vs, ?_, by simpa using h2⟩
  have e1 : results fn a.tmps = (do
      let vs ← fn.results.mapM (resOf a.tmps)
      pure (if h : vs.size = 1 then vs[0] else .tuple vs)) := by
    unfold results
    congr 1
  rw [e1, Array.mapM_eq_mapM_toList, Sem.run_bind, map_eq_pure_bind, Sem.run_bind, h1]
  simp only [Result.andThen_ok, Sem.run_pure]
  congr 1
  match vs with
  | [] => rfl
  | [v] => rfl
  | _ :: _ :: _ => rfl
theorem argE_get : ∀ (l : List Value) (m i : Nat), ((⟨l⟩ : Array Value) ++ Array.replicate m undef).getD i undef = argE l i := by
  intro l m i
  have : ((⟨l⟩ : Array Value) ++ Array.replicate m undef).getD i undef = (l ++ List.replicate m undef).getD i undef := by
    rw [Array.getD_eq_getD_getElem?, List.getD_eq_getElem?_getD]
    congr 1
    rw [← Array.getElem?_toList]
    simp
  rw [this]
  induction l generalizing i with
  | nil =>
    show (List.replicate m undef).getD i undef = undef
    rw [List.getD_eq_getElem?_getD, List.getElem?_replicate]
    split <;> rfl
  | cons v l ih =>
    cases i with
    | zero => rfl
    | succ i =>
      have h2 : ((⟨l⟩ : Array Value) ++ Array.replicate m undef).getD i undef = (l ++ List.replicate m undef).getD i undef := by
        rw [Array.getD_eq_getD_getElem?, List.getD_eq_getElem?_getD]
        congr 1
        rw [← Array.getElem?_toList]
        simp
      have := ih i h2
      show (l ++ List.replicate m undef).getD i undef = argE l i
      exact this
def okF (P : Program) (fn : Func) (an : Ann) (m : Nat) : Bool :=
  bif Nat.ble m fn.ntmps then (bif fn.body.isSome then chk P fn.ntmps (bodyOf fn) an else false) else false
theorem call_of_den {P : Program} {f : FuncId} {fn : Func} {args : List Value} {w : World} {k : Value → World → Prop} (hm : P.follows .mixedOrders = true) (hf : P.funcs[f]? = some fn) (hname : (fn.name == "runtime.NumGoroutine") = false) (an : Ann)
    (hc : okF P fn an args.length = true) (h : denF P fn an args w k) : wCall P f args w k := by
  obtain ⟨c1, hc⟩ := bif_t hc
  obtain ⟨c2, c3⟩ := bif_t hc
  have hb : fn.body = some (bodyOf fn) := by
    unfold bodyOf
    cases hb : fn.body with
    | none => rw [hb] at c2; cases c2
    | some c => rfl
  have hcall : callW P f ⟨args⟩ w k := by
    refine calls_of_wp hf hb ?_
    have hA : Agrees fn.ntmps { tmps := (⟨args⟩ : Array Value) ++ Array.replicate (fn.ntmps - args.length) undef, defers := [] } (argE args) := by
      refine ⟨rfl, ?_, argE_get args _⟩
      have := Nat.le_of_ble_eq_true c1
      simp; omega
    refine den_sound hm (bodyOf fn) an (argE args) _ w _ _ k _ c3 hA h (fun a' e' w' h1 _ h3 => ?_) (fun _ _ _ _ _ _ h => h.elim) (fun a' e' w' h1 h3 => ?_)
    · obtain ⟨v, hv, hk⟩ := results_of h1 h3
      exact ⟨h1.defers, v, hv, hk⟩
    · obtain ⟨v, hv, hk⟩ := results_of h1 h3
      exact ⟨h1.defers, v, hv, hk⟩
  unfold wCall wNext callFunc
  simp only [program, Sem.run_bind, Sem.run, Result.andThen_ok, hf, hname, hb, Option.isNone_some, Bool.false_eq_true, if_false]
  exact hcall

attribute [irreducible] wCall wCallV wInvoke callW wNext wLoad wStore wBox wAlloc wBuild wBuildS wBin wBinF wUn wConv wIface wFunc wMakeMap wMake wSlice wFieldA wField wIndexA wIndex wLookup wMapSet wExtract wLen wBuiltin wRange wNextI wEntry wNil wOther wKeep
end Go.Dn
end
section
/-! The texts' heads at values of known form. -/
set_option linter.unusedVariables false
set_option linter.unusedSimpArgs false
namespace Go.Dn
open Go
attribute [local semireducible] wCall wCallV wInvoke callW wNext wLoad wStore wBox wAlloc wBuild wBuildS wBin wBinF wUn wConv wIface wFunc wMakeMap wMake wSlice wFieldA wField wIndexA wIndex wLookup wMapSet wExtract wLen wBuiltin wRange wNextI wEntry wNil wOther wKeep

/-! Control. -/
theorem wIf_i {A B : Prop} (b : Bool) (hA : b = true → A) (hB : b = false → B) : wIf (.bool b) A B := by
  cases b
  · exact hB rfl
  · exact hA rfl
theorem wIf_d {A B : Prop} {c : Prop} [Decidable c] (hA : c → A) (hB : ¬ c → B) : wIf (.bool (decide c)) A B := by
  by_cases h : c
  · rw [decide_eq_true h]; exact hA h
  · rw [decide_eq_false h]; exact hB h
theorem wIf_t {A B : Prop} : wIf (.bool true) A B = A := rfl
theorem wIf_f {A B : Prop} : wIf (.bool false) A B = B := rfl
theorem wIf_dt {A B : Prop} {c : Prop} [Decidable c] (h : c) : wIf (.bool (decide c)) A B = A := by rw [decide_eq_true h]; rfl
theorem wIf_df {A B : Prop} {c : Prop} [Decidable c] (h : ¬ c) : wIf (.bool (decide c)) A B = B := by rw [decide_eq_false h]; rfl
theorem wPick_b (b : Bool) (x y : Value) (w : World) (k : Value → World → Prop) : wPick (.bool b) x y w k = k (if b = true then x else y) w := rfl
/-- A guarded part that comes to a truth. -/
theorem wGrp_and {b r : Bool} {body : (Value → World → Prop) → Prop} {w : World} {k : Env → Value → World → Prop} (h : b = true → ∀ k', k' (.bool r) w → body k')
    (hk : ∀ J v, (b = true → v = .bool r) → k J v w) : wGrp (.bool b) true body w k := by
  unfold wGrp
  cases b
  · simp only [Bool.false_eq_true, if_false]
    exact fun J => hk J undef (fun h => by cases h)
  · simp only [if_true]
    exact h rfl _ fun J => hk J (.bool r) fun _ => rfl
theorem wGrp_or {b r : Bool} {body : (Value → World → Prop) → Prop} {w : World} {k : Env → Value → World → Prop} (h : b = false → ∀ k', k' (.bool r) w → body k')
    (hk : ∀ J v, (b = false → v = .bool r) → k J v w) : wGrp (.bool b) false body w k := by
  unfold wGrp
  cases b
  · simp only [if_true]
    exact h rfl _ fun J => hk J (.bool r) fun _ => rfl
  · simp only [Bool.true_eq_false, if_false]
    exact fun J => hk J undef (fun h => by cases h)
/-- 'a && b', where b only looks. -/
theorem and_i {b r : Bool} {body : (Value → World → Prop) → Prop} {w : World} {k : Value → World → Prop} (h : b = true → ∀ k', k' (.bool r) w → body k')
    (hk : k (.bool (b && r)) w) : wGrp (.bool b) true body w fun _ v w => wPick (.bool b) v (.bool false) w k := by
  refine wGrp_and h fun J v hv => ?_
  cases b
  · exact hk
  · rw [hv rfl]; exact hk
theorem or_i {b r : Bool} {body : (Value → World → Prop) → Prop} {w : World} {k : Value → World → Prop} (h : b = false → ∀ k', k' (.bool r) w → body k')
    (hk : k (.bool (b || r)) w) : wGrp (.bool b) false body w fun _ v w => wPick (.bool b) (.bool true) v w k := by
  refine wGrp_or h fun J v hv => ?_
  cases b
  · rw [hv rfl]; exact hk
  · exact hk
theorem and_p (b r : Bool) (w : World) (K : Value → World → Prop) : (wGrp (.bool b) true (fun k' => k' (.bool r) w) w fun _ v w' => wPick (.bool b) v (.bool false) w' K) = K (.bool (b && r)) w := by
  apply propext
  cases b
  · exact ⟨fun h => h (fun _ => undef), fun h _ => h⟩
  · exact ⟨fun h => h (fun _ => undef), fun h _ => h⟩
theorem or_p (b r : Bool) (w : World) (K : Value → World → Prop) : (wGrp (.bool b) false (fun k' => k' (.bool r) w) w fun _ v w' => wPick (.bool b) (.bool true) v w' K) = K (.bool (b || r)) w := by
  apply propext
  cases b
  · exact ⟨fun h => h (fun _ => undef), fun h _ => h⟩
  · exact ⟨fun h => h (fun _ => undef), fun h _ => h⟩
theorem loop_up {w0 : World} {x0 : Value} {step : Env → Value → World → (Value → World → Prop) → Prop} (N : Nat) (I : Nat → Value → World → Prop) (h0 : I 0 x0 w0)
    (hs : ∀ i J x w k, i ≤ N → I i x w → (∀ x' w', i < N → I (i + 1) x' w' → k x' w') → step J x w k) : wL1 x0 w0 step := by
  refine ⟨fun n x w => ∃ i, i ≤ N ∧ n = N - i ∧ I i x w, ⟨N, 0, Nat.zero_le _, rfl, h0⟩, ?_⟩
  rintro n J x w ⟨i, hi, rfl, hI⟩
  exact hs i J x w _ hi hI fun x' w' hlt hI' => ⟨N - (i + 1), by omega, i + 1, by omega, rfl, hI'⟩
theorem loop_up2 {w0 : World} {x0 y0 : Value} {step : Env → Value → Value → World → (Value → Value → World → Prop) → Prop} (N : Nat) (I : Nat → Value → Value → World → Prop) (h0 : I 0 x0 y0 w0)
    (hs : ∀ i J x y w k, i ≤ N → I i x y w → (∀ x' y' w', i < N → I (i + 1) x' y' w' → k x' y' w') → step J x y w k) : wL2 x0 y0 w0 step := by
  refine ⟨fun n x y w => ∃ i, i ≤ N ∧ n = N - i ∧ I i x y w, ⟨N, 0, Nat.zero_le _, rfl, h0⟩, ?_⟩
  rintro n J x y w ⟨i, hi, rfl, hI⟩
  exact hs i J x y w _ hi hI fun x' y' w' hlt hI' => ⟨N - (i + 1), by omega, i + 1, by omega, rfl, hI'⟩
theorem loop_up3 {w0 : World} {x0 y0 z0 : Value} {step : Env → Value → Value → Value → World → (Value → Value → Value → World → Prop) → Prop} (N : Nat) (I : Nat → Value → Value → Value → World → Prop) (h0 : I 0 x0 y0 z0 w0)
    (hs : ∀ i J x y z w k, i ≤ N → I i x y z w → (∀ x' y' z' w', i < N → I (i + 1) x' y' z' w' → k x' y' z' w') → step J x y z w k) : wL3 x0 y0 z0 w0 step := by
  refine ⟨fun n x y z w => ∃ i, i ≤ N ∧ n = N - i ∧ I i x y z w, ⟨N, 0, Nat.zero_le _, rfl, h0⟩, ?_⟩
  rintro n J x y z w ⟨i, hi, rfl, hI⟩
  exact hs i J x y z w _ hi hI fun x' y' z' w' hlt hI' => ⟨N - (i + 1), by omega, i + 1, by omega, rfl, hI'⟩

/-! Numbers. -/
section nums
variable {P : Program} {t : TypeId} {w : World} {K : Value → World → Prop}
theorem bin_of {op : BinOp} {x y v : Value} (h : ∀ (c : Bool) (w' : World), (binS c op t x y).run P w' = .ok v w') : wBin P op t x y w K = K v w := by
  apply propext
  constructor
  · rintro ⟨v', hv', hk⟩
    have := (hv' true w).symm.trans (h true w)
    injection this with h1
    subst h1
    exact hk
  · exact fun hk => ⟨v, h, hk⟩
theorem bin_int {op : BinOp} {k : IntKind} {a b : Int} {v : Value} (h : binOp op t (.int k a) (.int k b) = pure v) : wBin P op t (.int k a) (.int k b) w K = K v w := by
  refine bin_of fun c w' => ?_
  have : (eqGuard op t (if c = true then .const (.int k a) else .tmp 0) (.tmp 0) (.int k a) (.int k b)) = pure () := by
    unfold eqGuard
    split <;> rfl
  unfold binS
  rw [this, h]
  rfl
theorem bin_addw (k : IntKind) (a b : Int) : wBin P .add t (.int k a) (.int k b) w K = K (.int k (k.wrap (a + b))) w := bin_int (by simp [binOp, Op.intArith])
theorem bin_subw (k : IntKind) (a b : Int) : wBin P .sub t (.int k a) (.int k b) w K = K (.int k (k.wrap (a - b))) w := bin_int (by simp [binOp, Op.intArith])
theorem bin_mulw (k : IntKind) (a b : Int) : wBin P .mul t (.int k a) (.int k b) w K = K (.int k (k.wrap (a * b))) w := bin_int (by simp [binOp, Op.intArith])
theorem bin_lss (k : IntKind) (a b : Int) : wBin P .lss t (.int k a) (.int k b) w K = K (.bool (decide (a < b))) w := bin_int (by simp [binOp, Op.intCmp])
theorem bin_leq (k : IntKind) (a b : Int) : wBin P .leq t (.int k a) (.int k b) w K = K (.bool (decide (a ≤ b))) w := bin_int (by simp [binOp, Op.intCmp])
theorem bin_gtr (k : IntKind) (a b : Int) : wBin P .gtr t (.int k a) (.int k b) w K = K (.bool (decide (b < a))) w := bin_int (by simp [binOp, Op.intCmp])
theorem bin_geq (k : IntKind) (a b : Int) : wBin P .geq t (.int k a) (.int k b) w K = K (.bool (decide (b ≤ a))) w := bin_int (by simp [binOp, Op.intCmp])
theorem bin_eql (k : IntKind) (a b : Int) : wBin P .eql t (.int k a) (.int k b) w K = K (.bool (decide (a = b))) w := bin_int (by simp [binOp, Op.intCmp]; rfl)
theorem bin_neq (k : IntKind) (a b : Int) : wBin P .neq t (.int k a) (.int k b) w K = K (.bool (decide (a ≠ b))) w := bin_int (by
  simp only [binOp, ne_eq, not_true_eq_false, if_false, Op.intCmp]
  congr 2
  by_cases h : a = b <;> simp [h])
theorem bin_add {a b : Int} (h : -9223372036854775808 ≤ a + b ∧ a + b ≤ 9223372036854775807) : wBin P .add t (.int .i64 a) (.int .i64 b) w K = K (.int .i64 (a + b)) w := by
  rw [bin_addw, IntWalk.i64_in _ h]
theorem bin_sub {a b : Int} (h : -9223372036854775808 ≤ a - b ∧ a - b ≤ 9223372036854775807) : wBin P .sub t (.int .i64 a) (.int .i64 b) w K = K (.int .i64 (a - b)) w := by
  rw [bin_subw, IntWalk.i64_in _ h]
theorem bin_mul {a b : Int} (h : -9223372036854775808 ≤ a * b ∧ a * b ≤ 9223372036854775807) : wBin P .mul t (.int .i64 a) (.int .i64 b) w K = K (.int .i64 (a * b)) w := by
  rw [bin_mulw, IntWalk.i64_in _ h]
theorem bin_shr {k yk : IntKind} {a b : Int} (h : 0 ≤ b) : wBin P .shr t (.int k a) (.int yk b) w K = K (.int k (a.fdiv (2 ^ (min b.toNat k.bits)))) w := by
  refine bin_of fun c w' => ?_
  have : (eqGuard .shr t (if c = true then .const (.int k a) else .tmp 0) (.tmp 0) (.int k a) (.int yk b)) = pure () := rfl
  unfold binS
  rw [this]
  simp only [binOp, Op.shift, if_neg (Int.not_lt.2 h)]
  rfl
theorem bin_shl {k yk : IntKind} {a b : Int} (h : 0 ≤ b) : wBin P .shl t (.int k a) (.int yk b) w K = K (.int k (k.wrap (a * 2 ^ (min b.toNat k.bits)))) w := by
  refine bin_of fun c w' => ?_
  have : (eqGuard .shl t (if c = true then .const (.int k a) else .tmp 0) (.tmp 0) (.int k a) (.int yk b)) = pure () := rfl
  unfold binS
  rw [this]
  simp only [binOp, Op.shift, if_neg (Int.not_lt.2 h)]
  rfl
theorem eqIn_bool (d : Nat) (a b : Bool) (ht : P.underlying t = some .bool) (w' : World) : (Op.equalIn (d + 1) t (.bool a) (.bool b)).run P w' = .ok (a == b) w' := by
  rw [Op.equalIn]
  unfold underlying program
  simp [Sem.run_bind, Sem.run, ht]
/-- '==' by what 'equal' comes to. -/
theorem bin_eq_of {x y : Value} {b : Bool} (hx : ∀ k n, x ≠ .int k n) (hf : ∀ k n, x ≠ .float k n) (hc : ∀ k n m, x ≠ .complex k n m) (hs : ∀ n, x ≠ .string n)
    (hg : ∀ (c : Bool) (w' : World), (eqGuard .eql t (if c = true then .const x else .tmp 0) (.tmp 0) x y).run P w' = .ok () w')
    (h : ∀ w', (Op.equal t x y).run P w' = .ok b w') : wBin P .eql t x y w K = K (.bool b) w := by
  refine bin_of fun c w' => ?_
  unfold binS
  rw [Sem.run_bind, hg c w']
  simp only [Result.andThen_ok]
  have : binOp .eql t x y = (do pure (.bool (← Op.equal t x y))) := by
    cases x <;> first | exact absurd rfl (hx _ _) | exact absurd rfl (hf _ _) | exact absurd rfl (hc _ _ _) | exact absurd rfl (hs _) | (cases y <;> rfl)
  rw [this, Sem.run_bind, h w']
  rfl
theorem bin_ne_of {x y : Value} {b : Bool} (hx : ∀ k n, x ≠ .int k n) (hf : ∀ k n, x ≠ .float k n) (hc : ∀ k n m, x ≠ .complex k n m) (hs : ∀ n, x ≠ .string n)
    (hg : ∀ (c : Bool) (w' : World), (eqGuard .neq t (if c = true then .const x else .tmp 0) (.tmp 0) x y).run P w' = .ok () w')
    (h : ∀ w', (Op.equal t x y).run P w' = .ok b w') : wBin P .neq t x y w K = K (.bool (!b)) w := by
  refine bin_of fun c w' => ?_
  unfold binS
  rw [Sem.run_bind, hg c w']
  simp only [Result.andThen_ok]
  have : binOp .neq t x y = (do pure (.bool (!(← Op.equal t x y)))) := by
    cases x <;> first | exact absurd rfl (hx _ _) | exact absurd rfl (hf _ _) | exact absurd rfl (hc _ _ _) | exact absurd rfl (hs _) | (cases y <;> rfl)
  rw [this, Sem.run_bind, h w']
  rfl
theorem bin_beql (a b : Bool) (ht : P.underlying t = some .bool) : wBin P .eql t (.bool a) (.bool b) w K = K (.bool (a == b)) w :=
  bin_eq_of (by simp) (by simp) (by simp) (by simp) (fun _ _ => rfl) (fun w' => eqIn_bool 9999 a b ht w')
theorem bin_bneq (a b : Bool) (ht : P.underlying t = some .bool) : wBin P .neq t (.bool a) (.bool b) w K = K (.bool (!(a == b))) w :=
  bin_ne_of (by simp) (by simp) (by simp) (by simp) (fun _ _ => rfl) (fun w' => eqIn_bool 9999 a b ht w')
theorem un_not (b : Bool) : wUn P .not (.bool b) w K = K (.bool (!b)) w := pureW_eq (fun _ => rfl) w K
theorem un_neg {a : Int} (h : -9223372036854775808 ≤ -a ∧ -a ≤ 9223372036854775807) : wUn P .neg (.int .i64 a) w K = K (.int .i64 (-a)) w := by
  refine (pureW_eq (v := .int .i64 (IntKind.i64.wrap (0 - a))) (fun _ => rfl) w K).trans ?_
  rw [IntWalk.i64_in _ (by omega), Int.zero_sub]
theorem nil_ptr (a : Addr) : wNil P (.pointer (some a)) w K = K (.pointer (some a)) w := pureW_eq (fun _ => rfl) w K
theorem nil_func (f : FuncId) (x y : Array Value) : wNil P (.func (.func f) x y) w K = K (.func (.func f) x y) w := pureW_eq (fun _ => rfl) w K
theorem ext_0 (a : Value) (l : List Value) : wExtract P (.tuple ⟨a :: l⟩) 0 w K = K a w := pureW_eq (fun _ => rfl) w K
theorem ext_1 (a b : Value) (l : List Value) : wExtract P (.tuple ⟨a :: b :: l⟩) 1 w K = K b w := pureW_eq (fun _ => rfl) w K
theorem ext_2 (a b c : Value) (l : List Value) : wExtract P (.tuple ⟨a :: b :: c :: l⟩) 2 w K = K c w := pureW_eq (fun _ => rfl) w K
theorem ext_3 (a b c d : Value) (l : List Value) : wExtract P (.tuple ⟨a :: b :: c :: d :: l⟩) 3 w K = K d w := pureW_eq (fun _ => rfl) w K
theorem max_i (k : IntKind) (a b : Int) (ts : Array TypeId) : wLen P .max ts [.int k a, .int k b] w K = K (.int k (max a b)) w := by
  refine (pureW_eq (v := .int k (if b > a then b else a)) (fun _ => rfl) w K).trans ?_
  congr 2
  split <;> omega
theorem min_i (k : IntKind) (a b : Int) (ts : Array TypeId) : wLen P .min ts [.int k a, .int k b] w K = K (.int k (min a b)) w := by
  refine (pureW_eq (v := .int k (if b < a then b else a)) (fun _ => rfl) w K).trans ?_
  congr 2
  split <;> omega
theorem len_s {e : TypeId} (ht : P.underlying t = some (.slice e)) (A : Option Addr) (n c : Nat) : wLen P .len #[t] [.slice A n c] w K = K (.int .i64 n) w := by
  refine pureW_eq (fun w' => ?_) w K
  simp [lenS, Builtin.len_, underlying, program, Sem.run_bind, Sem.run, ht, goInt]
theorem cap_s {e : TypeId} (ht : P.underlying t = some (.slice e)) (A : Option Addr) (n c : Nat) : wLen P .cap #[t] [.slice A n c] w K = K (.int .i64 c) w := by
  refine pureW_eq (fun w' => ?_) w K
  simp [lenS, Builtin.cap_, underlying, program, Sem.run_bind, Sem.run, ht, goInt]
end nums
end Go.Dn
end
section
/-! Memory. -/
set_option linter.unusedVariables false
set_option linter.unusedSimpArgs false
namespace Go.Dn
open Go Go.RowKit
attribute [local semireducible] wCall wCallV wInvoke callW wNext wLoad wStore wBox wAlloc wBuild wBuildS wBin wBinF wUn wConv wIface wFunc wMakeMap wMake wSlice wFieldA wField wIndexA wIndex wLookup wMapSet wExtract wLen wBuiltin wRange wNextI wEntry wNil wOther wKeep

/-- All blocks of w but those in S are in w' as they were; nothing else of the world has turned (draws apart). -/
structure Ex (S : List Nat) (w w' : World) : Prop where
  os : w'.os = w.os
  tape : w'.tape = w.tape
  output : w'.output = w.output
  size : w.heap.size ≤ w'.heap.size
  block : ∀ k, k < w.heap.size → k ∉ S → w'.heap[k]? = w.heap[k]?
theorem Ex.refl (S : List Nat) (w : World) : Ex S w w := ⟨rfl, rfl, rfl, Nat.le_refl _, fun _ _ _ => rfl⟩
theorem Ex.trans {S : List Nat} {a b c : World} (h : Ex S a b) (k : Ex S b c) : Ex S a c :=
  ⟨k.os.trans h.os, k.tape.trans h.tape, k.output.trans h.output, Nat.le_trans h.size k.size, fun i hi hs => (k.block i (Nat.lt_of_lt_of_le hi h.size) hs).trans (h.block i hi hs)⟩
theorem Ex.mono {S S' : List Nat} {a b : World} (h : Ex S a b) (hs : ∀ x ∈ S, x < a.heap.size → x ∈ S') : Ex S' a b :=
  ⟨h.os, h.tape, h.output, h.size, fun i hi hn => h.block i hi fun hm => hn (hs i hm hi)⟩
/-- What was written was new, or was S'. -/
theorem Ex.step {S S' : List Nat} {a b c : World} (h : Ex S a b) (k : Ex S' b c) (hs : ∀ x ∈ S', x ∈ S ∨ a.heap.size ≤ x) : Ex S a c :=
  ⟨k.os.trans h.os, k.tape.trans h.tape, k.output.trans h.output, Nat.le_trans h.size k.size, fun i hi hn =>
    (k.block i (Nat.lt_of_lt_of_le hi h.size) fun hm => (hs i hm).elim hn fun h => by omega).trans (h.block i hi hn)⟩
theorem Ex.drew {S : List Nat} {a b : World} (h : Ex S a b) : Ex S a b.drew := ⟨h.os, h.tape, h.output, h.size, h.block⟩
theorem Ex.below {S : List Nat} {a b : World} (h : Ex S a b) (hs : ∀ x ∈ S, a.heap.size ≤ x) : Below a.heap.size a b :=
  ⟨h.os, h.tape, h.output, h.size, fun k hk => h.block k hk fun hm => by have := hs k hm; omega⟩
theorem Ex.of_below {a b : World} (h : Below a.heap.size a b) : Ex [] a b := ⟨h.os, h.tape, h.output, h.size, fun k hk _ => h.block k hk⟩
theorem Ex.alloc (w : World) (o : Obj) : Ex [] w (w.alloc o) := ⟨rfl, rfl, rfl, by simp, fun k hk _ => Below.heap_alloc w o k hk⟩

/-- A block of cells that may be written. -/
def Blk (w : World) (g : Nat) (t : TypeId) (cs : List Value) : Prop := w.heap[g]? = some (.cells ⟨cs⟩ t (0, 0))
theorem Blk.lt {w : World} {g : Nat} {t : TypeId} {cs : List Value} (h : Blk w g t cs) : g < w.heap.size := (Array.getElem?_eq_some_iff.1 h).1
theorem Blk.ex {S : List Nat} {w w' : World} {g : Nat} {t : TypeId} {cs : List Value} (h : Blk w g t cs) (hx : Ex S w w') (hg : g ∉ S) : Blk w' g t cs := (hx.block g h.lt hg).trans h
theorem Blk.drew {w : World} {g : Nat} {t : TypeId} {cs : List Value} (h : Blk w g t cs) : Blk w.drew g t cs := h
theorem Blk.ne {w : World} {g g' : Nat} {t t' : TypeId} {cs cs' : List Value} (h : Blk w g t cs) (h' : Blk w g' t' cs') (hne : t ≠ t') : g ≠ g' := by
  rintro rfl
  unfold Blk at h h'
  rw [h] at h'
  injection h' with h'
  injection h' with _ ht
  exact hne ht
theorem Blk.eq {w : World} {g : Nat} {t t' : TypeId} {cs cs' : List Value} (h : Blk w g t cs) (h' : Blk w g t' cs') : cs = cs' := by
  unfold Blk at h h'
  rw [h] at h'
  injection h' with h'
  injection h' with h1 _
  injection h1

/-- From an address on the cells hold these. -/
def Cs (w : World) (b o : Nat) (xs : List Value) : Prop := ∀ i v, xs[i]? = some v → w.cell? ⟨b, o + i, none⟩ = some v
theorem Cs.nil (w : World) (b o : Nat) : Cs w b o [] := fun i v h => by simp at h
theorem Blk.cell {w : World} {g : Nat} {t : TypeId} {cs : List Value} (h : Blk w g t cs) (i : Nat) : w.cell? ⟨g, i, none⟩ = cs[i]? := by
  unfold Blk at h
  simp [World.cell?, h]
theorem Blk.cs {w : World} {g : Nat} {t : TypeId} {cs : List Value} (h : Blk w g t cs) (o n : Nat) : Cs w g o ((cs.drop o).take n) := by
  intro i v hv
  rw [h.cell]
  rw [List.getElem?_take] at hv
  split at hv
  · rw [List.getElem?_drop] at hv; exact hv
  · cases hv
theorem Cs.lt {w : World} {b o : Nat} {xs : List Value} (h : Cs w b o xs) (hx : xs ≠ []) : b < w.heap.size := by
  cases xs with
  | nil => exact absurd rfl hx
  | cons x xs => exact World.block_lt_of_cell? w _ (h 0 x rfl)
theorem Cs.ex {S : List Nat} {w w' : World} {b o : Nat} {xs : List Value} (h : Cs w b o xs) (hx : Ex S w w') (hb : b ∉ S) : Cs w' b o xs := by
  intro i v hv
  have h1 := h i v hv
  have := World.block_lt_of_cell? w _ h1
  rw [World.cell?_of_block (hx.block b this hb)]
  exact h1
theorem Cs.drew {w : World} {b o : Nat} {xs : List Value} (h : Cs w b o xs) : Cs w.drew b o xs := h
theorem Cs.sub {w : World} {b o : Nat} {xs : List Value} (h : Cs w b o xs) (i n : Nat) : Cs w b (o + i) ((xs.drop i).take n) := by
  intro j v hv
  rw [List.getElem?_take] at hv
  split at hv
  · rw [List.getElem?_drop] at hv
    have := h (i + j) v hv
    rw [Nat.add_assoc]; exact this
  · cases hv
theorem Cs.get {w : World} {b o : Nat} {xs : List Value} (h : Cs w b o xs) {i : Nat} {v : Value} (hv : xs[i]? = some v) : w.cell? ⟨b, o + i, none⟩ = some v := h i v hv
theorem Cs.append {w : World} {b o : Nat} {xs ys : List Value} (h : Cs w b o xs) (h' : Cs w b (o + xs.length) ys) : Cs w b o (xs ++ ys) := by
  intro i v hv
  rw [List.getElem?_append] at hv
  split at hv
  · exact h i v hv
  · have := h' _ v hv
    rw [Nat.add_assoc] at this
    rwa [show xs.length + (i - xs.length) = i by omega] at this

/-! Types. -/
def oneT (P : Program) (t : TypeId) : Bool :=
  match P.underlying t with
  | some (.struct _) => false
  | some (.array _ _) => false
  | some _ => (match P.info? t with
    | some i => Nat.beq i.size 1
    | none => false)
  | none => false
def aggT (P : Program) (t : TypeId) (n : Nat) : Bool :=
  match P.underlying t with
  | some (.struct _) | some (.array _ _) => (match P.info? t with
    | some i => Nat.beq i.size n
    | none => false)
  | _ => false
def zeroT (P : Program) (t : TypeId) : Option Value :=
  match P.info? t with
  | some i => i.zero
  | none => none
def sizeT (P : Program) (t : TypeId) : Nat :=
  match P.info? t with
  | some i => i.size
  | none => 0
section mem
variable {P : Program} {t : TypeId} {w : World} {K : Value → World → Prop}
theorem isAgg_one (hT : oneT P t = true) (w : World) : (isAgg t).run P w = .ok false w := by
  unfold oneT at hT
  unfold isAgg underlying program
  cases hu : P.underlying t with
  | none => rw [hu] at hT; cases hT
  | some d => cases d <;> first | (rw [hu] at hT; cases hT; done) | simp [Sem.run_bind, Sem.run, hu]
theorem isAgg_agg {n : Nat} (hT : aggT P t n = true) (w : World) : (isAgg t).run P w = .ok true w := by
  unfold aggT at hT
  unfold isAgg underlying program
  cases hu : P.underlying t with
  | none => rw [hu] at hT; cases hT
  | some d => cases d <;> first | (rw [hu] at hT; cases hT; done) | simp [Sem.run_bind, Sem.run, hu]
theorem sizeOf_run {i : TypeInfo} (hi : P.info? t = some i) (w : World) : (sizeOf t).run P w = .ok i.size w := by
  unfold sizeOf typeInfo program
  simp [Sem.run_bind, Sem.run, hi]
theorem sizeOf_agg {n : Nat} (hT : aggT P t n = true) (w : World) : (sizeOf t).run P w = .ok n w := by
  unfold aggT at hT
  split at hT
  · split at hT
    · rename_i i hi; rw [sizeOf_run hi, Nat.eq_of_beq_eq_true hT]
    · cases hT
  · split at hT
    · rename_i i hi; rw [sizeOf_run hi, Nat.eq_of_beq_eq_true hT]
    · cases hT
  · cases hT
theorem sizeOf_one (hT : oneT P t = true) (w : World) : (sizeOf t).run P w = .ok 1 w := by
  unfold oneT at hT
  split at hT
  · cases hT
  · cases hT
  · split at hT
    · rename_i i hi; rw [sizeOf_run hi, Nat.eq_of_beq_eq_true hT]
    · cases hT
  · cases hT
theorem load_run {a : Addr} {v : Value} (h : w.cell? a = some v) : (load a).run P w = .ok v w := by
  unfold load
  simp only [Sem.run, h]
theorem loadAt_one (hT : oneT P t = true) {a : Addr} {v : Value} (h : w.cell? a = some v) : (Instr.loadAt t (.pointer (some a))).run P w = .ok v w := by
  unfold Instr.loadAt loadVar
  simp only [Instr.sureAddr, Sem.run_bind, Sem.run_pure, Result.andThen_ok, isAgg_one hT, Bool.false_eq_true, if_false]
  exact load_run h
theorem loadCells_run {b : Nat} : ∀ (xs : List Value) (o i : Nat) (acc : Array Value), Cs w b (o + i) xs → (loadCellsFrom ⟨b, o, none⟩ i xs.length acc).run P w = .ok (acc ++ (⟨xs⟩ : Array Value)) w
  | [], o, i, acc, _ => by simp [loadCellsFrom]
  | x :: xs, o, i, acc, h => by
    have h0 : w.cell? ((⟨b, o, none⟩ : Addr).add i) = some x := by
      have := h 0 x rfl
      unfold Addr.add
      split
      · rename_i hi; subst hi; exact this
      · exact this
    have ih := loadCells_run xs o (i + 1) (acc.push x) (fun j v hv => by have := h (j + 1) v hv; rwa [show o + i + (j + 1) = o + (i + 1) + j by omega] at this)
    simp only [List.length_cons, loadCellsFrom, Sem.run_bind, load_run h0, Result.andThen_ok]
    rw [ih]
    congr 1
    apply Array.toList_inj.1
    simp
theorem loadAt_agg {n b o : Nat} {xs : List Value} (hT : aggT P t n = true) (h : Cs w b o xs) (hl : xs.length = n) : (Instr.loadAt t (.pointer (some ⟨b, o, none⟩))).run P w = .ok (.agg ⟨xs⟩) w := by
  unfold Instr.loadAt loadVar
  simp only [Instr.sureAddr, Sem.run_bind, Sem.run_pure, Result.andThen_ok, isAgg_agg hT, if_true, sizeOf_agg hT]
  have := loadCells_run (P := P) xs o 0 #[] (by simpa using h)
  rw [hl] at this
  unfold loadCells
  rw [this]
  simp
theorem ld_one (hT : oneT P t = true) {a : Addr} {v : Value} (h : w.cell? a = some v) : wLoad P t (.pointer (some a)) w K = K v w := by
  unfold wLoad runW
  rw [loadAt_one hT h]
theorem ld_agg {n b o : Nat} {xs : List Value} (hT : aggT P t n = true) (h : Cs w b o xs) (hl : xs.length = n) : wLoad P t (.pointer (some ⟨b, o, none⟩)) w K = K (.agg ⟨xs⟩) w := by
  unfold wLoad runW
  rw [loadAt_agg hT h hl]
theorem keep_nil : wKeep P [] w := fun x hx => by simp at hx
theorem keep_cons {x : TypeId × Value × Value} {l : List (TypeId × Value × Value)} (h : (Instr.loadAt x.1 x.2.1).run P w = .ok x.2.2 w) (hl : wKeep P l w) : wKeep P (x :: l) w := by
  intro y hy
  rcases List.mem_cons.1 hy with rfl | hy
  · exact h
  · exact hl y hy

/-! Stores. -/
def isC (v : Value) : Bool :=
  match v with
  | .agg _ => false
  | .tuple _ => false
  | _ => true
theorem isC_cells {v : Value} (h : isC v = true) : v.cells = #[v] := by cases v <;> first | rfl | cases h
def splice (cs : List Value) (o : Nat) (vs : List Value) : List Value := cs.take o ++ vs ++ cs.drop (o + vs.length)
theorem splice_length {cs vs : List Value} {o : Nat} (h : o + vs.length ≤ cs.length) : (splice cs o vs).length = cs.length := by
  simp [splice]; omega
theorem blk_set {g : Nat} {cs : List Value} (h : Blk w g t cs) (o : Nat) (v : Value) : Blk (w.setCell ⟨g, o, none⟩ v) g t (cs.set o v) := by
  unfold Blk at h ⊢
  simp only [World.setCell, Array.getElem?_modify, h]
  simp
theorem ex_set {g : Nat} {o : Nat} {v : Value} : Ex [g] w (w.setCell ⟨g, o, none⟩ v) :=
  ⟨rfl, rfl, rfl, by simp [World.setCell], fun k _ hn => Below.heap_setCell _ _ _ _ (by simpa using hn)⟩
theorem store_run {g o : Nat} {cs : List Value} (h : Blk w g t cs) (ho : o < cs.length) {v : Value} (hv : isC v = true) : (store ⟨g, o, none⟩ v).run P w = .ok () (w.setCell ⟨g, o, none⟩ v) := by
  have hc : w.cell? ⟨g, o, none⟩ = some cs[o] := by rw [h.cell]; simp [ho]
  have hf : w.frozen? ⟨g, o, none⟩ = false := by
    unfold Blk at h
    simp [World.frozen?, h]
  unfold store
  cases v <;> first | (cases hv; done) | simp [Sem.run, hc, hf]
theorem storeCells_run {g : Nat} {t : TypeId} : ∀ (vs cs : List Value) (o i : Nat) (w : World), Blk w g t cs → o + i + vs.length ≤ cs.length → (∀ v ∈ vs, isC v = true) →
    ∃ w', (storeCells ⟨g, o, none⟩ vs i).run P w = .ok () w' ∧ Ex [g] w w' ∧ Blk w' g t (splice cs (o + i) vs)
  | [], cs, o, i, w, h, _, _ => ⟨w, rfl, Ex.refl _ _, by simpa [splice] using h⟩
  | v :: vs, cs, o, i, w, h, hl, hv => by
    have hl' : o + i < cs.length := by simp at hl; omega
    have e0 : (⟨g, o, none⟩ : Addr).add i = ⟨g, o + i, none⟩ := by
      unfold Addr.add
      split
      · rename_i hi; subst hi; rfl
      · rfl
    have h1 := store_run (P := P) h hl' (hv v (List.mem_cons_self ..))
    obtain ⟨w', hr, hx, hb⟩ := storeCells_run vs (cs.set (o + i) v) o (i + 1) _ (blk_set h (o + i) v) (by simp at hl ⊢; omega) (fun u hu => hv u (List.mem_cons_of_mem _ hu))
    refine ⟨w', ?_, ex_set.trans hx, ?_⟩
    · simp only [storeCells, Sem.run_bind, e0, h1, Result.andThen_ok]
      exact hr
    · have : splice (cs.set (o + i) v) (o + (i + 1)) vs = splice cs (o + i) (v :: vs) := by
        unfold splice
        have e : o + (i + 1) + vs.length = o + i + (v :: vs).length := by simp; omega
        rw [e, ← Nat.add_assoc, List.take_succ_eq_append_getElem (by simp; omega), List.take_set_of_le (Nat.le_refl _), List.drop_set_of_lt (by simp)]
        simp
      rw [this] at hb
      exact hb
theorem st_run {P : Program} {w : World} {g o n : Nat} {t u : TypeId} {cs vs : List Value} {x : Value} (hs : ∀ w, (sizeOf t).run P w = .ok n w) (hx : x.cells = ⟨vs⟩) (hl : vs.length = n) (hc : ∀ v ∈ vs, isC v = true) (h : Blk w g u cs) (ho : o + n ≤ cs.length) :
    ∃ w', (Instr.storeAt t (.pointer (some ⟨g, o, none⟩)) x).run P w = .ok () w' ∧ Ex [g] w w' ∧ Blk w' g u (splice cs o vs) := by
  obtain ⟨w', h1, h2, h3⟩ := storeCells_run (P := P) vs cs o 0 w h (by omega) hc
  refine ⟨w', ?_, h2, by simpa using h3⟩
  unfold Instr.storeAt storeVar
  simp only [Instr.sureAddr, Sem.run_bind, Sem.run_pure, Result.andThen_ok, hs, hx]
  rw [if_neg (by simp [hl])]
  exact h1
theorem st_one {k : World → Prop} {g o : Nat} {u : TypeId} {cs : List Value} {x : Value} (hT : oneT P t = true) (hx : isC x = true) (h : Blk w g u cs) (ho : o < cs.length)
    (hk : ∀ w', Ex [g] w w' → Blk w' g u (cs.set o x) → k w') : wStore P t (.pointer (some ⟨g, o, none⟩)) x w k := by
  obtain ⟨w', h1, h2, h3⟩ := st_run (P := P) (n := 1) (o := o) (vs := [x]) (sizeOf_one hT) (isC_cells hx) rfl (by simpa using hx) h (by omega)
  unfold wStore runU
  rw [h1]
  refine hk w' h2 ?_
  have : splice cs o [x] = cs.set o x := by
    unfold splice
    rw [List.set_eq_take_append_cons_drop, if_pos ho]
    simp
  rw [this] at h3
  exact h3
theorem st_agg {k : World → Prop} {g o n : Nat} {u : TypeId} {cs vs : List Value} (hT : aggT P t n = true) (hl : vs.length = n) (hc : ∀ v ∈ vs, isC v = true) (h : Blk w g u cs) (ho : o + n ≤ cs.length)
    (hk : ∀ w', Ex [g] w w' → Blk w' g u (splice cs o vs) → k w') : wStore P t (.pointer (some ⟨g, o, none⟩)) (.agg ⟨vs⟩) w k := by
  obtain ⟨w', h1, h2, h3⟩ := st_run (P := P) (n := n) (o := o) (x := .agg ⟨vs⟩) (sizeOf_agg hT) rfl hl hc h ho
  unfold wStore runU
  rw [h1]
  exact hk w' h2 h3

/-! New blocks. -/
theorem newRow_run (e : TypeId) (cs : List Value) (w : World) : (newRow e ⟨cs⟩).run P w = .ok ⟨w.heap.size, 0, none⟩ (w.alloc (.cells ⟨cs⟩ e)) := by
  unfold newRow newObj
  rfl
theorem blk_new (w : World) (e : TypeId) (cs : List Value) : Blk (w.alloc (.cells ⟨cs⟩ e)) w.heap.size e cs := by
  unfold Blk World.alloc
  simp
theorem box_run {x : Value} {vs : List Value} (hx : x.cells = ⟨vs⟩) (w : World) : (Instr.box t x).run P w = .ok (.pointer (some ⟨w.heap.size, 0, none⟩)) (w.alloc (.cells ⟨vs⟩ t)) := by
  unfold Instr.box newVar
  rw [hx, Sem.run_bind, newRow_run]
  rfl
theorem box_i {x : Value} {vs : List Value} (hx : x.cells = ⟨vs⟩) (hk : ∀ w' g, g = w.heap.size → Ex [] w w' → Blk w' g t vs → K (.pointer (some ⟨g, 0, none⟩)) w') : wBox P t x w K := by
  unfold wBox runW
  rw [box_run hx]
  exact hk _ _ rfl (Ex.alloc _ _) (blk_new _ _ _)
theorem zero_run {z : Value} (hz : zeroT P t = some z) (w : World) : (zeroValue t).run P w = .ok z w := by
  unfold zeroT at hz
  unfold zeroValue typeInfo program
  split at hz
  · rename_i i hi
    simp [Sem.run_bind, Sem.run, hi, hz]
  · cases hz
theorem alloc_i {z : Value} {vs : List Value} (hz : zeroT P t = some z) (hx : z.cells = ⟨vs⟩) (hk : ∀ w' g, g = w.heap.size → Ex [] w w' → Blk w' g t vs → K (.pointer (some ⟨g, 0, none⟩)) w') : wAlloc P t w K := by
  unfold wAlloc runW Instr.alloc
  rw [Sem.run_bind, zero_run hz]
  simp only [Result.andThen_ok]
  unfold newVar
  rw [hx, Sem.run_bind, newRow_run]
  exact hk _ _ rfl (Ex.alloc _ _) (blk_new _ _ _)
end mem
end Go.Dn
end
section
/-! Addresses, slices, appends. -/
set_option linter.unusedVariables false
set_option linter.unusedSimpArgs false
namespace Go.Dn
open Go Go.RowKit
attribute [local semireducible] wCall wCallV wInvoke callW wNext wLoad wStore wBox wAlloc wBuild wBuildS wBin wBinF wUn wConv wIface wFunc wMakeMap wMake wSlice wFieldA wField wIndexA wIndex wLookup wMapSet wExtract wLen wBuiltin wRange wNextI wEntry wNil wOther wKeep

theorem add_pl (b o n : Nat) : (⟨b, o, none⟩ : Addr).add n = ⟨b, o + n, none⟩ := by
  unfold Addr.add
  split
  · rename_i h; subst h; rfl
  · rfl
def fldT (P : Program) (s : TypeId) (f : Nat) : Option Nat :=
  match P.underlying s with
  | some (.struct fs) => (match fs[f]? with
    | some fl => (match P.info? fl.type with
      | some i => bif Nat.beq i.size 0 then none else some fl.offset
      | none => none)
    | none => none)
  | _ => none
def slT (P : Program) (t : TypeId) : Option Nat :=
  match P.underlying t with
  | some (.slice e) => (match P.info? e with
    | some i => some i.size
    | none => none)
  | _ => none
def arT (P : Program) (t : TypeId) : Option (Nat × Nat) :=
  match P.underlying t with
  | some (.array n e) => (match P.info? e with
    | some i => bif Nat.ble n 1 then none else some (n, i.size)
    | none => none)
  | _ => none
section addrs
variable {P : Program} {t : TypeId} {w : World} {K : Value → World → Prop}
theorem und_run {d : TypeDesc} (h : P.underlying t = some d) (w : World) : (underlying t).run P w = .ok d w := by
  unfold underlying program
  simp [Sem.run_bind, Sem.run, h]
theorem fieldA_i {f off b o : Nat} (h : fldT P t f = some off) : wFieldA P t (.pointer (some ⟨b, o, none⟩)) f w K = K (.pointer (some ⟨b, o + off, none⟩)) w := by
  refine pureW_eq (fun w' => ?_) w K
  unfold fldT at h
  split at h
  · rename_i fs hu
    split at h
    · rename_i fl hf
      split at h
      · rename_i i hi
        cases hz : Nat.beq i.size 0
        · rw [hz] at h
          simp only [cond_false, Option.some.injEq] at h
          subst h
          unfold Instr.fieldAt fieldPlace
          simp only [Sem.run_bind, und_run hu, Result.andThen_ok, hf, Instr.sureAddr, Sem.run_pure, sizeOf_run hi]
          have : ¬ i.size = 0 := fun h0 => by rw [h0] at hz; cases hz
          rw [if_neg this, add_pl]
          rfl
        · rw [hz] at h; cases h
      · cases h
    · cases h
  · cases h
theorem indexS_i {size b o n c : Nat} {i : Int} {k : IntKind} (h : slT P t = some size) (h0 : 0 ≤ i) (h1 : i < n) :
    wIndexA P t (.slice (some ⟨b, o, none⟩) n c) (.int k i) w K = K (.pointer (some ⟨b, o + i.toNat * size, none⟩)) w := by
  refine pureW_eq (fun w' => ?_) w K
  unfold slT at h
  split at h
  · rename_i e hu
    split at h
    · rename_i inf hi
      injection h with h
      subst h
      unfold Instr.indexAt
      simp only [Sem.run_bind, asIntOf, Sem.run_pure, Result.andThen_ok, und_run hu]
      rw [if_pos ⟨h0, h1⟩]
      simp only [Sem.run_bind, sizeOf_run hi, Result.andThen_ok, add_pl]
      rfl
    · cases h
  · cases h
theorem indexA_i {len size b o : Nat} {i : Int} {k : IntKind} (h : arT P t = some (len, size)) (h0 : 0 ≤ i) (h1 : i < len) :
    wIndexA P t (.pointer (some ⟨b, o, none⟩)) (.int k i) w K = K (.pointer (some ⟨b, o + i.toNat * size, none⟩)) w := by
  refine pureW_eq (fun w' => ?_) w K
  unfold arT at h
  split at h
  · rename_i n e hu
    split at h
    · rename_i inf hi
      cases hn : Nat.ble n 1
      · rw [hn] at h
        simp only [cond_false, Option.some.injEq, Prod.mk.injEq] at h
        obtain ⟨rfl, rfl⟩ := h
        unfold Instr.indexAt
        simp only [Sem.run_bind, asIntOf, Sem.run_pure, Result.andThen_ok, und_run hu, Instr.sureAddr]
        rw [if_pos ⟨h0, h1⟩]
        simp only [Sem.run_bind, sizeOf_run hi, Result.andThen_ok, add_pl]
        rfl
      · rw [hn] at h; cases h
    · cases h
  · cases h

/-- A slice (of elements of 'size' cells) whose cells are xs. -/
def SlG (w : World) (size : Nat) (v : Value) (xs : List Value) : Prop :=
  ∃ A n c, v = .slice A n c ∧ xs.length = n * size ∧ n ≤ c ∧ (n ≠ 0 → ∃ b o, A = some ⟨b, o, none⟩ ∧ Cs w b o xs)
theorem SlG.nil (w : World) (size : Nat) : SlG w size (.slice none 0 0) [] := ⟨none, 0, 0, rfl, by simp, Nat.le_refl _, fun h => absurd rfl h⟩
theorem SlG.ex {S : List Nat} {w w' : World} {size : Nat} {v : Value} {xs : List Value} (h : SlG w size v xs) (hx : Ex S w w') (hs : ∀ g, v.ownBlock = some g → g ∉ S) : SlG w' size v xs := by
  obtain ⟨A, n, c, rfl, hl, hc, hr⟩ := h
  refine ⟨A, n, c, rfl, hl, hc, fun hn => ?_⟩
  obtain ⟨b, o, rfl, hcs⟩ := hr hn
  exact ⟨b, o, rfl, hcs.ex hx (hs b rfl)⟩
theorem SlG.ex0 {w w' : World} {size : Nat} {v : Value} {xs : List Value} (h : SlG w size v xs) (hx : Ex [] w w') : SlG w' size v xs := h.ex hx (by simp)
theorem SlG.drew {w : World} {size : Nat} {v : Value} {xs : List Value} (h : SlG w size v xs) : SlG w.drew size v xs := h
theorem SlG.of_cs {w : World} {b o n c size : Nat} {xs : List Value} (h : Cs w b o xs) (hl : xs.length = n * size) (hc : n ≤ c) : SlG w size (.slice (some ⟨b, o, none⟩) n c) xs :=
  ⟨_, n, c, rfl, hl, hc, fun _ => ⟨b, o, rfl, h⟩⟩
theorem SlG.of_own {w : World} {base size n : Nat} {e : TypeId} {v : Value} {xs : List Value} (h : w.ownsRow base e size v n xs) : SlG w size v xs := by
  obtain ⟨hl, h⟩ := h
  rcases h with ⟨rfl, rfl⟩ | ⟨g, cap, cur, rfl, _, hh, hnc, _, _, htk⟩
  · have : xs = [] := List.eq_nil_of_length_eq_zero (by simpa using hl)
    subst this
    exact SlG.nil w size
  · refine SlG.of_cs (fun i v hv => ?_) hl hnc
    have hb : Blk w g e cur.toList := hh
    rw [Nat.zero_add, hb.cell, ← htk, List.getElem?_take] at *
    split at hv
    · exact hv
    · cases hv
theorem SlG.len_i {w : World} {K : Value → World → Prop} {e : TypeId} {size : Nat} {v : Value} {xs : List Value} {n : Nat} (h : SlG w size v xs) (ht : P.underlying t = some (.slice e)) (hs : 0 < size) (hn : xs.length = n * size) :
    wLen P .len #[t] [v] w K = K (.int .i64 n) w := by
  obtain ⟨A, m, c, rfl, hl, _, _⟩ := h
  rw [len_s ht]
  have : m = n := Nat.eq_of_mul_eq_mul_right hs (hl.symm.trans hn)
  rw [this]
theorem SlG.ix {size : Nat} {v : Value} {xs : List Value} {i : Int} {k : IntKind} {n : Nat} (h : SlG w size v xs) (ht : slT P t = some size) (hs : 0 < size) (hn : xs.length = n * size) (h0 : 0 ≤ i) (h1 : i < n)
    (hk : ∀ b o, Cs w b o ((xs.drop (i.toNat * size)).take size) → K (.pointer (some ⟨b, o, none⟩)) w) : wIndexA P t v (.int k i) w K := by
  obtain ⟨A, m, c, rfl, hl, _, hr⟩ := h
  have : m = n := Nat.eq_of_mul_eq_mul_right hs (hl.symm.trans hn)
  subst this
  obtain ⟨b, o, rfl, hc⟩ := hr (by omega)
  rw [indexS_i ht h0 h1]
  exact hk _ _ (hc.sub _ _)
/-- Of elements of one cell. -/
theorem SlG.ix1 {v : Value} {xs : List Value} {i : Int} {k : IntKind} {x : Value} (h : SlG w 1 v xs) (ht : slT P t = some 1) (h0 : 0 ≤ i) (hx : xs[i.toNat]? = some x)
    (hk : ∀ a, w.cell? a = some x → K (.pointer (some a)) w) : wIndexA P t v (.int k i) w K := by
  have hlt := (List.getElem?_eq_some_iff.1 hx).1
  refine h.ix (n := xs.length) ht (by omega) (by omega) h0 (by omega) fun b o hc => hk _ ?_
  refine hc 0 x ?_
  rw [List.getElem?_take, if_pos (by omega), List.getElem?_drop, Nat.mul_one]
  exact hx

/-! Slicing. -/
theorem bound_run {x : Int} {k : IntKind} {y : Nat} {c : BoundsCode} (h0 : 0 ≤ x) (h1 : x ≤ y) (w : World) : (Instr.sliceBound (.int k x) y c).run P w = .ok x.toNat w := by
  unfold Instr.sliceBound
  simp only [Sem.run_bind, asIntOf, Sem.run_pure, Result.andThen_ok]
  rw [if_pos ⟨h0, h1⟩]
  rfl
theorem sliceS_lo {size n c : Nat} {A : Option Addr} {i : Int} {k : IntKind} (h : slT P t = some size) (h0 : 0 ≤ i) (h1 : i ≤ n) :
    wSlice P t (.slice A n c) (some (.int k i)) none none w K = K (.slice (if c = i.toNat then A else A.map (·.add (i.toNat * size))) (n - i.toNat) (c - i.toNat)) w := by
  refine pureW_eq (fun w' => ?_) w K
  unfold slT at h
  split at h
  · rename_i e hu
    split at h
    · rename_i inf hi
      injection h with h
      subst h
      unfold Instr.sliceAt Instr.slice Instr.sliceBounds
      simp [Sem.run_bind, und_run hu, bound_run h0 h1, sizeOf_run hi]
    · cases h
  · cases h
theorem sliceS_hi {size n c : Nat} {A : Option Addr} {i : Int} {k : IntKind} (h : slT P t = some size) (h0 : 0 ≤ i) (h1 : i ≤ c) :
    wSlice P t (.slice A n c) none (some (.int k i)) none w K = K (.slice A i.toNat c) w := by
  refine pureW_eq (fun w' => ?_) w K
  unfold slT at h
  split at h
  · rename_i e hu
    split at h
    · rename_i inf hi
      unfold Instr.sliceAt Instr.slice Instr.sliceBounds
      simp only [Sem.run_bind, und_run hu, bound_run h0 h1, sizeOf_run hi, Result.andThen_ok, Sem.run_pure, Nat.sub_zero, Nat.zero_mul]
      congr 2
      split
      · rfl
      · cases A with
        | none => rfl
        | some a => simp [Addr.add]
    · cases h
  · cases h
theorem sliceS_lohi {size n c : Nat} {A : Option Addr} {i j : Int} {k k' : IntKind} (h : slT P t = some size) (h0 : 0 ≤ i) (h1 : i ≤ j) (h2 : j ≤ c) :
    wSlice P t (.slice A n c) (some (.int k i)) (some (.int k' j)) none w K = K (.slice (if c = i.toNat then A else A.map (·.add (i.toNat * size))) (j.toNat - i.toNat) (c - i.toNat)) w := by
  refine pureW_eq (fun w' => ?_) w K
  have hj : i ≤ (j.toNat : Int) := by omega
  unfold slT at h
  split at h
  · rename_i e hu
    split at h
    · rename_i inf hi
      injection h with h
      subst h
      unfold Instr.sliceAt Instr.slice Instr.sliceBounds
      simp [Sem.run_bind, und_run hu, bound_run (P := P) (Int.le_trans h0 h1) h2, bound_run (P := P) h0 hj, sizeOf_run hi]
    · cases h
  · cases h
theorem sliceA_all {len size b o : Nat} (h : arT P t = some (len, size)) : wSlice P t (.pointer (some ⟨b, o, none⟩)) none none none w K = K (.slice (some ⟨b, o, none⟩) len len) w := by
  refine pureW_eq (fun w' => ?_) w K
  unfold arT at h
  split at h
  · rename_i n e hu
    split at h
    · rename_i inf hi
      cases hn : Nat.ble n 1
      · rw [hn] at h
        simp only [cond_false, Option.some.injEq, Prod.mk.injEq] at h
        obtain ⟨rfl, rfl⟩ := h
        unfold Instr.sliceAt Instr.sliceBounds
        simp only [Sem.run_bind, und_run hu, Instr.sureAddr, Sem.run_pure, Result.andThen_ok, sizeOf_run hi, Nat.sub_zero, Nat.zero_mul]
        congr 3
        split <;> simp [Addr.add]
      · rw [hn] at h; cases h
    · cases h
  · cases h
theorem sliceA_hi {len size b o : Nat} {j : Int} {k : IntKind} (h : arT P t = some (len, size)) (h0 : 0 ≤ j) (h1 : j ≤ len) :
    wSlice P t (.pointer (some ⟨b, o, none⟩)) none (some (.int k j)) none w K = K (.slice (some ⟨b, o, none⟩) j.toNat len) w := by
  refine pureW_eq (fun w' => ?_) w K
  unfold arT at h
  split at h
  · rename_i n e hu
    split at h
    · rename_i inf hi
      cases hn : Nat.ble n 1
      · rw [hn] at h
        simp only [cond_false, Option.some.injEq, Prod.mk.injEq] at h
        obtain ⟨rfl, rfl⟩ := h
        unfold Instr.sliceAt Instr.sliceBounds
        simp only [Sem.run_bind, und_run hu, Instr.sureAddr, Sem.run_pure, Result.andThen_ok, bound_run (P := P) h0 h1, sizeOf_run hi, Nat.sub_zero, Nat.zero_mul]
        congr 3
        split <;> simp [Addr.add]
      · rw [hn] at h; cases h
    · cases h
  · cases h
theorem sliceA_lo {len size b o : Nat} {i : Int} {k : IntKind} (h : arT P t = some (len, size)) (h0 : 0 ≤ i) (h1 : i ≤ len) :
    wSlice P t (.pointer (some ⟨b, o, none⟩)) (some (.int k i)) none none w K = K (.slice (some ⟨b, if len = i.toNat then o else o + i.toNat * size, none⟩) (len - i.toNat) (len - i.toNat)) w := by
  refine pureW_eq (fun w' => ?_) w K
  unfold arT at h
  split at h
  · rename_i n e hu
    split at h
    · rename_i inf hi
      cases hn : Nat.ble n 1
      · rw [hn] at h
        simp only [cond_false, Option.some.injEq, Prod.mk.injEq] at h
        obtain ⟨rfl, rfl⟩ := h
        unfold Instr.sliceAt Instr.sliceBounds
        simp only [Sem.run_bind, und_run hu, Instr.sureAddr, Sem.run_pure, Result.andThen_ok, bound_run (P := P) h0 h1, sizeOf_run hi, add_pl]
        congr 3
        split <;> rfl
      · rw [hn] at h; cases h
    · cases h
  · cases h
theorem sliceA_lohi {len size b o : Nat} {i j : Int} {k k' : IntKind} (h : arT P t = some (len, size)) (h0 : 0 ≤ i) (h1 : i ≤ j) (h2 : j ≤ len) :
    wSlice P t (.pointer (some ⟨b, o, none⟩)) (some (.int k i)) (some (.int k' j)) none w K = K (.slice (some ⟨b, if len = i.toNat then o else o + i.toNat * size, none⟩) (j.toNat - i.toNat) (len - i.toNat)) w := by
  refine pureW_eq (fun w' => ?_) w K
  have hj : i ≤ (j.toNat : Int) := by omega
  unfold arT at h
  split at h
  · rename_i n e hu
    split at h
    · rename_i inf hi
      cases hn : Nat.ble n 1
      · rw [hn] at h
        simp only [cond_false, Option.some.injEq, Prod.mk.injEq] at h
        obtain ⟨rfl, rfl⟩ := h
        unfold Instr.sliceAt Instr.sliceBounds
        simp only [Sem.run_bind, und_run hu, Instr.sureAddr, Sem.run_pure, Result.andThen_ok, bound_run (P := P) (Int.le_trans h0 h1) h2, bound_run (P := P) h0 hj, sizeOf_run hi, add_pl]
        congr 3
        split <;> rfl
      · rw [hn] at h; cases h
    · cases h
  · cases h
theorem SlG.cut {size : Nat} {xs : List Value} {A : Option Addr} {n c i j : Nat} (h : SlG w size (.slice A n c) xs) (hij : i ≤ j) (hjn : j ≤ n) :
    SlG w size (.slice (if c = i then A else A.map (·.add (i * size))) (j - i) (c - i)) ((xs.drop (i * size)).take ((j - i) * size)) := by
  obtain ⟨A', n', c', e, hl, hc, hr⟩ := h
  injection e with e1 e2 e3
  subst e1; subst e2; subst e3
  have hle : j * size ≤ n * size := Nat.mul_le_mul_right _ hjn
  have hsub : (j - i) * size = j * size - i * size := Nat.sub_mul _ _ _
  refine ⟨_, _, _, rfl, ?_, by omega, fun hne => ?_⟩
  · rw [List.length_take, List.length_drop, hl, hsub]; omega
  · obtain ⟨b, o, rfl, hcs⟩ := hr (by omega)
    rw [if_neg (by omega)]
    exact ⟨b, o + i * size, by simp [add_pl], hcs.sub _ _⟩
end addrs
end Go.Dn
end
section
/-! What makes memory. -/
set_option linter.unusedVariables false
set_option linter.unusedSimpArgs false
namespace Go.Dn
open Go Go.RowKit
attribute [local semireducible] wCall wCallV wInvoke callW wNext wLoad wStore wBox wAlloc wBuild wBuildS wBin wBinF wUn wConv wIface wFunc wMakeMap wMake wSlice wFieldA wField wIndexA wIndex wLookup wMapSet wExtract wLen wBuiltin wRange wNextI wEntry wNil wOther wKeep

/-- A slice that owns its array from its begin on (the kit's 'ownsRow'), of so many elements. -/
def Own (w : World) (base : Nat) (e : TypeId) (size : Nat) (v : Value) (xs : List Value) : Prop := ∃ n, w.ownsRow base e size v n xs
theorem Own.slg {w : World} {base size : Nat} {e : TypeId} {v : Value} {xs : List Value} (h : Own w base e size v xs) : SlG w size v xs := by
  obtain ⟨n, h⟩ := h
  exact SlG.of_own h
theorem Own.nil (w : World) (base : Nat) (e : TypeId) (size : Nat) : Own w base e size (.slice none 0 0) [] := ⟨0, World.ownsRow_nil w base e size⟩
theorem Own.blk {w : World} {base size : Nat} {e : TypeId} {v : Value} {xs : List Value} (h : Own w base e size v xs) {g : Nat} (hg : v.ownBlock = some g) : base ≤ g ∧ g < w.heap.size ∧ ∃ cs, Blk w g e cs := by
  obtain ⟨n, hl, h⟩ := h
  rcases h with ⟨rfl, _⟩ | ⟨g', cap, cur, rfl, hb, hh, _⟩
  · simp [Value.ownBlock] at hg
  · simp only [Value.ownBlock, Option.some.injEq] at hg
    subst hg
    exact ⟨hb, (Array.getElem?_eq_some_iff.1 hh).1, cur.toList, hh⟩
theorem Own.ex {S : List Nat} {w w' : World} {base size : Nat} {e : TypeId} {v : Value} {xs : List Value} (h : Own w base e size v xs) (hx : Ex S w w') (hs : ∀ g, v.ownBlock = some g → g ∉ S) : Own w' base e size v xs := by
  obtain ⟨n, hl, h⟩ := h
  refine ⟨n, hl, ?_⟩
  rcases h with h | ⟨g, cap, cur, rfl, hb, hh, h1, h2, h3, h4⟩
  · exact .inl h
  · exact .inr ⟨g, cap, cur, rfl, hb, (hx.block g (Array.getElem?_eq_some_iff.1 hh).1 (hs g rfl)).trans hh, h1, h2, h3, h4⟩
theorem Own.ex0 {w w' : World} {base size : Nat} {e : TypeId} {v : Value} {xs : List Value} (h : Own w base e size v xs) (hx : Ex [] w w') : Own w' base e size v xs := h.ex hx (by simp)
theorem Own.base {w : World} {base base' size : Nat} {e : TypeId} {v : Value} {xs : List Value} (h : Own w base e size v xs) (hb : base' ≤ base) : Own w base' e size v xs := by
  obtain ⟨n, hl, h⟩ := h
  refine ⟨n, hl, ?_⟩
  rcases h with h | ⟨g, cap, cur, rfl, hb', h⟩
  · exact .inl h
  · exact .inr ⟨g, cap, cur, rfl, by omega, h⟩
theorem Own.drew {w : World} {base size : Nat} {e : TypeId} {v : Value} {xs : List Value} (h : Own w base e size v xs) : Own w.drew base e size v xs := h
theorem Own.off {w : World} {base size : Nat} {e t : TypeId} {v : Value} {xs : List Value} (h : Own w base e size v xs) {g : Nat} {cs : List Value} (hb : Blk w g t cs) (hne : e ≠ t) : ∀ g', v.ownBlock = some g' → g' ≠ g := by
  intro g' hg'
  obtain ⟨_, _, cs', hb'⟩ := h.blk hg'
  exact hb'.ne hb hne
theorem Own.slice {w : World} {base size : Nat} {e : TypeId} {v : Value} {xs : List Value} (h : Own w base e size v xs) (hs : 0 < size) {n : Nat} (hn : xs.length = n * size) : ∃ A c, v = .slice A n c := by
  obtain ⟨m, hl, h⟩ := h
  have : m = n := Nat.eq_of_mul_eq_mul_right hs (hl.symm.trans hn)
  subst this
  rcases h with ⟨rfl, rfl⟩ | ⟨g, cap, cur, rfl, _⟩
  · exact ⟨_, _, rfl⟩
  · exact ⟨_, _, rfl⟩

section mk
variable {P : Program} {t : TypeId} {w : World} {K : Value → World → Prop}
theorem conv_i {s : TypeId} {d : TypeDesc} {k k' : IntKind} {n : Int} (hs : P.underlying s = some d) (hd : P.underlying t = some (.int k')) : wConv P s t (.int k n) w K = K (.int k' (k'.wrap n)) w := by
  refine pureW_eq (fun w' => ?_) w K
  unfold Go.convert
  simp only [Sem.run_bind, und_run hs, und_run hd, Result.andThen_ok]
  rfl
/-- 'append' onto a slice of one's own. -/
theorem app_i {e : TypeId} {i : TypeInfo} {z : Value} {size bytes base : Nat} (ht : P.underlying t = some (.slice e)) (hi : P.info? e = some i) (hz : i.zero = some z) (hsz : i.size = size) (hby : i.bytes = bytes) (hzs : z.cells.size = size) (hs : 0 < size)
    {v x : Value} {xs ys : List Value} {n m : Nat} (ho : Own w base e size v xs) (hy : SlG w size x ys) (hn : xs.length = n * size) (hm : ys.length = m * size) (hc : ∀ u ∈ ys, isC u = true)
    (hb : (n + m) * bytes ≤ 140737488355328) (h63 : n + m ≤ 9223372036854775807) (hba : base ≤ w.heap.size)
    (hk : ∀ v' w', Own w' base e size v' (xs ++ ys) → Ex v.ownBlock.toList w w' → (v'.ownBlock = v.ownBlock ∨ v'.ownBlock = some w.heap.size) → K v' w') :
    wBuiltin P .append #[t, t] [v, x] w K := by
  have hb1 : base ≤ w.heap.size := hba
  obtain ⟨n', how⟩ := ho
  have hn' : n' = n := Nat.eq_of_mul_eq_mul_right hs (how.1.symm.trans hn)
  subst hn'
  obtain ⟨A, m', c, rfl, hl, hmc, hr⟩ := hy
  have hm' : m' = m := Nat.eq_of_mul_eq_mul_right hs (hl.symm.trans hm)
  subst hm'
  have hone : ∀ u ∈ ys, u.oneCell' = true := fun u hu => by
    have := hc u hu
    cases u <;> first | rfl | cases this
  have fin : ∀ v' w', (Builtin.append_ #[t, t] 0 #[v, .slice A m' c]).run P w = .ok v' w' → w'.ownsRow base e size v' (n' + m') (xs ++ ys) → w.grownBy w' v.ownBlock → (v'.ownBlock = v.ownBlock ∨ v'.ownBlock = some w.heap.size) →
      wBuiltin P .append #[t, t] [v, .slice A m' c] w K := by
    intro v' w' hrun h1 h2 h3
    unfold wBuiltin wNext builtin
    rw [Sem.run_bind, hrun]
    refine hk v' w' ⟨_, h1⟩ ⟨h2.os, h2.tape, h2.output, h2.size, fun k hk hne => h2.block k hk fun he => hne ?_⟩ h3
    rw [← he]; simp
  by_cases hm0 : m' = 0
  · subst hm0
    have : ys = [] := List.eq_nil_of_length_eq_zero (by simpa using hl)
    subst this
    have hrun : (Builtin.append_ #[t, t] 0 #[v, .slice A 0 c]).run P w = .ok v w := by
      rcases A with _ | ad
      · rcases how.2 with ⟨rfl, rfl⟩ | ⟨g, cap, cur, rfl, _, _, hnc, _⟩
        · simp [Builtin.append_, run_underlying ht, sizeOf, typeInfo, hi, Builtin.lenOf, Builtin.firstCells]
        · simp [Builtin.append_, run_underlying ht, sizeOf, typeInfo, hi, Builtin.lenOf, Builtin.firstCells, hnc, storeCells]
      · rcases how.2 with ⟨rfl, rfl⟩ | ⟨g, cap, cur, rfl, _, _, hnc, _⟩
        · simp [Builtin.append_, run_underlying ht, sizeOf, typeInfo, hi, Builtin.lenOf, Builtin.firstCells, loadCells, loadCellsFrom]
        · simp [Builtin.append_, run_underlying ht, sizeOf, typeInfo, hi, Builtin.lenOf, Builtin.firstCells, hnc, storeCells, loadCells, loadCellsFrom]
    exact fin v w hrun (by simpa using how) ⟨rfl, rfl, rfl, Nat.le_refl _, fun _ _ _ => rfl⟩ (.inl rfl)
  · obtain ⟨b, o, rfl, hcs⟩ := hr hm0
    obtain ⟨v', w', hrun, h1, h2, _, h3⟩ := run_append_own_at (P := P) w base t 0 e i z size bytes ht hi hz hsz hby hzs hs v n' xs how ⟨b, o, none⟩ m' c ys hl (fun j u hu => by rw [add_pl]; exact hcs j u hu) hone (by simp only [maxLen]; omega) hb hb1
    exact fin v' w' hrun h1 h2 h3
theorem fill_run {fs : Array Field} {ps : List (Nat × Value)} {z : Value} {cs : List Value} {places : Array (Nat × Nat)} (hu : P.underlying t = some (.struct fs)) (hz : zeroT P t = some z)
    (hp : ∀ w, (fs.mapM fun f => do pure (f.offset, ← sizeOf f.type) : Sem (Array (Nat × Nat))).run P w = .ok places w) (hf : Instr.fill (places[·]?) z.cells ps = some ⟨cs⟩) : wBuild P t ps w K = K (.agg ⟨cs⟩) w := by
  refine pureW_eq (fun w' => ?_) w K
  unfold Instr.build
  simp only [Sem.run_bind, zero_run hz, Result.andThen_ok, und_run hu, hp]
  simp only [hf, Sem.run_pure]
theorem buildS_i {e : TypeId} {ps : List (Nat × Value)} {z : Value} {cs : List Value} {n size : Nat} (hu : P.underlying t = some (.slice e)) (hsz : ∀ w, (sizeOf e).run P w = .ok size w) (hz : zeroT P e = some z) (hn : n * size ≤ 16777216)
    (hf : Instr.fill (fun i => some (i * size, size)) (if n * size = 0 then #[] else (Array.range (n * size)).map (z.cells[· % z.cells.size]!)) ps = some ⟨cs⟩)
    (hk : ∀ w' g, g = w.heap.size → Ex [] w w' → Blk w' g e cs → K (.slice (some ⟨g, 0, none⟩) n n) w') : wBuildS P t n ps w K := by
  have hrun : (Instr.buildSlice t n ⟨ps⟩).run P w = .ok (.slice (some ⟨w.heap.size, 0, none⟩) n n) (w.alloc (.cells ⟨cs⟩ e)) := by
    unfold Instr.buildSlice
    simp only [Sem.run_bind, und_run hu, Result.andThen_ok, hsz]
    rw [if_neg (by have : (2:Nat) ^ 24 = 16777216 := by decide
                   omega)]
    by_cases h0 : n * size = 0
    · rw [if_pos h0] at hf
      rw [if_pos h0]
      have : (Array.range (n * size)).map (fun x => (#[] : Array Value)[x % (#[] : Array Value).size]!) = #[] := by rw [h0]; simp
      show (Sem.run P (match Instr.fill (fun i => some (i * size, size)) ((Array.range (n * size)).map (fun x => (#[] : Array Value)[x % (#[] : Array Value).size]!)) ps with
          | some cells => do
            let a ← newRow e cells
            pure (Value.slice (some a) n n)
          | x => stuck "buildSlice: a part of the wrong size") w) = _
      rw [this, hf]
      simp only [Sem.run_bind, newRow_run, Result.andThen_ok, Sem.run_pure]
    · rw [if_neg h0] at hf
      rw [if_neg h0]
      simp only [Sem.run_bind, zero_run hz, Result.andThen_ok, Sem.run_pure, hf, newRow_run]
  unfold wBuildS runW
  rw [hrun]
  exact hk _ _ rfl (Ex.alloc _ _) (blk_new _ _ _)
/-- A slice of one element ('append(l, x)'). -/
theorem buildS_1 {e : TypeId} {x : Value} {z : Value} {xs : List Value} {size : Nat} (hu : P.underlying t = some (.slice e)) (hsz : ∀ w, (sizeOf e).run P w = .ok size w) (hz : zeroT P e = some z) (hn : size ≤ 16777216) (hx : x.cells = ⟨xs⟩) (hl : xs.length = size) (hzl : z.cells.size = size)
    (hk : ∀ w' g, g = w.heap.size → Ex [] w w' → Blk w' g e xs → K (.slice (some ⟨g, 0, none⟩) 1 1) w') : wBuildS P t 1 [(0, x)] w K := by
  refine buildS_i hu hsz hz (by omega) (cs := xs) ?_ hk
  unfold Instr.fill
  have h1 : x.cells.size = size := by rw [hx]; exact hl
  have h2 : (if 1 * size = 0 then #[] else (Array.range (1 * size)).map (z.cells[· % z.cells.size]!)).size = size := by
    split
    · simp_all
    · simp
  simp only [Nat.zero_mul, h1, h2, Nat.zero_add]
  rw [if_neg (by simp)]
  unfold Instr.fill
  congr 1
  generalize (if 1 * size = 0 then #[] else (Array.range (1 * size)).map (z.cells[· % z.cells.size]!)) = acc at *
  rw [hx]
  have key : ∀ (ys pre : List Value) (a : Array Value), a.size = (pre ++ ys).length → a.toList.take pre.length = pre →
      (ys.zipIdx pre.length).foldl (fun cs (p : Value × Nat) => cs.setIfInBounds p.2 p.1) a = ⟨pre ++ ys⟩ := by
    intro ys
    induction ys with
    | nil =>
      intro pre a ha ht
      apply Array.toList_inj.1
      simp only [List.append_nil] at ha ⊢
      rw [List.take_of_length_le (by simp [ha])] at ht
      simpa using ht
    | cons y ys ih =>
      intro pre a ha ht
      have := ih (pre ++ [y]) (a.setIfInBounds pre.length y) (by simp [ha]) (by
        have hlt : pre.length < a.toList.length := by simp [ha]
        simp only [Array.toList_setIfInBounds, List.length_append, List.length_singleton]
        rw [List.take_succ_eq_append_getElem (by simpa using hlt), List.take_set_of_le (Nat.le_refl _), ht]
        simp)
      simp only [List.length_append, List.length_singleton, List.append_assoc, List.singleton_append] at this
      rw [← this]
      simp only [List.zipIdx_cons, List.foldl_cons]
  have := key xs [] acc (by simp [h2, hl]) rfl
  simp only [List.length_nil, List.nil_append] at this
  rw [← Array.foldl_toList, Array.toList_zipIdx]
  exact this
end mk
end Go.Dn
end
section
/-! Results in memory, draws, equality of arrays, bits. -/
set_option linter.unusedVariables false
set_option linter.unusedSimpArgs false
namespace Go.Dn
open Go Go.RowKit
attribute [local semireducible] wCall wCallV wInvoke callW wNext wLoad wStore wBox wAlloc wBuild wBuildS wBin wBinF wUn wConv wIface wFunc wMakeMap wMake wSlice wFieldA wField wIndexA wIndex wLookup wMapSet wExtract wLen wBuiltin wRange wNextI wEntry wNil wOther wKeep

section m4
variable {P : Program} {t : TypeId} {w : World} {K : Value → World → Prop}
theorem res_agg {n b o : Nat} {xs : List Value} {k : Value → Prop} (hT : aggT P t n = true) (h : Cs w b o xs) (hl : xs.length = n) (hk : k (.agg ⟨xs⟩)) : wRes P t (.pointer (some ⟨b, o, none⟩)) w k := by
  refine ⟨_, ?_, hk⟩
  have := loadAt_agg (P := P) hT h hl
  unfold Instr.loadAt at this
  simp only [Instr.sureAddr, Sem.run_bind, Sem.run_pure, Result.andThen_ok] at this
  simp only [asAddr, Sem.run_bind, Sem.run_pure, Result.andThen_ok]
  exact this
theorem res_one {a : Addr} {v : Value} {k : Value → Prop} (hT : oneT P t = true) (h : w.cell? a = some v) (hk : k v) : wRes P t (.pointer (some a)) w k := by
  refine ⟨_, ?_, hk⟩
  have := loadAt_one (P := P) hT h
  unfold Instr.loadAt at this
  simp only [Instr.sureAddr, Sem.run_bind, Sem.run_pure, Result.andThen_ok] at this
  simp only [asAddr, Sem.run_bind, Sem.run_pure, Result.andThen_ok]
  exact this
theorem Blk.all {w : World} {g : Nat} {t : TypeId} {cs : List Value} (h : Blk w g t cs) : Cs w g 0 cs := by
  intro i v hv
  rw [Nat.zero_add, h.cell]
  exact hv
theorem draw_i {k : World → Prop} (hk : ∀ w', Ex [] w w' → w'.heap = w.heap → k w') : wDraw w k := hk _ (Ex.refl _ _).drew rfl
theorem Blk.heap {w w' : World} {g : Nat} {t : TypeId} {cs : List Value} (h : Blk w g t cs) (hh : w'.heap = w.heap) : Blk w' g t cs := by
  unfold Blk at *; rw [hh]; exact h
theorem Ex.le {S : List Nat} {w w' : World} (h : Ex S w w') : w.heap.size ≤ w'.heap.size := h.size
theorem Ex.nil {S : List Nat} {w w' : World} (h : Ex [] w w') : Ex S w w' := h.mono (by simp)
/-- What was written is new since w. -/
theorem Ex.new {w a b : World} {g : Nat} (h : Ex [] w a) (k : Ex [g] a b) (hg : w.heap.size ≤ g) : Ex [] w b := h.step k (by simp; omega)

/-! Bits. -/
theorem ofInt_nat {n x : Nat} (hx : x < 2 ^ n) : (BitVec.ofInt n (x : Int)).toNat = x := by
  rw [BitVec.toNat_ofInt]
  have : ((x : Int) % ((2 ^ n : Nat) : Int)).toNat = x % 2 ^ n := by
    rw [← Int.natCast_emod]; rfl
  rw [this, Nat.mod_eq_of_lt hx]
theorem bin_orN {k : IntKind} {x y : Nat} (hx : x < 2 ^ k.bits) (hy : y < 2 ^ k.bits) (hk : k.signed = false) : wBin P .or t (.int k x) (.int k y) w K = K (.int k ((x ||| y : Nat) : Int)) w := by
  refine bin_int ?_
  have h1 := Nat.or_lt_two_pow hx hy
  simp only [binOp, ne_eq, not_true_eq_false, if_false, Op.intBits, BitVec.toNat_or, ofInt_nat hx, ofInt_nat hy]
  congr 2
  unfold IntKind.wrap
  rw [hk]
  simp only [Bool.false_and, Bool.false_eq_true, if_false]
  have : ((x ||| y : Nat) : Int) % (2 ^ k.bits : Int) = (((x ||| y) % 2 ^ k.bits : Nat) : Int) := by
    rw [Int.natCast_emod]; norm_cast
  rw [this, Nat.mod_eq_of_lt h1]
theorem bin_xorN {k : IntKind} {x y : Nat} (hx : x < 2 ^ k.bits) (hy : y < 2 ^ k.bits) (hk : k.signed = false) : wBin P .xor t (.int k x) (.int k y) w K = K (.int k ((x ^^^ y : Nat) : Int)) w := by
  refine bin_int ?_
  have h1 := Nat.xor_lt_two_pow hx hy
  simp only [binOp, ne_eq, not_true_eq_false, if_false, Op.intBits, BitVec.toNat_xor, ofInt_nat hx, ofInt_nat hy]
  congr 2
  unfold IntKind.wrap
  rw [hk]
  simp only [Bool.false_and, Bool.false_eq_true, if_false]
  have : ((x ^^^ y : Nat) : Int) % (2 ^ k.bits : Int) = (((x ^^^ y) % 2 ^ k.bits : Nat) : Int) := by
    rw [Int.natCast_emod]; norm_cast
  rw [this, Nat.mod_eq_of_lt h1]
theorem bin_andN {k : IntKind} {x y : Nat} (hx : x < 2 ^ k.bits) (hy : y < 2 ^ k.bits) (hk : k.signed = false) : wBin P .and t (.int k x) (.int k y) w K = K (.int k ((x &&& y : Nat) : Int)) w := by
  refine bin_int ?_
  have h1 := Nat.and_lt_two_pow x hy
  simp only [binOp, ne_eq, not_true_eq_false, if_false, Op.intBits, BitVec.toNat_and, ofInt_nat hx, ofInt_nat hy]
  congr 2
  unfold IntKind.wrap
  rw [hk]
  simp only [Bool.false_and, Bool.false_eq_true, if_false]
  have : ((x &&& y : Nat) : Int) % (2 ^ k.bits : Int) = (((x &&& y) % 2 ^ k.bits : Nat) : Int) := by
    rw [Int.natCast_emod]; norm_cast
  rw [this, Nat.mod_eq_of_lt h1]
theorem wrapN {k : IntKind} {x : Nat} (hk : k.signed = false) (hx : x < 2 ^ k.bits) : k.wrap (x : Int) = x := by
  unfold IntKind.wrap
  rw [hk]
  simp only [Bool.false_and, Bool.false_eq_true, if_false]
  have : (x : Int) % (2 ^ k.bits : Int) = ((x % 2 ^ k.bits : Nat) : Int) := by
    rw [Int.natCast_emod]; norm_cast
  rw [this, Nat.mod_eq_of_lt hx]
theorem bin_quoN {k : IntKind} {x y : Nat} (hk : k.signed = false) (hx : x < 2 ^ k.bits) (hy : 0 < y) : wBin P .quo t (.int k x) (.int k y) w K = K (.int k ((x / y : Nat) : Int)) w := by
  refine bin_int ?_
  simp only [binOp, ne_eq, not_true_eq_false, if_false, Op.intDiv]
  rw [if_neg (by omega)]
  congr 2
  have : (x : Int).tdiv (y : Int) = ((x / y : Nat) : Int) := by
    rw [Int.tdiv_eq_ediv_of_nonneg (by omega)]; norm_cast
  rw [this, wrapN hk (Nat.lt_of_le_of_lt (Nat.div_le_self _ _) hx)]
theorem bin_remN {k : IntKind} {x y : Nat} (hy : 0 < y) : wBin P .rem t (.int k x) (.int k y) w K = K (.int k ((x % y : Nat) : Int)) w := by
  refine bin_int ?_
  simp only [binOp, ne_eq, not_true_eq_false, if_false, Op.intDiv]
  rw [if_neg (by omega)]
  congr 2
theorem bin_quoI {x y : Nat} (hx : x ≤ 9223372036854775807) (hy : 0 < y) : wBin P .quo t (.int .i64 x) (.int .i64 y) w K = K (.int .i64 ((x / y : Nat) : Int)) w := by
  refine bin_int ?_
  simp only [binOp, ne_eq, not_true_eq_false, if_false, Op.intDiv]
  rw [if_neg (by omega)]
  congr 2
  have : (x : Int).tdiv (y : Int) = ((x / y : Nat) : Int) := by
    rw [Int.tdiv_eq_ediv_of_nonneg (by omega)]; norm_cast
  have h2 := Nat.div_le_self x y
  rw [this]
  generalize x / y = q at *
  rw [IntWalk.i64_in _ (by omega)]

/-! Equality of arrays of numbers. -/
theorem part_one {e : TypeId} {cs : Array Value} {o : Nat} {v : Value} (hT : oneT P e = true) (hv : cs[o]? = some v) (w : World) : (part e cs o).run P w = .ok v w := by
  unfold part
  simp only [Sem.run_bind, isAgg_one hT, Result.andThen_ok, Bool.false_eq_true, if_false, hv, Sem.run_pure]
theorem eqIn_int {e : TypeId} {k : IntKind} (d : Nat) (a b : Int) (he : P.underlying e = some (.int k)) (w : World) : (Op.equalIn (d + 1) e (.int k a) (.int k b)).run P w = .ok (a == b) w := by
  rw [Op.equalIn]
  simp only [Sem.run_bind, und_run he, Result.andThen_ok, if_true]
  rfl
end m4
end Go.Dn
end
section
/-! '==' of arrays and structs. -/
set_option linter.unusedVariables false
set_option linter.unusedSimpArgs false
namespace Go.Dn
open Go Go.RowKit
section m5
variable {P : Program} {t : TypeId} {w : World} {K : Value → World → Prop}
theorem eqItems_int {e : TypeId} {k : IntKind} (d : Nat) (ho : oneT P e = true) (he : P.underlying e = some (.int k)) (xs ys : List Int) (hl : xs.length = ys.length) (w : World) : ∀ (m i : Nat), i + m = xs.length →
    (Op.eqItems (d + 1) e 1 ⟨xs.map (Value.int k)⟩ ⟨ys.map (Value.int k)⟩ (List.range' i m)).run P w = .ok (decide (xs.drop i = ys.drop i)) w := by
  intro m
  induction m with
  | zero =>
    intro i hi
    rw [List.drop_of_length_le (by omega), List.drop_of_length_le (by omega)]
    simp [List.range'_zero, Op.eqItems, Sem.run_pure]
  | succ m ih =>
    intro i hi
    have hx : i < xs.length := by omega
    have hy : i < ys.length := by omega
    have h1 := part_one (P := P) (cs := ⟨xs.map (Value.int k)⟩) (o := i * 1) (v := .int k xs[i]) ho (by simp [hx]) w
    have h2 := part_one (P := P) (cs := ⟨ys.map (Value.int k)⟩) (o := i * 1) (v := .int k ys[i]) ho (by simp [hy]) w
    rw [List.range'_succ, Op.eqItems]
    simp only [Sem.run_bind, h1, h2, Result.andThen_ok, eqIn_int d _ _ he]
    have key : (xs.drop i = ys.drop i) ↔ (xs[i] = ys[i] ∧ xs.drop (i + 1) = ys.drop (i + 1)) := by
      conv => lhs; rw [List.drop_eq_getElem_cons hx, List.drop_eq_getElem_cons hy]
      rw [List.cons.injEq]
    by_cases hxy : xs[i] = ys[i]
    · have : (xs[i] == ys[i]) = true := by simpa using hxy
      rw [this]
      simp only [Bool.not_true, Bool.false_eq_true, if_false]
      rw [ih (i + 1) (by omega)]
      congr 1
      rw [decide_eq_decide, key]
      exact ⟨fun h => ⟨hxy, h⟩, fun h => h.2⟩
    · have : (xs[i] == ys[i]) = false := by simpa using hxy
      rw [this]
      simp only [Bool.not_false, if_true, Sem.run_pure]
      congr 1
      rw [eq_comm, decide_eq_false_iff_not, key]
      exact fun h => hxy h.1
theorem eqA_int {e : TypeId} {n : Nat} {k : IntKind} (hu : P.underlying t = some (.array n e)) (ho : oneT P e = true) (he : P.underlying e = some (.int k)) (d : Nat) (xs ys : List Int) (hx : xs.length = n) (hy : ys.length = n) (w : World) :
    (Op.equalIn (d + 2) t (.agg ⟨xs.map (Value.int k)⟩) (.agg ⟨ys.map (Value.int k)⟩)).run P w = .ok (decide (xs = ys)) w := by
  obtain ⟨i, hi⟩ : ∃ i, P.info? e = some i := by
    unfold oneT at ho
    rw [he] at ho
    simp only at ho
    split at ho
    · rename_i i hi; exact ⟨i, hi⟩
    · cases ho
  have hc : P.cellsOf e = 1 := by
    have h1 := sizeOf_one ho w
    rw [sizeOf_run hi] at h1
    injection h1 with h1
    unfold Program.cellsOf
    rw [hi]
    exact h1
  rw [run_equalIn_array w (d + 1) _ _ hu hi, hc, List.range_eq_range', eqItems_int d ho he xs ys (by omega) w n 0 (by omega)]
  rfl
theorem guard_agg {op : BinOp} (hg : P.eqGuardType P.depth t = false) (xs ys : Array Value) (c : Bool) (w' : World) :
    (eqGuard op t (if c = true then .const (.agg xs) else .tmp 0) (.tmp 0) (.agg xs) (.agg ys)).run P w' = .ok () w' := by
  unfold eqGuard program
  cases op <;> first | rfl | simp [Sem.run_bind, Sem.run, hg]
theorem bin_eqA {xs ys : Array Value} {b : Bool} (hg : P.eqGuardType P.depth t = false) (h : ∀ w', (Op.equalIn 10000 t (.agg xs) (.agg ys)).run P w' = .ok b w') : wBin P .eql t (.agg xs) (.agg ys) w K = K (.bool b) w :=
  bin_eq_of (by simp) (by simp) (by simp) (by simp) (fun c w' => guard_agg hg xs ys c w') h
theorem bin_neA {xs ys : Array Value} {b : Bool} (hg : P.eqGuardType P.depth t = false) (h : ∀ w', (Op.equalIn 10000 t (.agg xs) (.agg ys)).run P w' = .ok b w') : wBin P .neq t (.agg xs) (.agg ys) w K = K (.bool (!b)) w :=
  bin_ne_of (by simp) (by simp) (by simp) (by simp) (fun c w' => guard_agg hg xs ys c w') h
theorem bin_eqA2 {xs ys : Array Value} {b : Bool} (hg : P.eqGuardType P.depth t = false) (h : ∀ d w', (Op.equalIn (d + 2) t (.agg xs) (.agg ys)).run P w' = .ok b w') : wBin P .eql t (.agg xs) (.agg ys) w K = K (.bool b) w :=
  bin_eqA hg (fun w' => h 9998 w')
theorem bin_neA2 {xs ys : Array Value} {b : Bool} (hg : P.eqGuardType P.depth t = false) (h : ∀ d w', (Op.equalIn (d + 2) t (.agg xs) (.agg ys)).run P w' = .ok b w') : wBin P .neq t (.agg xs) (.agg ys) w K = K (.bool (!b)) w :=
  bin_neA hg (fun w' => h 9998 w')
theorem Own.of_blk {w : World} {base g n size : Nat} {e : TypeId} {cs : List Value} (B : Blk w g e cs) (hl : cs.length = n * size) (hb : base ≤ g) (hn : n ≤ 9223372036854775807) : Own w base e size (.slice (some ⟨g, 0, none⟩) n n) cs :=
  ⟨n, hl, .inr ⟨g, n, ⟨cs⟩, rfl, hb, B, Nat.le_refl _, by simp only [maxLen]; omega, hl, by rw [← hl]; simp⟩⟩
end m5
end Go.Dn
end
section
/-! copy. -/
set_option linter.unusedVariables false
set_option linter.unusedSimpArgs false
namespace Go.Dn
open Go Go.RowKit
attribute [local semireducible] wBuiltin wNext
section m6
variable {P : Program} {t : TypeId} {w : World} {K : Value → World → Prop}
/-- 'copy' of cells (elements of one cell) into a block. -/
theorem copy_i {e t' u : TypeId} {g o dn dc : Nat} {src : Value} {cs ys : List Value} (ht : P.underlying t = some (.slice e)) (ho : oneT P e = true) (H : Blk w g u cs) (hs : SlG w 1 src ys) (hc : ∀ y ∈ ys, isC y = true)
    (hl : o + min ys.length dn ≤ cs.length) (hk : ∀ w', Ex [g] w w' → Blk w' g u (splice cs o (ys.take dn)) → K (.int .i64 (min ys.length dn : Nat)) w') :
    wBuiltin P .copy #[t, t'] [.slice (some ⟨g, o, none⟩) dn dc, src] w K := by
  obtain ⟨A, m, c, rfl, hlen, hmc, hr⟩ := hs
  rw [Nat.mul_one] at hlen
  have hcells : (Builtin.firstCells 1 (Nat.min m dn) (.slice A m c)).run P w = .ok ⟨ys.take dn⟩ w := by
    rcases A with _ | ad
    · have : m = 0 := by
        rcases Nat.eq_zero_or_pos m with h | h
        · exact h
        · obtain ⟨b, o', h', _⟩ := hr (by omega); cases h'
      subst this
      have : ys = [] := List.eq_nil_of_length_eq_zero hlen
      subst this
      simp [Builtin.firstCells]
    · by_cases hm : m = 0
      · subst hm
        have : ys = [] := List.eq_nil_of_length_eq_zero hlen
        subst this
        simp [Builtin.firstCells, loadCells, loadCellsFrom]
      · obtain ⟨b, o', h', hcs⟩ := hr hm
        injection h' with h'
        subst h'
        have h1 := loadCells_run (P := P) (b := b) (ys.take dn) o' 0 #[] (fun i v hv => by
          rw [List.getElem?_take] at hv
          split at hv
          · have := hcs i v hv; simpa using this
          · cases hv)
        have h2 : (ys.take dn).length = Nat.min m dn * 1 := by rw [List.length_take, hlen, Nat.mul_one, Nat.min_comm]
        rw [h2] at h1
        unfold Builtin.firstCells loadCells
        rw [h1]
        simp
  have hl2 : o + (ys.take dn).length ≤ cs.length := by rw [List.length_take]; omega
  obtain ⟨w', h1, h2, h3⟩ := storeCells_run (P := P) (ys.take dn) cs o 0 w H (by simpa using hl2) (fun v hv => hc v (List.mem_of_mem_take hv))
  have hrun : (Builtin.copy_ #[t, t'] 0 #[.slice (some ⟨g, o, none⟩) dn dc, .slice A m c]).run P w = .ok (.int .i64 (min ys.length dn : Nat)) w' := by
    unfold Builtin.copy_
    simp only [List.getElem?_toArray, List.getElem?_cons_zero, List.getElem?_cons_succ]
    simp only [Sem.run_bind, und_run ht, Result.andThen_ok, Builtin.lenOf, Sem.run_pure, sizeOf_one ho, hcells, h1]
    rw [hlen]
    rfl
  unfold wBuiltin wNext builtin
  rw [Sem.run_bind, hrun]
  exact hk w' h2 (by simpa using h3)
/-! Building structs and arrays. -/
theorem setMany : ∀ (vs : List Value) (cs : List Value) (o : Nat), o + vs.length ≤ cs.length →
    ((⟨vs⟩ : Array Value).zipIdx.foldl (fun cs (p : Value × Nat) => cs.setIfInBounds (o + p.2) p.1) (⟨cs⟩ : Array Value)) = ⟨splice cs o vs⟩ := by
  intro vs cs o h
  rw [← Array.foldl_toList, Array.toList_zipIdx]
  have key : ∀ (vs cs : List Value) (i : Nat), o + i + vs.length ≤ cs.length → (vs.zipIdx i).foldl (fun cs (p : Value × Nat) => cs.setIfInBounds (o + p.2) p.1) (⟨cs⟩ : Array Value) = ⟨splice cs (o + i) vs⟩ := by
    intro vs
    induction vs with
    | nil => intro cs i _; simp [splice]
    | cons v vs ih =>
      intro cs i hl
      simp only [List.zipIdx_cons, List.foldl_cons]
      have e0 : (⟨cs⟩ : Array Value).setIfInBounds (o + i) v = ⟨cs.set (o + i) v⟩ := by
        apply Array.toList_inj.1; simp
      rw [e0, ih _ _ (by simp at hl ⊢; omega)]
      have hl' : o + i < cs.length := by simp at hl; omega
      congr 1
      unfold splice
      have e : o + (i + 1) + vs.length = o + i + (v :: vs).length := by simp; omega
      rw [e, ← Nat.add_assoc, List.take_succ_eq_append_getElem (by simp; omega), List.take_set_of_le (Nat.le_refl _), List.drop_set_of_lt (by simp)]
      simp
  have := key vs cs 0 (by omega)
  simpa using this
theorem fill_cons {place : Nat → Option (Nat × Nat)} {cs vs : List Value} {i off size : Nat} {v : Value} {rest : List (Nat × Value)} (hp : place i = some (off, size)) (hv : v.cells = ⟨vs⟩) (hl : vs.length = size) (ho : off + size ≤ cs.length) :
    Instr.fill place ⟨cs⟩ ((i, v) :: rest) = Instr.fill place ⟨splice cs off vs⟩ rest := by
  rw [Instr.fill]
  simp only [hp]
  rw [if_neg (by rw [hv]; simp; omega), hv, setMany vs cs off (by omega)]
theorem fill_nil {place : Nat → Option (Nat × Nat)} {cs : List Value} : Instr.fill place ⟨cs⟩ [] = some ⟨cs⟩ := rfl
theorem build_s {fs : Array Field} {ps : List (Nat × Value)} {z cs : List Value} {places : Array (Nat × Nat)} (hu : P.underlying t = some (.struct fs)) (hz : zeroT P t = some (.agg ⟨z⟩))
    (hp : ∀ w, (fs.mapM fun f => do pure (f.offset, ← sizeOf f.type) : Sem (Array (Nat × Nat))).run P w = .ok places w) (hf : Instr.fill (places[·]?) ⟨z⟩ ps = some ⟨cs⟩) : wBuild P t ps w K = K (.agg ⟨cs⟩) w :=
  fill_run hu hz hp hf
theorem fill_ones : ∀ (xs cs : List Value) (i : Nat), i + xs.length = cs.length → (∀ x ∈ xs, x.cells = #[x]) →
    Instr.fill (fun i => some (i * 1, 1)) ⟨cs⟩ ((xs.zipIdx i).map fun p => (p.2, p.1)) = some ⟨cs.take i ++ xs⟩
  | [], cs, i, h, _ => by
    simp only [List.length_nil, Nat.add_zero] at h
    simp [List.take_of_length_le (show cs.length ≤ i by omega), Instr.fill]
  | x :: xs, cs, i, h, hx => by
    simp only [List.zipIdx_cons, List.map_cons]
    simp only [List.length_cons] at h
    rw [fill_cons (vs := [x]) (off := i * 1) (size := 1) rfl (hx x (List.mem_cons_self ..)) rfl (by omega), fill_ones xs _ (i + 1) (by rw [splice_length (by simp; omega)]; omega) fun y hy => hx y (List.mem_cons_of_mem _ hy)]
    congr 2
    unfold splice
    rw [Nat.mul_one]
    have e : (cs.take i ++ [x]).length = i + 1 := by simp; omega
    rw [List.take_append_of_le_length (by omega), List.take_of_length_le (by omega)]
    simp
/-- A slice literal of elements of one cell. -/
theorem buildS_ones {e : TypeId} {z : Value} {n : Nat} {xs : List Value} {ps : List (Nat × Value)} (hps : ps = xs.zipIdx.map fun p => (p.2, p.1)) (hu : P.underlying t = some (.slice e)) (ho : oneT P e = true) (hz : zeroT P e = some z) (hzc : z.cells = #[z])
    (hl : xs.length = n) (hn : n ≤ 16777216) (hx : ∀ x ∈ xs, x.cells = #[x]) (hk : ∀ w' g, g = w.heap.size → Ex [] w w' → Blk w' g e xs → K (.slice (some ⟨g, 0, none⟩) n n) w') : wBuildS P t n ps w K := by
  subst hps
  refine buildS_i hu (sizeOf_one ho) hz (by omega) (cs := xs) ?_ hk
  have h0 : (if n * 1 = 0 then #[] else (Array.range (n * 1)).map (z.cells[· % z.cells.size]!)) = (⟨List.replicate n z⟩ : Array Value) := by
    apply Array.toList_inj.1
    by_cases h : n * 1 = 0
    · rw [if_pos h]
      have : n = 0 := by omega
      subst this; rfl
    · rw [if_neg h, hzc]
      apply List.ext_getElem (by simp)
      intro i h1 h2
      simp [Nat.mod_one]
  rw [h0]
  have := fill_ones xs (List.replicate n z) 0 (by simp [hl]) hx
  simpa using this
attribute [local semireducible] wBuild
theorem build_a {e : TypeId} {n size : Nat} {ps : List (Nat × Value)} {z cs : List Value} (hu : P.underlying t = some (.array n e)) (hz : zeroT P t = some (.agg ⟨z⟩)) (hs : ∀ w, (sizeOf e).run P w = .ok size w)
    (hf : Instr.fill (fun i => some (i * size, size)) ⟨z⟩ ps = some ⟨cs⟩) : wBuild P t ps w K = K (.agg ⟨cs⟩) w := by
  refine pureW_eq (fun w' => ?_) w K
  unfold Instr.build
  simp only [Sem.run_bind, zero_run hz, Result.andThen_ok, und_run hu, hs, Value.cells, hf, Sem.run_pure]
end m6
end Go.Dn
end
section
/-! Functions as values, 'make', floats. -/
set_option linter.unusedVariables false
set_option linter.unusedSimpArgs false
namespace Go.Dn
open Go Go.RowKit
attribute [local semireducible] wCallV wCall wNext wFunc wMake wBinF wConv wBin
section m7
variable {P : Program} {t : TypeId} {w : World} {K : Value → World → Prop}
theorem callv_eq (f : FuncId) (first cap args : List Value) : wCallV P (.func (.func f) ⟨first⟩ ⟨cap⟩) args w K = wCall P f (first ++ args ++ cap) w K := by
  unfold wCallV wCall wNext
  simp only [Deferred.ofValue, Sem.run_bind, Sem.run_pure, Result.andThen_ok, invoke]
  simp
theorem callv_0 (f : FuncId) (args : List Value) : wCallV P (.func (.func f) #[] #[]) args w K = wCall P f args w K := by
  have := callv_eq (P := P) (w := w) (K := K) f [] [] args
  simpa using this
theorem func_eq (f : FuncId) (first cap : List Value) : wFunc P (.func f) first cap w K = K (.func (.func f) ⟨first⟩ ⟨cap⟩) w := rfl
theorem made_flat (zs : List Value) (hs : zs ≠ []) : ∀ n, (List.range (n * zs.length)).map (fun i => zs[i % zs.length]!) = (List.replicate n zs).flatten
  | 0 => by simp
  | n + 1 => by
    have hp : 0 < zs.length := List.length_pos_iff.2 hs
    rw [Nat.succ_mul, List.range_add, List.map_append, made_flat zs hs n, List.replicate_succ', List.flatten_append]
    congr 1
    simp only [List.map_map, List.flatten_cons, List.flatten_nil, List.append_nil]
    apply List.ext_getElem
    · simp
    · intro i h1 h2
      simp only [List.length_map, List.length_range] at h1
      simp [Nat.mul_add_mod_of_lt, Nat.mod_eq_of_lt h1, h1, Nat.add_mod, Nat.mul_mod_left]
theorem make_i {e : TypeId} {i : TypeInfo} {z : Value} {zs : List Value} {n bytes : Nat} {k k' : IntKind} (ht : P.underlying t = some (.slice e)) (hi : P.info? e = some i) (hz : i.zero = some z) (hzc : z.cells = ⟨zs⟩) (hzn : zs ≠ []) (hsz : i.size = zs.length) (hby : i.bytes = bytes)
    (hn : n * zs.length ≤ 16777216) (hb : bytes * n ≤ 16777216)
    (hk : ∀ w' g, g = w.heap.size → Ex [] w w' → Blk w' g e (List.replicate n zs).flatten → K (.slice (some ⟨g, 0, none⟩) n n) w') : wMake P t (.int k n) (.int k' n) w K := by
  have hp : 1 ≤ zs.length := List.length_pos_iff.2 hzn
  have hm : n * 1 ≤ n * zs.length := Nat.mul_le_mul_left n hp
  have hb' : (i.bytes : Int) * (n : Int) ≤ 281474976710656 := by
    rw [hby, ← Int.natCast_mul]
    omega
  have h := run_makeSlice (P := P) w t e i z ht hi hz k k' (n : Int) (n : Int) (by omega) (by omega) (by rw [hsz, Int.toNat_natCast]; exact hn) hb' (by omega)
  have hmk : madeCells z.cells ((n : Int).toNat * i.size) = ⟨(List.replicate n zs).flatten⟩ := by
    rw [← made_flat zs hzn n]
    unfold madeCells
    apply Array.toList_inj.1
    rw [hzc, hsz]
    simp
  rw [hmk] at h
  unfold wMake runW
  rw [h]
  exact hk _ _ rfl (Ex.alloc _ _) (blk_new _ _ _)

/-! Floats. -/
theorem conv_f {s : TypeId} {d : TypeDesc} {k : IntKind} {n : Int} (hs : P.underlying s = some d) (hd : P.underlying t = some (.float .f64)) : wConv P s t (.int k n) w K = K (.float .f64 (FloatKind.f64.nearest n)) w := by
  refine pureW_eq (fun w' => ?_) w K
  unfold Go.convert
  simp only [Sem.run_bind, und_run hs, und_run hd, Result.andThen_ok]
  rfl
theorem bin_flt {op : BinOp} {a b : Nat} {v : Value} (h : binOp op t (.float .f64 a) (.float .f64 b) = pure v) : wBin P op t (.float .f64 a) (.float .f64 b) w K = K v w := by
  refine bin_of fun c w' => ?_
  have : (eqGuard op t (if c = true then .const (.float .f64 a) else .tmp 0) (.tmp 0) (.float .f64 a) (.float .f64 b)) = pure () := by
    unfold eqGuard
    split <;> rfl
  unfold binS
  rw [this, h]
  rfl
theorem bin_feql (a b : Nat) : wBin P .eql t (.float .f64 a) (.float .f64 b) w K = K (.bool (Ieee.double.order a b == some .eq)) w := bin_flt (by simp [binOp, Op.floatCmp, FloatKind.format])
theorem bin_fneq (a b : Nat) : wBin P .neq t (.float .f64 a) (.float .f64 b) w K = K (.bool (Ieee.double.order a b != some .eq)) w := bin_flt (by simp [binOp, Op.floatCmp, FloatKind.format])
theorem bin_flss (a b : Nat) : wBin P .lss t (.float .f64 a) (.float .f64 b) w K = K (.bool (Ieee.double.order a b == some .lt)) w := bin_flt (by simp [binOp, Op.floatCmp, FloatKind.format])
theorem bin_fgtr (a b : Nat) : wBin P .gtr t (.float .f64 a) (.float .f64 b) w K = K (.bool (Ieee.double.order a b == some .gt)) w := bin_flt (by simp [binOp, Op.floatCmp, FloatKind.format])
theorem quo_some {a b r : Nat} (h : Ieee.double.div a b = some r) (hk : K (.float .f64 r) w) : wBinF P .quo t (.float .f64 a) (.float .f64 b) w K := by
  intro c
  unfold runW binS
  have : (eqGuard .quo t (if c = true then .const (.float .f64 a) else .tmp 0) (.tmp 0) (.float .f64 a) (.float .f64 b)) = pure () := rfl
  rw [this]
  simp only [binOp, Op.floatArith, Sem.run_bind, Sem.run_pure, Result.andThen_ok, FloatKind.format, h, ne_eq, not_true_eq_false, if_false]
  exact hk
def nanB (t : Nat) : Nat := (t % 2) * 2 ^ 63 + 0x7ff0000000000000 + 1 + (t / 2) % (2 ^ 52 - 1)
theorem quo_none {a b : Nat} (h : Ieee.double.div a b = none) (hk : ∀ w' x, Ex [] w w' → w'.heap = w.heap → K (.float .f64 (nanB x)) w') : wBinF P .quo t (.float .f64 a) (.float .f64 b) w K := by
  intro c
  unfold runW binS
  have : (eqGuard .quo t (if c = true then .const (.float .f64 a) else .tmp 0) (.tmp 0) (.float .f64 a) (.float .f64 b)) = pure () := rfl
  rw [this]
  simp only [binOp, Op.floatArith, Sem.run_bind, Sem.run_pure, Result.andThen_ok, FloatKind.format, h, ne_eq, not_true_eq_false, if_false, Go.choose, Sem.run]
  exact hk _ _ (Ex.refl _ _).drew rfl
end m7
end Go.Dn
end
section
/-! Control: parts that are joined, loops, guarded parts; small things on lists. -/
set_option linter.unusedVariables false
set_option linter.unusedSimpArgs false
namespace Go.Dn
open Go
abbrev ptr (h : Nat) : Value := .pointer (some ⟨h, 0, none⟩)
theorem get_mid {α : Type} {X Y : List α} {x : α} {i : Nat} (h : X.length = i) : (X ++ x :: Y)[i]? = some x := by subst h; simp
theorem set_mid {α : Type} {X Y : List α} {x y : α} {i : Nat} (h : X.length = i) : (X ++ x :: Y).set i y = X ++ y :: Y := by subst h; simp
def ivs (l : List Nat) : List Value := l.map fun (n : Nat) => Value.int .i64 (n : Int)
theorem ivs_length (l : List Nat) : (ivs l).length = l.length := by simp [ivs]
theorem ivs_append (a b : List Nat) : ivs (a ++ b) = ivs a ++ ivs b := by simp [ivs]
theorem ivs_get {l : List Nat} {i n : Nat} (h : l[i]? = some n) : (ivs l)[i]? = some (.int .i64 (n : Int)) := by simp [ivs, h]
theorem j0_of {body : (World → Prop) → Prop} {k : Env → World → Prop} (I : World → Prop) (hb : ∀ k', (∀ w', I w' → k' w') → body k') (hk : ∀ J w', I w' → k J w') : wJ0 body k :=
  hb _ fun w' h J => hk J w' h
theorem j1_of {body : (Value → World → Prop) → Prop} {k : Env → Value → World → Prop} (I : Value → World → Prop) (hb : ∀ k', (∀ v w', I v w' → k' v w') → body k') (hk : ∀ J v w', I v w' → k J v w') : wJ1 body k :=
  hb _ fun v w' h J => hk J v w' h
theorem j2_of {body : (Value → Value → World → Prop) → Prop} {k : Env → Value → Value → World → Prop} (I : Value → Value → World → Prop) (hb : ∀ k', (∀ u v w', I u v w' → k' u v w') → body k') (hk : ∀ J u v w', I u v w' → k J u v w') : wJ2 body k :=
  hb _ fun u v w' h J => hk J u v w' h
theorem j3_of {body : (Value → Value → Value → World → Prop) → Prop} {k : Env → Value → Value → Value → World → Prop} (I : Value → Value → Value → World → Prop) (hb : ∀ k', (∀ u v x w', I u v x w' → k' u v x w') → body k') (hk : ∀ J u v x w', I u v x w' → k J u v x w') : wJ3 body k :=
  hb _ fun u v x w' h J => hk J u v x w' h
theorem loop_m0 {w0 : World} {step : Env → World → (World → Prop) → Prop} (I : Nat → World → Prop) {n : Nat} (h0 : I n w0)
    (hs : ∀ n J w k, I n w → (∀ n' w', n' < n → I n' w' → k w') → step J w k) : wL0 w0 step :=
  ⟨I, ⟨n, h0⟩, fun n J w hI => hs n J w _ hI fun n' w' hlt h => ⟨n', hlt, h⟩⟩
theorem loop_m1 {w0 : World} {x0 : Value} {step : Env → Value → World → (Value → World → Prop) → Prop} (I : Nat → Value → World → Prop) {n : Nat} (h0 : I n x0 w0)
    (hs : ∀ n J x w k, I n x w → (∀ n' x' w', n' < n → I n' x' w' → k x' w') → step J x w k) : wL1 x0 w0 step :=
  ⟨I, ⟨n, h0⟩, fun n J x w hI => hs n J x w _ hI fun n' x' w' hlt h => ⟨n', hlt, h⟩⟩
theorem loop_m2 {w0 : World} {x0 y0 : Value} {step : Env → Value → Value → World → (Value → Value → World → Prop) → Prop} (I : Nat → Value → Value → World → Prop) {n : Nat} (h0 : I n x0 y0 w0)
    (hs : ∀ n J x y w k, I n x y w → (∀ n' x' y' w', n' < n → I n' x' y' w' → k x' y' w') → step J x y w k) : wL2 x0 y0 w0 step :=
  ⟨I, ⟨n, h0⟩, fun n J x y w hI => hs n J x y w _ hI fun n' x' y' w' hlt h => ⟨n', hlt, h⟩⟩
theorem loop_m3 {w0 : World} {x0 y0 z0 : Value} {step : Env → Value → Value → Value → World → (Value → Value → Value → World → Prop) → Prop} (I : Nat → Value → Value → Value → World → Prop) {n : Nat} (h0 : I n x0 y0 z0 w0)
    (hs : ∀ n J x y z w k, I n x y z w → (∀ n' x' y' z' w', n' < n → I n' x' y' z' w' → k x' y' z' w') → step J x y z w k) : wL3 x0 y0 z0 w0 step :=
  ⟨I, ⟨n, h0⟩, fun n J x y z w hI => hs n J x y z w _ hI fun n' x' y' z' w' hlt h => ⟨n', hlt, h⟩⟩
theorem or_w {b r : Bool} {body : (Value → World → Prop) → Prop} {w : World} {k : Value → World → Prop} (h : b = false → ∀ k', (∀ w', Ex [] w w' → k' (.bool r) w') → body k')
    (hk : ∀ w', Ex [] w w' → k (.bool (b || r)) w') : wGrp (.bool b) false body w fun _ v w => wPick (.bool b) (.bool true) v w k := by
  unfold wGrp
  cases b
  · simp only [if_true]
    exact h rfl _ fun w' hE J => hk w' hE
  · simp only [Bool.true_eq_false, if_false]
    exact fun J => hk w (Ex.refl _ _)
theorem and_w {b r : Bool} {body : (Value → World → Prop) → Prop} {w : World} {k : Value → World → Prop} (h : b = true → ∀ k', (∀ w', Ex [] w w' → k' (.bool r) w') → body k')
    (hk : ∀ w', Ex [] w w' → k (.bool (b && r)) w') : wGrp (.bool b) true body w fun _ v w => wPick (.bool b) v (.bool false) w k := by
  unfold wGrp
  cases b
  · simp only [Bool.false_eq_true, if_false]
    exact fun J => hk w (Ex.refl _ _)
  · simp only [if_true]
    exact h rfl _ fun w' hE J => hk w' hE
theorem ptr_ne_nil {P : Program} {w : World} {K : Value → World → Prop} {t d : TypeId} (ht : P.underlying t = some (.pointer d)) (a : Addr) : wBin P .eql t (.pointer (some a)) (.pointer none) w K = K (.bool false) w := by
  refine bin_eq_of (by simp) (by simp) (by simp) (by simp) (fun _ _ => rfl) (fun w' => ?_)
  unfold Op.equal Op.maxDepth
  rw [Op.equalIn]
  simp only [Sem.run_bind, und_run ht, Result.andThen_ok]
  rfl
theorem nil_eq_nil {P : Program} {w : World} {K : Value → World → Prop} {t d : TypeId} (ht : P.underlying t = some (.pointer d)) : wBin P .eql t (.pointer none) (.pointer none) w K = K (.bool true) w := by
  refine bin_eq_of (by simp) (by simp) (by simp) (by simp) (fun _ _ => rfl) (fun w' => ?_)
  unfold Op.equal Op.maxDepth
  rw [Op.equalIn]
  simp only [Sem.run_bind, und_run ht, Result.andThen_ok]
  rfl
theorem ptr_neq_nil {P : Program} {w : World} {K : Value → World → Prop} {t d : TypeId} (ht : P.underlying t = some (.pointer d)) (a : Addr) : wBin P .neq t (.pointer (some a)) (.pointer none) w K = K (.bool true) w := by
  refine bin_ne_of (b := false) (by simp) (by simp) (by simp) (by simp) (fun _ _ => rfl) (fun w' => ?_)
  unfold Op.equal Op.maxDepth
  rw [Op.equalIn]
  simp only [Sem.run_bind, und_run ht, Result.andThen_ok]
  rfl
theorem nil_neq_nil {P : Program} {w : World} {K : Value → World → Prop} {t d : TypeId} (ht : P.underlying t = some (.pointer d)) : wBin P .neq t (.pointer none) (.pointer none) w K = K (.bool false) w := by
  refine bin_ne_of (b := true) (by simp) (by simp) (by simp) (by simp) (fun _ _ => rfl) (fun w' => ?_)
  unfold Op.equal Op.maxDepth
  rw [Op.equalIn]
  simp only [Sem.run_bind, und_run ht, Result.andThen_ok]
  rfl
theorem Ex.back {S : List Nat} {w w' : World} {b : Nat} {t : TypeId} {cs : List Value} (h : Ex (b :: S) w w') (h1 : Blk w b t cs) (h2 : Blk w' b t cs) : Ex S w w' :=
  ⟨h.os, h.tape, h.output, h.size, fun k hk hn => by
    by_cases e : k = b
    · subst e; unfold Blk at h1 h2; rw [h1, h2]
    · exact h.block k hk (by simp [e, hn])⟩
theorem set_same {α : Type} {cs : List α} {o : Nat} {x : α} (h : cs[o]? = some x) : cs.set o x = cs := by
  obtain ⟨h1, rfl⟩ := List.getElem?_eq_some_iff.1 h
  exact List.set_getElem_self h1
theorem SlG.hi {P : Program} {w : World} {v : Value} {size n : Nat} {xs : List Value} {t : TypeId} {j : Int} {ik : IntKind} {k : Value → World → Prop} (S : SlG w size v xs) (ht : slT P t = some size) (hs : 0 < size) (hn : xs.length = n * size) (h0 : 0 ≤ j) (h1 : j ≤ n)
    (hk : ∀ v', v'.ownBlock = v.ownBlock → SlG w size v' (xs.take (j.toNat * size)) → k v' w) : wSlice P t v none (some (.int ik j)) none w k := by
  obtain ⟨A, m, c, rfl, hl, hc, hr⟩ := S
  have : m = n := Nat.eq_of_mul_eq_mul_right hs (hl.symm.trans hn)
  subst this
  rw [sliceS_hi ht h0 (by omega)]
  refine hk _ ?_ ⟨A, j.toNat, c, rfl, ?_, by omega, fun hne => ?_⟩
  · cases A <;> rfl
  · rw [List.length_take, hl]
    have : j.toNat * size ≤ m * size := Nat.mul_le_mul_right _ (by omega)
    omega
  · obtain ⟨b, o, rfl, hcs⟩ := hr (by omega)
    refine ⟨b, o, rfl, fun i v hv => ?_⟩
    rw [List.getElem?_take] at hv
    split at hv
    · exact hcs i v hv
    · cases hv
/-- What a slice of one's own owns is new, or was its own. -/
theorem Own.newb {w : World} {base size : Nat} {e : TypeId} {v : Value} {xs : List Value} (h : Own w base e size v xs) : ∀ y ∈ v.ownBlock.toList, base ≤ y ∧ y < w.heap.size := by
  intro y hy
  cases hv : v.ownBlock with
  | none => rw [hv] at hy; simp at hy
  | some g =>
    rw [hv] at hy
    simp at hy
    subst hy
    have := h.blk hv
    exact ⟨this.1, this.2.1⟩
end Go.Dn
end
section
/-! Names of functions and types, printed by mkg.py. -/
set_option maxRecDepth 100000
set_option linter.unusedVariables false
namespace Go.Dn
open Go Go.Proofs
noncomputable abbrev P : Program := Try.prog
theorem mixedP : P.follows .mixedOrders = true := by kernel_rfl
abbrev T___ : TypeId := 0
abbrev T_int64 : TypeId := 2
abbrev T_int : TypeId := 3
abbrev T_bool : TypeId := 4
abbrev T_uint8 : TypeId := 5
abbrev T_string : TypeId := 9
abbrev T_Llaw03_Act : TypeId := 22
abbrev T_pdisk_Disk : TypeId := 24
abbrev T_LA128uint8 : TypeId := 25
abbrev T_Lref03_Write : TypeId := 26
abbrev T_ref03_Disk : TypeId := 28
abbrev T_Luint8 : TypeId := 33
abbrev T_Lbool : TypeId := 34
abbrev T_law03_Act : TypeId := 36
abbrev T_A128uint8 : TypeId := 39
abbrev T_ref03_Write : TypeId := 41
abbrev T_Lref05_Use : TypeId := 44
abbrev T_Lcodec_Use : TypeId := 45
abbrev T_uint32 : TypeId := 46
abbrev T_ref05_Use : TypeId := 48
abbrev T_codec_Use : TypeId := 49
abbrev T_Lfloat64 : TypeId := 50
abbrev T_float64 : TypeId := 55
abbrev T_Llaw10_Act : TypeId := 57
abbrev T_Lint : TypeId := 58
abbrev T_pimap_Map : TypeId := 59
abbrev T_pusage_Table : TypeId := 61
abbrev T_mapAintint : TypeId := 64
abbrev T_ref05_Slot : TypeId := 66
abbrev T_law10_Act : TypeId := 68
abbrev T_api_Errno : TypeId := 69
abbrev T_codec_Slot : TypeId := 72
abbrev T_Lapi_Sector : TypeId := 81
abbrev T_api_Sector : TypeId := 83
abbrev T_A8int : TypeId := 93
abbrev T_ref05_Inode : TypeId := 95
abbrev T_codec_Inode : TypeId := 97
abbrev T_uint64 : TypeId := 107
abbrev T_ref05_Header : TypeId := 109
abbrev T_codec_Header : TypeId := 110
abbrev T_A32int : TypeId := 118
abbrev T_Lref05_Slot : TypeId := 133
abbrev T_Lcodec_Slot : TypeId := 134
abbrev T_Lref05_Record : TypeId := 142
abbrev T_Lcodec_Record : TypeId := 143
abbrev T_ref05_Record : TypeId := 145
abbrev T_codec_Record : TypeId := 146
abbrev T_Lref05_Entry : TypeId := 154
abbrev T_ref05_Summary : TypeId := 156
abbrev T_Lcodec_Entry : TypeId := 158
abbrev T_codec_Summary : TypeId := 160
abbrev T_ref09_Table : TypeId := 171
abbrev T_Llaw09_Act : TypeId := 179
abbrev T_law09_Act : TypeId := 183
abbrev T_Luint64 : TypeId := 191
abbrev T_ref04_Geom : TypeId := 197
abbrev T_ref11_Place : TypeId := 199
abbrev T_slog_Place : TypeId := 201
abbrev T_slog_Layout : TypeId := 203
abbrev T_geom_Geom : TypeId := 206
abbrev T_Lref11_Place : TypeId := 209
abbrev T_Llaw11_Step : TypeId := 214
abbrev T_Lref11_Item : TypeId := 217
abbrev T_ref05_Entry : TypeId := 219
abbrev T_ref11_Item : TypeId := 221
abbrev T_Lslog_Item : TypeId := 223
abbrev T_Lslog_Batch : TypeId := 225
abbrev T_Lslog_Found : TypeId := 228
abbrev T_slog_Batch : TypeId := 230
abbrev T_LLref11_Item : TypeId := 234
abbrev T_law11_Step : TypeId := 236
abbrev T_codec_Entry : TypeId := 240
abbrev T_slog_Found : TypeId := 242
abbrev T_disk_state : TypeId := 258
abbrev T_Ldisk_write : TypeId := 259
abbrev T_disk_Disk : TypeId := 261
abbrev T_disk_write : TypeId := 265
abbrev T_func_codec_Use__bool : TypeId := 268
abbrev T_imap_Map : TypeId := 270
abbrev T_usage_Table : TypeId := 273
abbrev T_func_codec_Slot__bool : TypeId := 275
abbrev T_func_int___uint64__uint64_ : TypeId := 289
abbrev T_Lref05_Field : TypeId := 298
abbrev T_Lint64 : TypeId := 302
abbrev T_num_Writer : TypeId := 315
abbrev T_ref05_Field : TypeId := 323
abbrev T_slog_Item : TypeId := 353
abbrev T_Lref04_Part : TypeId := 360
abbrev T_Lslog_group : TypeId := 362
abbrev T_slog_writer : TypeId := 367
abbrev T_slog_group : TypeId := 369
abbrev T_pcodec_writer : TypeId := 380
abbrev T_codec_writer : TypeId := 382
abbrev T_pcodec_reader : TypeId := 392
abbrev T_codec_reader : TypeId := 394
abbrev T_num_Reader : TypeId := 408
abbrev T_func_codec_Record__bool : TypeId := 419
abbrev T_func_codec_Entry__bool : TypeId := 428
abbrev T_ref04_Part : TypeId := 438
abbrev T_uint : TypeId := 454
abbrev n_main_main : FuncId := 0
abbrev n_gosem_cut : FuncId := 1
abbrev n_gosem_cut_init : FuncId := 2
abbrev n_law03_DiskTwins : FuncId := 3
abbrev n_law16_CleanTells : FuncId := 4
abbrev n_top_DrumlinTables : FuncId := 5
abbrev n_law05_CodecInodes : FuncId := 6
abbrev n_law05_CodecHeaders : FuncId := 7
abbrev n_law05_CodecPointers : FuncId := 8
abbrev n_law05_CodecUses : FuncId := 9
abbrev n_law09_UsageParts : FuncId := 10
abbrev n_law05_CodecSlots : FuncId := 11
abbrev n_law05_CodecRecords : FuncId := 12
abbrev n_law05_CodecSummaries : FuncId := 13
abbrev n_law09_UsageOrders : FuncId := 14
abbrev n_law09_UsageLoads : FuncId := 15
abbrev n_law09_UsagePlays : FuncId := 16
abbrev n_law10_ImapLoads : FuncId := 17
abbrev n_law09_UsageRanks : FuncId := 18
abbrev n_law11_SlogPlans : FuncId := 19
abbrev n_law11_SlogFakes : FuncId := 20
abbrev n_law11_SlogWhole : FuncId := 21
abbrev n_law03_awake : FuncId := 22
abbrev n_law03_sized : FuncId := 23
abbrev n_law03_Do : FuncId := 24
abbrev n_disk_Disk_Twin : FuncId := 25
abbrev n_disk_Disk_Same : FuncId := 26
abbrev n_law03_Is : FuncId := 27
abbrev n_law16_awake : FuncId := 28
abbrev n_clean_Filled : FuncId := 29
abbrev n_clean_Waste : FuncId := 30
abbrev n_ref16_Waste : FuncId := 31
abbrev n_clean_Worst : FuncId := 32
abbrev n_ref16_Worst : FuncId := 33
abbrev n_imap_New : FuncId := 34
abbrev n_usage_New : FuncId := 35
abbrev n_imap_Map_Size : FuncId := 36
abbrev n_imap_Map_Alloc : FuncId := 37
abbrev n_imap_Map_Get : FuncId := 38
abbrev n_imap_Map_Set : FuncId := 39
abbrev n_usage_Table_Count : FuncId := 40
abbrev n_usage_Table_Set : FuncId := 41
abbrev n_imap_Map_Release : FuncId := 42
abbrev n_usage_Table_Live : FuncId := 43
abbrev n_imap_Map_Count : FuncId := 44
abbrev n_usage_Table_Release : FuncId := 45
abbrev n_imap_Read : FuncId := 46
abbrev n_imap_Map_Sectors : FuncId := 47
abbrev n_codec_WriteUses : FuncId := 48
abbrev n_usage_Table_Uses : FuncId := 49
abbrev n_codec_ReadUses : FuncId := 50
abbrev n_usage_Load : FuncId := 51
abbrev n_usage_Table_Clean : FuncId := 52
abbrev n_usage_Table_Order : FuncId := 53
abbrev n_law05_awake : FuncId := 54
abbrev n_codec_WriteInode : FuncId := 55
abbrev n_law05_Inode : FuncId := 56
abbrev n_ref05_WriteInode : FuncId := 57
abbrev n_codec_ReadInode : FuncId := 58
abbrev n_law05_turn : FuncId := 59
abbrev n_ref05_ReadInode : FuncId := 60
abbrev n_codec_WriteHeader : FuncId := 61
abbrev n_ref05_WriteHeader : FuncId := 62
abbrev n_codec_ReadHeader : FuncId := 63
abbrev n_ref05_ReadHeader : FuncId := 64
abbrev n_codec_WritePointers : FuncId := 65
abbrev n_ref05_WritePointers : FuncId := 66
abbrev n_codec_ReadPointers : FuncId := 67
abbrev n_ref01_Full : FuncId := 68
abbrev n_ref05_ReadPointers : FuncId := 69
abbrev n_ref05_WriteUses : FuncId := 70
abbrev n_ref05_ReadUses : FuncId := 71
abbrev n_law09_awake : FuncId := 72
abbrev n_usage_Part : FuncId := 73
abbrev n_codec_WriteSlots : FuncId := 74
abbrev n_ref05_WriteSlots : FuncId := 75
abbrev n_codec_ReadSlots : FuncId := 76
abbrev n_ref05_ReadSlots : FuncId := 77
abbrev n_codec_WriteRecords : FuncId := 78
abbrev n_ref05_WriteRecords : FuncId := 79
abbrev n_codec_ReadRecords : FuncId := 80
abbrev n_ref05_ReadRecords : FuncId := 81
abbrev n_codec_WriteSummary : FuncId := 82
abbrev n_law05_Summary : FuncId := 83
abbrev n_ref05_WriteSummary : FuncId := 84
abbrev n_codec_ReadSummary : FuncId := 85
abbrev n_law05_same : FuncId := 86
abbrev n_law05_Told : FuncId := 87
abbrev n_ref05_ReadSummary : FuncId := 88
abbrev n_ref09_New : FuncId := 89
abbrev n_law09_is : FuncId := 90
abbrev n_ref09_Better : FuncId := 91
abbrev n_law09_ints : FuncId := 92
abbrev n_ref09_Order : FuncId := 93
abbrev n_law09_do : FuncId := 94
abbrev n_law10_awake : FuncId := 95
abbrev n_law10_Slot : FuncId := 96
abbrev n_ref10_May : FuncId := 97
abbrev n_imap_Load : FuncId := 98
abbrev n_law10_Is : FuncId := 99
abbrev n_ref10_Sectors : FuncId := 100
abbrev n_math_Float64frombits : FuncId := 101
abbrev n_usage_Rank : FuncId := 102
abbrev n_ref09_Rank : FuncId := 103
abbrev n_law11_awake : FuncId := 104
abbrev n_ref04_May : FuncId := 105
abbrev n_slog_Plan : FuncId := 106
abbrev n_law04_Own : FuncId := 107
abbrev n_law11_Own : FuncId := 108
abbrev n_ref11_Walk : FuncId := 109
abbrev n_ref11_At : FuncId := 110
abbrev n_law11_geometry : FuncId := 111
abbrev n_law11_fresh : FuncId := 112
abbrev n_slog_Append : FuncId := 113
abbrev n_law11_Items : FuncId := 114
abbrev n_slog_Scan : FuncId := 115
abbrev n_ref01_Equal : FuncId := 116
abbrev n_law11_deal : FuncId := 117
abbrev n_law11_few : FuncId := 118
abbrev n_disk_Disk_Arm : FuncId := 119
abbrev n_disk_Disk_Crash : FuncId := 120
abbrev n_disk_Disk_Read : FuncId := 121
abbrev n_disk_New : FuncId := 122
abbrev n_disk_Disk_Write : FuncId := 123
abbrev n_ref03_New : FuncId := 124
abbrev n_ref03_Put : FuncId := 125
abbrev n_ref03_Read : FuncId := 126
abbrev n_disk_Disk_Flush : FuncId := 127
abbrev n_ref03_Flush : FuncId := 128
abbrev n_ref03_Arm : FuncId := 129
abbrev n_ref03_Crash : FuncId := 130
abbrev n_slices_Clone_api_Sector : FuncId := 131
abbrev n_slices_Clone_disk_write : FuncId := 132
abbrev n_slices_Equal_api_Sector : FuncId := 133
abbrev n_slices_Equal_disk_write : FuncId := 134
abbrev n_disk_Disk_Size : FuncId := 135
abbrev n_disk_Disk_Dead : FuncId := 136
abbrev n_disk_Disk_Deeds : FuncId := 137
abbrev n_disk_Disk_Queue : FuncId := 138
abbrev n_clean_dirty : FuncId := 139
abbrev n_usage_among : FuncId := 140
abbrev n_slices_IndexFunc_codec_Slot : FuncId := 141
abbrev n_imap_Map_Alloc_c1 : FuncId := 142
abbrev n_imap_Map_has : FuncId := 143
abbrev n_imap_may : FuncId := 144
abbrev n_usage_Table_has : FuncId := 145
abbrev n_imap_Map_given : FuncId := 146
abbrev n_imap_Map_Used : FuncId := 147
abbrev n_usage_Table_which : FuncId := 148
abbrev n_usage_Table_Release_c1 : FuncId := 149
abbrev n_slices_Chunk_codec_Slot : FuncId := 150
abbrev n_codec_write_LLcodec_Use : FuncId := 151
abbrev n_codec_passUses : FuncId := 152
abbrev n_codec_mayUses : FuncId := 153
abbrev n_slices_Clone_codec_Use : FuncId := 154
abbrev n_codec_read_LLcodec_Use : FuncId := 155
abbrev n_usage_clean : FuncId := 156
abbrev n_usage_Table_Order_c1 : FuncId := 157
abbrev n_usage_Table_Order_c2 : FuncId := 158
abbrev n_slices_SortStableFunc_int : FuncId := 159
abbrev n_usage_Table_Order_c3 : FuncId := 160
abbrev n_cmp_Compare_uint64 : FuncId := 161
abbrev n_codec_write_codec_Inode : FuncId := 162
abbrev n_codec_passInode : FuncId := 163
abbrev n_codec_mayInode : FuncId := 164
abbrev n_ref05_Sealed : FuncId := 165
abbrev n_ref05_InodeFields : FuncId := 166
abbrev n_codec_read_codec_Inode : FuncId := 167
abbrev n_ref02_Crc : FuncId := 168
abbrev n_ref05_Opened : FuncId := 169
abbrev n_codec_write_codec_Header : FuncId := 170
abbrev n_codec_passHeader : FuncId := 171
abbrev n_codec_mayHeader : FuncId := 172
abbrev n_ref01_Low : FuncId := 173
abbrev n_ref02_Make : FuncId := 174
abbrev n_codec_read_codec_Header : FuncId := 175
abbrev n_ref02_Open : FuncId := 176
abbrev n_ref01_Num : FuncId := 177
abbrev n_codec_among : FuncId := 178
abbrev n_num_Writer_Num : FuncId := 179
abbrev n_num_Writer_Sector : FuncId := 180
abbrev n_num_Read : FuncId := 181
abbrev n_num_Reader_Num : FuncId := 182
abbrev n_codec_write_LLcodec_Slot : FuncId := 183
abbrev n_codec_passSlots : FuncId := 184
abbrev n_codec_maySlots : FuncId := 185
abbrev n_codec_read_LLcodec_Slot : FuncId := 186
abbrev n_codec_write_LLcodec_Record : FuncId := 187
abbrev n_codec_passRecords : FuncId := 188
abbrev n_codec_mayRecords : FuncId := 189
abbrev n_codec_read_LLcodec_Record : FuncId := 190
abbrev n_codec_write_codec_Summary : FuncId := 191
abbrev n_codec_passSummary : FuncId := 192
abbrev n_codec_maySummary : FuncId := 193
abbrev n_codec_read_codec_Summary : FuncId := 194
abbrev n_ref09_between : FuncId := 195
abbrev n_usage_Table_Segs : FuncId := 196
abbrev n_usage_Table_Get : FuncId := 197
abbrev n_law09_told : FuncId := 198
abbrev n_usage_Table_First : FuncId := 199
abbrev n_ref09_Count : FuncId := 200
abbrev n_usage_Table_Touch : FuncId := 201
abbrev n_ref09_Touch : FuncId := 202
abbrev n_ref09_Set : FuncId := 203
abbrev n_ref09_Release : FuncId := 204
abbrev n_slices_ContainsFunc_codec_Slot : FuncId := 205
abbrev n_imap_Load_c1 : FuncId := 206
abbrev n_slices_Clone_codec_Slot : FuncId := 207
abbrev n_imap_Map_Slots : FuncId := 208
abbrev n_law10_Told : FuncId := 209
abbrev n_ref10_Used : FuncId := 210
abbrev n_slices_Insert_int : FuncId := 211
abbrev n_ref09_none : FuncId := 212
abbrev n_ref04_Room : FuncId := 213
abbrev n_slog_plan : FuncId := 214
abbrev n_slog_Plan_c1 : FuncId := 215
abbrev n_geom_Geom_Block : FuncId := 216
abbrev n_ref11_Of : FuncId := 217
abbrev n_ref04_Block : FuncId := 218
abbrev n_ref04_Parts : FuncId := 219
abbrev n_slog_groups : FuncId := 220
abbrev n_slog_writer_write : FuncId := 221
abbrev n_slog_writer_flush : FuncId := 222
abbrev n_slog_Place_of : FuncId := 223
abbrev n_geom_Geom_Summary : FuncId := 224
abbrev n_slog_seg : FuncId := 225
abbrev n_slog_Batch_add : FuncId := 226
abbrev n_disk_Disk_lay : FuncId := 227
abbrev n_disk_Disk_may : FuncId := 228
abbrev n_slices_Backward_disk_write : FuncId := 229
abbrev n_disk_Disk_deed : FuncId := 230
abbrev n_ref03_may : FuncId := 231
abbrev n_ref03_deed : FuncId := 232
abbrev n_ref03_lay : FuncId := 233
abbrev n_slices_Chunk_codec_Slot_c1 : FuncId := 234
abbrev n_seal_Make : FuncId := 235
abbrev n_codec_list_codec_Use : FuncId := 236
abbrev n_codec_passUse : FuncId := 237
abbrev n_codec_each_codec_Use : FuncId := 238
abbrev n_codec_mayUses_c1 : FuncId := 239
abbrev n_seal_Open : FuncId := 240
abbrev n_slices_stableCmpFunc_int : FuncId := 241
abbrev n_cmp_isNaN_uint64 : FuncId := 242
abbrev n_ref01_Has : FuncId := 243
abbrev n_num_Put : FuncId := 244
abbrev n_num_Get : FuncId := 245
abbrev n_codec_list_codec_Slot : FuncId := 246
abbrev n_codec_passSlot : FuncId := 247
abbrev n_codec_each_codec_Slot : FuncId := 248
abbrev n_codec_maySlots_c1 : FuncId := 249
abbrev n_codec_list_codec_Record : FuncId := 250
abbrev n_codec_passRecord : FuncId := 251
abbrev n_codec_each_codec_Record : FuncId := 252
abbrev n_codec_mayRecords_c1 : FuncId := 253
abbrev n_codec_flag : FuncId := 254
abbrev n_codec_list_codec_Entry : FuncId := 255
abbrev n_codec_passEntry : FuncId := 256
abbrev n_codec_each_codec_Entry : FuncId := 257
abbrev n_codec_maySummary_c1 : FuncId := 258
abbrev n_slices_IndexFunc_codec_Use : FuncId := 259
abbrev n_ref09_has : FuncId := 260
abbrev n_ref09_put : FuncId := 261
abbrev n_slices_overlaps_int : FuncId := 262
abbrev n_slices_rotateRight_int : FuncId := 263
abbrev n_ref04_Most : FuncId := 264
abbrev n_ref04_Cap : FuncId := 265
abbrev n_slices_ContainsFunc_int : FuncId := 266
abbrev n_slog_plan_c1 : FuncId := 267
abbrev n_slog_plan_c2 : FuncId := 268
abbrev n_slog_Place_step : FuncId := 269
abbrev n_geom_among : FuncId := 270
abbrev n_ref04_First : FuncId := 271
abbrev n_ref04_Chunks : FuncId := 272
abbrev n_ref04_Tables : FuncId := 273
abbrev n_slog_groups_c1 : FuncId := 274
abbrev n_geom_Geom_first : FuncId := 275
abbrev n_slices_Contains_int : FuncId := 276
abbrev n_slices_Backward_disk_write_c1 : FuncId := 277
abbrev n_num_Writer_Bytes : FuncId := 278
abbrev n_seal_Crc : FuncId := 279
abbrev n_codec_each_codec_Use_c1 : FuncId := 280
abbrev n_num_Reader_Bytes : FuncId := 281
abbrev n_slices_insertionSortCmpFunc_int : FuncId := 282
abbrev n_slices_symMergeCmpFunc_int : FuncId := 283
abbrev n_num_fits : FuncId := 284
abbrev n_codec_each_codec_Slot_c1 : FuncId := 285
abbrev n_codec_each_codec_Record_c1 : FuncId := 286
abbrev n_codec_each_codec_Entry_c1 : FuncId := 287
abbrev n_slices_rotateLeft_int : FuncId := 288
abbrev n_ref04_up : FuncId := 289
abbrev n_slices_IndexFunc_int : FuncId := 290
abbrev n_geom_Geom_Chunks : FuncId := 291
abbrev n_geom_Geom_Tables : FuncId := 292
abbrev n_slices_Index_int : FuncId := 293
abbrev n_num_Reader_Left : FuncId := 294
abbrev n_slices_rotateCmpFunc_int : FuncId := 295
abbrev n_slices_Reverse_int : FuncId := 296
abbrev n_geom_up : FuncId := 297
abbrev n_slices_swapRangeCmpFunc_int : FuncId := 298
abbrev n_runtime_boundsError_Error : FuncId := 299
abbrev n_runtime_boundsError_RuntimeError : FuncId := 300
abbrev n_runtime_errorString_Error : FuncId := 301
abbrev n_runtime_errorString_RuntimeError : FuncId := 302
abbrev n_runtime_plainError_Error : FuncId := 303
abbrev n_runtime_plainError_RuntimeError : FuncId := 304
abbrev n_runtime_errorAddressString_Error : FuncId := 305
abbrev n_runtime_errorAddressString_RuntimeError : FuncId := 306
abbrev n_runtime_TypeAssertionError_Error : FuncId := 307
abbrev n_runtime_TypeAssertionError_RuntimeError : FuncId := 308
abbrev n_runtime_PanicNilError_Error : FuncId := 309
abbrev n_runtime_PanicNilError_RuntimeError : FuncId := 310
abbrev n_internal_abi_Type_Align : FuncId := 311
abbrev n_internal_runtime_maps_unhashableTypeError_Error : FuncId := 312
abbrev n_internal_runtime_maps_unhashableTypeError_RuntimeError : FuncId := 313
abbrev n_geom_Geom_Cap : FuncId := 314
abbrev n_codec_writer_int : FuncId := 315
abbrev n_codec_writer_more : FuncId := 316
abbrev n_codec_writer_wide : FuncId := 317
abbrev n_codec_writer_word : FuncId := 318
abbrev n_codec_reader_int : FuncId := 319
abbrev n_codec_reader_more : FuncId := 320
abbrev n_codec_reader_wide : FuncId := 321
abbrev n_codec_reader_word : FuncId := 322
abbrev n_internal_abi_Kind_String : FuncId := 323
end Go.Dn
end
