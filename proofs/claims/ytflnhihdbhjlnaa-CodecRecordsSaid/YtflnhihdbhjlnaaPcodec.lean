import Derived.Test.YtflnhihdbhjlnaaPseal
/-! Fields in bytes, plain. -/
set_option linter.unusedVariables false
set_option linter.unusedSimpArgs false
namespace Go.Dn
/-- May a number stand in so many bytes? -/
def okN (wd : Nat) (n : Int) : Bool := decide (0 ≤ n) && decide (n.toNat < 256 ^ wd)
def encF : List Nat → List Int → List Nat
  | wd :: ws, n :: ns => low n.toNat wd ++ encF ws ns
  | _, _ => []
def okNs : List Nat → List Int → Bool
  | wd :: ws, n :: ns => okN wd n && okNs ws ns
  | _, _ => true
/-- What a form does to a state, number by number. -/
def runS {σ : Type} (stp : σ → Nat → Int → σ) : σ → List Nat → List Int → σ
  | st, wd :: ws, n :: ns => runS stp (stp st wd n) ws ns
  | st, _, _ => st
def runV {σ : Type} (stp : σ → Nat → Int → σ) (val : σ → Nat → Int → Int) : σ → List Nat → List Int → List Int
  | st, wd :: ws, n :: ns => val st wd n :: runV stp val (stp st wd n) ws ns
  | _, _, _ => []
theorem runV_length {σ : Type} (stp : σ → Nat → Int → σ) (val : σ → Nat → Int → Int) : ∀ (ws : List Nat) (ns : List Int) (st : σ), ws.length = ns.length → (runV stp val st ws ns).length = ns.length
  | [], [], _, _ => rfl
  | _ :: ws, n :: ns, st, h => by simp only [runV, List.length_cons]; rw [runV_length stp val ws ns _ (by simpa using h)]
  | [], _ :: _, _, h => by simp at h
  | _ :: _, [], _, h => by simp at h
theorem runS_append {σ : Type} (stp : σ → Nat → Int → σ) : ∀ (ws : List Nat) (ns : List Int) (st : σ) (ws' : List Nat) (ns' : List Int), ws.length = ns.length → runS stp st (ws ++ ws') (ns ++ ns') = runS stp (runS stp st ws ns) ws' ns'
  | [], [], _, _, _, _ => rfl
  | _ :: ws, n :: ns, st, _, _, h => by simp only [List.cons_append, runS]; exact runS_append stp ws ns _ _ _ (by simpa using h)
  | [], _ :: _, _, _, _, h => by simp at h
  | _ :: _, [], _, _, _, h => by simp at h
theorem runV_append {σ : Type} (stp : σ → Nat → Int → σ) (val : σ → Nat → Int → Int) : ∀ (ws : List Nat) (ns : List Int) (st : σ) (ws' : List Nat) (ns' : List Int), ws.length = ns.length → runV stp val st (ws ++ ws') (ns ++ ns') = runV stp val st ws ns ++ runV stp val (runS stp st ws ns) ws' ns'
  | [], [], _, _, _, _ => rfl
  | _ :: ws, n :: ns, st, _, _, h => by simp only [List.cons_append, runV, runS]; rw [runV_append stp val ws ns _ _ _ (by simpa using h)]
  | [], _ :: _, _, _, _, h => by simp at h
  | _ :: _, [], _, _, _, h => by simp at h

/-! A form that writes: what stands there, and whether something had no room. -/
def wstp (st : List Nat × Bool) (wd : Nat) (n : Int) : List Nat × Bool :=
  (st.1 ++ (if n.toNat < 256 ^ wd then low n.toNat wd else List.replicate wd 0), st.2 || !okN wd n)
def wval (_ : List Nat × Bool) (_ : Nat) (n : Int) : Int := n
theorem runV_w : ∀ (ws : List Nat) (ns : List Int) (st : List Nat × Bool), ws.length = ns.length → runV wstp wval st ws ns = ns
  | [], [], _, _ => rfl
  | _ :: ws, n :: ns, st, h => by simp only [runV, wval]; rw [runV_w ws ns _ (by simpa using h)]
  | [], _ :: _, _, h => by simp at h
  | _ :: _, [], _, h => by simp at h
theorem runS_w_bad : ∀ (ws : List Nat) (ns : List Int) (st : List Nat × Bool), (runS wstp st ws ns).2 = (st.2 || !okNs ws ns)
  | [], _, st => by simp [runS, okNs]
  | _ :: _, [], st => by simp [runS, okNs]
  | wd :: ws, n :: ns, st => by
    simp only [runS, okNs]
    rw [runS_w_bad ws ns]
    simp only [wstp]
    cases st.2 <;> cases okN wd n <;> cases okNs ws ns <;> rfl
theorem runS_w_ok : ∀ (ws : List Nat) (ns : List Int) (st : List Nat × Bool), okNs ws ns = true → (runS wstp st ws ns).1 = st.1 ++ encF ws ns
  | [], _, st, _ => by simp [runS, encF]
  | _ :: _, [], st, _ => by simp [runS, encF]
  | wd :: ws, n :: ns, st, h => by
    simp only [okNs, Bool.and_eq_true] at h
    simp only [runS, encF]
    rw [runS_w_ok ws ns _ h.2]
    simp only [wstp]
    have := h.1
    unfold okN at this
    simp only [Bool.and_eq_true, decide_eq_true_eq] at this
    rw [if_pos this.2, List.append_assoc]
theorem runS_w_len : ∀ (ws : List Nat) (ns : List Int) (st : List Nat × Bool), ws.length = ns.length → (runS wstp st ws ns).1.length = st.1.length + ws.sum
  | [], [], st, _ => by simp [runS]
  | wd :: ws, n :: ns, st, h => by
    simp only [runS]
    rw [runS_w_len ws ns _ (by simpa using h)]
    simp only [wstp, List.length_append, List.sum_cons]
    split <;> simp [low_length] <;> omega
  | [], _ :: _, _, h => by simp at h
  | _ :: _, [], _, h => by simp at h
theorem runS_w_lt : ∀ (ws : List Nat) (ns : List Int) (st : List Nat × Bool), (∀ b ∈ st.1, b < 256) → ∀ b ∈ (runS wstp st ws ns).1, b < 256
  | [], _, st, h => by simpa [runS] using h
  | _ :: _, [], st, h => by simpa [runS] using h
  | wd :: ws, n :: ns, st, h => by
    simp only [runS]
    refine runS_w_lt ws ns _ fun b hb => ?_
    simp only [wstp, List.mem_append] at hb
    rcases hb with hb | hb
    · exact h b hb
    · split at hb
      · exact low_lt _ _ b hb
      · rw [List.mem_replicate] at hb; omega
theorem encF_length : ∀ (ws : List Nat) (ns : List Int), ws.length = ns.length → (encF ws ns).length = ws.sum
  | [], [], _ => rfl
  | wd :: ws, n :: ns, h => by simp only [encF, List.length_append, low_length, List.sum_cons]; rw [encF_length ws ns (by simpa using h)]
  | [], _ :: _, h => by simp at h
  | _ :: _, [], h => by simp at h
theorem encF_lt : ∀ (ws : List Nat) (ns : List Int), ∀ b ∈ encF ws ns, b < 256
  | [], _ => by simp [encF]
  | _ :: _, [] => by simp [encF]
  | wd :: ws, n :: ns => by
    intro b hb
    simp only [encF, List.mem_append] at hb
    rcases hb with hb | hb
    · exact low_lt _ _ b hb
    · exact encF_lt ws ns b hb
/-! A form that reads: where it stands, and whether it came to the end. -/
def rstp (body : List Nat) (st : Nat × Bool) (wd : Nat) (_ : Int) : Nat × Bool := (st.1 + wd, st.2 || !decide (st.1 + wd ≤ body.length))
def rval (body : List Nat) (st : Nat × Bool) (wd : Nat) (_ : Int) : Int := if st.1 + wd ≤ body.length then (numOf ((body.drop st.1).take wd) : Nat) else 0
/-- The numbers of bytes. -/
def decF : List Nat → List Nat → List Int
  | wd :: ws, b => ((numOf (b.take wd) : Nat) : Int) :: decF ws (b.drop wd)
  | [], _ => []
theorem decF_length (ws : List Nat) (b : List Nat) : (decF ws b).length = ws.length := by
  induction ws generalizing b with
  | nil => rfl
  | cons wd ws ih => simp [decF, ih]
theorem runS_r (body : List Nat) : ∀ (ws : List Nat) (ns : List Int) (st : Nat × Bool), ws.length = ns.length → (runS (rstp body) st ws ns).1 = st.1 + ws.sum ∧ ((runS (rstp body) st ws ns).2 = true ↔ st.2 = true ∨ (ws ≠ [] ∧ body.length < st.1 + ws.sum))
  | [], [], st, _ => by simp [runS]
  | wd :: ws, n :: ns, st, h => by
    obtain ⟨h1, h2⟩ := runS_r body ws ns (rstp body st wd n) (by simpa using h)
    simp only [runS]
    rw [h1, h2]
    simp only [rstp, List.sum_cons, Bool.or_eq_true, Bool.not_eq_true', decide_eq_false_iff_not]
    refine ⟨by omega, ?_⟩
    have hs : ws = [] → ws.sum = 0 := fun h => by rw [h]; rfl
    constructor
    · rintro ((h | h) | ⟨_, h⟩)
      · exact .inl h
      · exact .inr ⟨by simp, by omega⟩
      · exact .inr ⟨by simp, by omega⟩
    · rintro (h | ⟨_, h⟩)
      · exact .inl (.inl h)
      · by_cases he : ws = []
        · have := hs he; exact .inl (.inr (by omega))
        · exact .inr ⟨he, by omega⟩
  | [], _ :: _, _, h => by simp at h
  | _ :: _, [], _, h => by simp at h
theorem runV_r (body : List Nat) : ∀ (ws : List Nat) (ns : List Int) (st : Nat × Bool), ws.length = ns.length → st.1 + ws.sum ≤ body.length → runV (rstp body) (rval body) st ws ns = decF ws (body.drop st.1)
  | [], [], st, _, _ => rfl
  | wd :: ws, n :: ns, st, h, hl => by
    simp only [List.sum_cons] at hl
    simp only [runV, decF]
    rw [runV_r body ws ns _ (by simpa using h) (by simp only [rstp]; omega)]
    simp only [rstp, rval, List.drop_drop]
    rw [if_pos (by omega)]
  | [], _ :: _, _, h, _ => by simp at h
  | _ :: _, [], _, h, _ => by simp at h
theorem decF_encF : ∀ (ws : List Nat) (ns : List Int) (rest : List Nat), ws.length = ns.length → okNs ws ns = true → decF ws (encF ws ns ++ rest) = ns
  | [], [], _, _, _ => rfl
  | wd :: ws, n :: ns, rest, h, hok => by
    simp only [okNs, Bool.and_eq_true] at hok
    simp only [encF, decF]
    rw [List.append_assoc, List.take_left' (low_length _ _), List.drop_left' (low_length _ _), decF_encF ws ns rest (by simpa using h) hok.2]
    have := hok.1
    unfold okN at this
    simp only [Bool.and_eq_true, decide_eq_true_eq] at this
    rw [numOf_low, Nat.mod_eq_of_lt this.2]
    congr 1
    omega
  | [], _ :: _, _, h, _ => by simp at h
  | _ :: _, [], _, h, _ => by simp at h
theorem encF_decF : ∀ (ws : List Nat) (b : List Nat), (∀ x ∈ b, x < 256) → ws.sum ≤ b.length → encF ws (decF ws b) = b.take ws.sum
  | [], b, _, _ => by simp [encF, decF]
  | wd :: ws, b, hb, hl => by
    simp only [List.sum_cons] at hl
    simp only [encF, decF, List.sum_cons, Int.toNat_natCast]
    have h1 := low_numOf (b.take wd) fun x hx => hb x (List.mem_of_mem_take hx)
    rw [List.length_take, Nat.min_eq_left (by omega)] at h1
    rw [h1, encF_decF ws (b.drop wd) (fun x hx => hb x (List.mem_of_mem_drop hx)) (by rw [List.length_drop]; omega)]
    rw [← List.take_append_drop wd (b.take (wd + ws.sum)), List.take_take, Nat.min_eq_left (by omega), List.drop_take, Nat.add_sub_cancel_left]
theorem okFs_decF : ∀ (ws : List Nat) (b : List Nat), (∀ x ∈ b, x < 256) → ws.sum ≤ b.length → okNs ws (decF ws b) = true
  | [], b, _, _ => rfl
  | wd :: ws, b, hb, hl => by
    simp only [List.sum_cons] at hl
    simp only [okNs, decF, Bool.and_eq_true]
    refine ⟨?_, okFs_decF ws (b.drop wd) (fun x hx => hb x (List.mem_of_mem_drop hx)) (by rw [List.length_drop]; omega)⟩
    unfold okN
    have := numOf_lt (b.take wd) fun x hx => hb x (List.mem_of_mem_take hx)
    rw [List.length_take, Nat.min_eq_left (by omega)] at this
    simp only [Bool.and_eq_true, decide_eq_true_eq, Int.toNat_natCast]
    exact ⟨by omega, this⟩
/-! Records, one behind the other. -/
def encR (ws : List Nat) (rs : List (List Int)) : List Nat := rs.flatMap (encF ws)
def okR (ws : List Nat) (rs : List (List Int)) : Bool := rs.all (okNs ws)
def wid (ws : List Nat) (rs : List (List Int)) : Prop := ∀ r ∈ rs, ws.length = r.length
def runRS {σ : Type} (stp : σ → Nat → Int → σ) (ws : List Nat) (st : σ) (rs : List (List Int)) : σ := rs.foldl (fun st r => runS stp st ws r) st
theorem runRS_snoc {σ : Type} (stp : σ → Nat → Int → σ) (ws : List Nat) (st : σ) (rs : List (List Int)) (r : List Int) : runRS stp ws st (rs ++ [r]) = runS stp (runRS stp ws st rs) ws r := by
  unfold runRS; rw [List.foldl_append]; rfl
def runRV {σ : Type} (stp : σ → Nat → Int → σ) (val : σ → Nat → Int → Int) (ws : List Nat) : σ → List (List Int) → List (List Int)
  | st, r :: rs => runV stp val st ws r :: runRV stp val ws (runS stp st ws r) rs
  | _, [] => []
theorem runRV_snoc {σ : Type} (stp : σ → Nat → Int → σ) (val : σ → Nat → Int → Int) (ws : List Nat) (r : List Int) : ∀ (rs : List (List Int)) (st : σ), runRV stp val ws st (rs ++ [r]) = runRV stp val ws st rs ++ [runV stp val (runRS stp ws st rs) ws r]
  | [], st => rfl
  | x :: rs, st => by simp only [List.cons_append, runRV]; rw [runRV_snoc stp val ws r rs]; rfl
theorem runRV_length {σ : Type} (stp : σ → Nat → Int → σ) (val : σ → Nat → Int → Int) (ws : List Nat) : ∀ (rs : List (List Int)) (st : σ), (runRV stp val ws st rs).length = rs.length
  | [], _ => rfl
  | _ :: rs, st => by simp only [runRV, List.length_cons, runRV_length stp val ws rs]
theorem runRV_w (ws : List Nat) : ∀ (rs : List (List Int)) (st : List Nat × Bool), wid ws rs → runRV wstp wval ws st rs = rs
  | [], _, _ => rfl
  | r :: rs, st, h => by
    simp only [runRV]
    rw [runV_w ws r st (h r (List.mem_cons_self ..)), runRV_w ws rs _ fun x hx => h x (List.mem_cons_of_mem _ hx)]
theorem runRS_w_bad (ws : List Nat) : ∀ (rs : List (List Int)) (st : List Nat × Bool), (runRS wstp ws st rs).2 = (st.2 || !okR ws rs)
  | [], st => by simp [runRS, okR]
  | r :: rs, st => by
    show (runRS wstp ws (runS wstp st ws r) rs).2 = _
    rw [runRS_w_bad ws rs, runS_w_bad]
    simp only [okR, List.all_cons]
    cases st.2 <;> cases okNs ws r <;> simp
theorem runRS_w_ok (ws : List Nat) : ∀ (rs : List (List Int)) (st : List Nat × Bool), okR ws rs = true → (runRS wstp ws st rs).1 = st.1 ++ encR ws rs
  | [], st, _ => by simp [runRS, encR]
  | r :: rs, st, h => by
    show (runRS wstp ws (runS wstp st ws r) rs).1 = _
    simp only [okR, List.all_cons, Bool.and_eq_true] at h
    rw [runRS_w_ok ws rs _ h.2, runS_w_ok ws r st h.1, List.append_assoc]
    rfl
theorem encR_length (ws : List Nat) : ∀ (rs : List (List Int)), wid ws rs → (encR ws rs).length = rs.length * ws.sum
  | [], _ => by simp [encR]
  | r :: rs, h => by
    show (encF ws r ++ encR ws rs).length = _
    rw [List.length_append, encF_length ws r (h r (List.mem_cons_self ..)), encR_length ws rs fun x hx => h x (List.mem_cons_of_mem _ hx), List.length_cons, Nat.add_mul, Nat.one_mul]
    omega
theorem encR_lt (ws : List Nat) (rs : List (List Int)) : ∀ b ∈ encR ws rs, b < 256 := by
  intro b hb
  obtain ⟨r, _, h⟩ := List.mem_flatMap.1 hb
  exact encF_lt ws r b h
/-- So many records of bytes. -/
def decR (ws : List Nat) (b : List Nat) : Nat → List (List Int)
  | 0 => []
  | n + 1 => decF ws b :: decR ws (b.drop ws.sum) n
theorem decR_length (ws : List Nat) : ∀ (n : Nat) (b : List Nat), (decR ws b n).length = n
  | 0, _ => rfl
  | n + 1, b => by simp [decR, decR_length ws n]
theorem decR_wid (ws : List Nat) : ∀ (n : Nat) (b : List Nat), wid ws (decR ws b n)
  | 0, _ => by intro r h; simp [decR] at h
  | n + 1, b => by
    intro r h
    simp only [decR, List.mem_cons] at h
    rcases h with rfl | h
    · exact (decF_length ws b).symm
    · exact decR_wid ws n _ r h
theorem decR_snoc (ws : List Nat) : ∀ (n : Nat) (b : List Nat), decR ws b (n + 1) = decR ws b n ++ [decF ws (b.drop (n * ws.sum))]
  | 0, b => by simp [decR]
  | n + 1, b => by
    have h1 : decR ws b (n + 1 + 1) = decF ws b :: decR ws (b.drop ws.sum) (n + 1) := rfl
    have h2 : decR ws b (n + 1) = decF ws b :: decR ws (b.drop ws.sum) n := rfl
    have e : ws.sum + n * ws.sum = (n + 1) * ws.sum := by rw [Nat.succ_mul]; omega
    rw [h1, decR_snoc ws n (b.drop ws.sum), List.drop_drop, h2, e]
    rfl
theorem decR_encR (ws : List Nat) : ∀ (rs : List (List Int)), wid ws rs → okR ws rs = true → decR ws (encR ws rs) rs.length = rs
  | [], _, _ => rfl
  | r :: rs, h, hok => by
    simp only [okR, List.all_cons, Bool.and_eq_true] at hok
    have hl := encF_length ws r (h r (List.mem_cons_self ..))
    show decF ws (encF ws r ++ encR ws rs) :: decR ws ((encF ws r ++ encR ws rs).drop ws.sum) rs.length = _
    rw [decF_encF ws r _ (h r (List.mem_cons_self ..)) hok.1, List.drop_left' hl, decR_encR ws rs (fun x hx => h x (List.mem_cons_of_mem _ hx)) hok.2]
end Go.Dn
