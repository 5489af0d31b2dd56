import Derived.Test.YtflnhihdbhjlnaaMem7
import Derived.Test.YtflnhihdbhjlnaaGt
import Derived.Test.YtflnhihdbhjlnaaGusage
import Derived.Test.YtflnhihdbhjlnaaGslices
/-! Contracts of package usage. -/
set_option maxRecDepth 10000
set_option linter.unusedVariables false
set_option linter.unusedSimpArgs false
namespace Go.Dn
open Go
structure U where
  live : Int
  state : Int
  age : Int
  deriving DecidableEq, Inhabited
def U.cells (u : U) : List Value := [.int .i64 u.live, .int .i64 u.state, .int .u32 u.age]
def fl (us : List U) : List Value := us.flatMap U.cells
theorem fl_nil : fl [] = [] := rfl
theorem fl_cons (u : U) (us : List U) : fl (u :: us) = .int .i64 u.live :: .int .i64 u.state :: .int .u32 u.age :: fl us := rfl
theorem fl_append (a b : List U) : fl (a ++ b) = fl a ++ fl b := by simp [fl]
theorem fl_length (us : List U) : (fl us).length = us.length * 3 := by
  induction us with
  | nil => rfl
  | cons u us ih => rw [fl_cons]; simp only [List.length_cons, ih]; omega
theorem fl_cell {us : List U} {i : Nat} {u : U} (h : us[i]? = some u) : ((fl us).drop (i * 3)).take 3 = u.cells := by
  induction us generalizing i with
  | nil => simp at h
  | cons x us ih =>
    cases i with
    | zero => simp at h; subst h; rfl
    | succ i =>
      have : (fl (x :: us)).drop ((i + 1) * 3) = (fl us).drop (i * 3) := by
        rw [fl_cons, show (i + 1) * 3 = i * 3 + 1 + 1 + 1 by omega]; rfl
      rw [this]; exact ih (by simpa using h)
theorem fl_at {us : List U} {i : Nat} {u : U} (h : us[i]? = some u) : (fl us)[i * 3]? = some (.int .i64 u.live) ∧ (fl us)[i * 3 + 1]? = some (.int .i64 u.state) ∧ (fl us)[i * 3 + 2]? = some (.int .u32 u.age) := by
  induction us generalizing i with
  | nil => simp at h
  | cons x us ih =>
    cases i with
    | zero => simp at h; subst h; exact ⟨rfl, rfl, rfl⟩
    | succ i =>
      have := ih (i := i) (by simpa using h)
      rw [fl_cons, show (i + 1) * 3 = i * 3 + 1 + 1 + 1 by omega, show i * 3 + 1 + 1 + 1 + 1 = (i * 3 + 1) + 1 + 1 + 1 by omega, show i * 3 + 1 + 1 + 1 + 2 = (i * 3 + 2) + 1 + 1 + 1 by omega]
      simpa using this
theorem fl_set {us : List U} {i : Nat} {u : U} (h : us[i]? = some u) (n : Int) (m : Int) (a : Int) :
    (fl us).set (i * 3) (.int .i64 n) = fl (us.set i { u with live := n }) ∧ (fl us).set (i * 3 + 1) (.int .i64 m) = fl (us.set i { u with state := m }) ∧ (fl us).set (i * 3 + 2) (.int .u32 a) = fl (us.set i { u with age := a }) := by
  induction us generalizing i with
  | nil => simp at h
  | cons x us ih =>
    cases i with
    | zero => simp at h; subst h; exact ⟨rfl, rfl, rfl⟩
    | succ i =>
      have := ih (i := i) (by simpa using h)
      rw [fl_cons, show (i + 1) * 3 = i * 3 + 1 + 1 + 1 by omega, show i * 3 + 1 + 1 + 1 + 1 = (i * 3 + 1) + 1 + 1 + 1 by omega, show i * 3 + 1 + 1 + 1 + 2 = (i * 3 + 2) + 1 + 1 + 1 by omega]
      simp only [List.set_cons_succ, fl_cons]
      rw [this.1, this.2.1, this.2.2]
      exact ⟨rfl, rfl, rfl⟩
theorem fl_repl (n : Nat) : (List.replicate n [.int .i64 0, .int .i64 0, .int .u32 0]).flatten = fl (List.replicate n ⟨0, 0, 0⟩) := by
  induction n with
  | zero => rfl
  | succ n ih => rw [List.replicate_succ, List.replicate_succ, fl_cons, ← ih]; rfl
def ivs (l : List Nat) : List Value := l.map fun (n : Nat) => Value.int .i64 (n : Int)
theorem ivs_length (l : List Nat) : (ivs l).length = l.length := by simp [ivs]
theorem ivs_append (a b : List Nat) : ivs (a ++ b) = ivs a ++ ivs b := by simp [ivs]
theorem ivs_get {l : List Nat} {i n : Nat} (h : l[i]? = some n) : (ivs l)[i]? = some (.int .i64 (n : Int)) := by simp [ivs, h]
/-- A table. -/
structure Tab (w : World) (h d : Nat) (room : Int) (us : List U) : Prop where
  tb : ∃ c, Blk w h T_usage_Table [.int .i64 room, .slice (some ⟨d, 0, none⟩) us.length c] ∧ us.length ≤ c
  ub : ∃ rest, Blk w d T_codec_Use (fl us ++ rest)
theorem Tab.ne {w : World} {h d : Nat} {room : Int} {us : List U} (H : Tab w h d room us) : h ≠ d := by
  obtain ⟨c, hb, _⟩ := H.tb
  obtain ⟨r, hr⟩ := H.ub
  exact hb.ne hr (by decide)
theorem Tab.ex {S : List Nat} {w w' : World} {h d : Nat} {room : Int} {us : List U} (H : Tab w h d room us) (hx : Ex S w w') (h1 : h ∉ S) (h2 : d ∉ S) : Tab w' h d room us := by
  obtain ⟨c, hb, hc⟩ := H.tb
  obtain ⟨r, hr⟩ := H.ub
  exact ⟨⟨c, hb.ex hx h1, hc⟩, ⟨r, hr.ex hx h2⟩⟩
theorem Tab.ex0 {w w' : World} {h d : Nat} {room : Int} {us : List U} (H : Tab w h d room us) (hx : Ex [] w w') : Tab w' h d room us := H.ex hx (by simp) (by simp)
theorem Tab.slg {w : World} {h d : Nat} {room : Int} {us : List U} (H : Tab w h d room us) {c : Nat} (hc : us.length ≤ c) : SlG w 3 (.slice (some ⟨d, 0, none⟩) us.length c) (fl us) := by
  obtain ⟨r, hr⟩ := H.ub
  refine SlG.of_cs (fun i v hv => ?_) (fl_length us) hc
  rw [Nat.zero_add, hr.cell, List.getElem?_append_left (List.getElem?_eq_some_iff.1 hv).1]
  exact hv
abbrev ptr (h : Nat) : Value := .pointer (some ⟨h, 0, none⟩)
section
variable {w : World} {K : Value → World → Prop}
/-- 'append(l, x)' of ints. -/
theorem push_int {base n : Nat} {v : Value} {xs : List Nat} {b : Nat} {K : Value → World → Prop} (ho : Own w base T_int 1 v (ivs xs)) (hn : xs.length = n) (hb : n ≤ 1000000) (hba : base ≤ w.heap.size)
    (hk : ∀ v' w', Own w' base T_int 1 v' (ivs (xs ++ [b])) → Ex v.ownBlock.toList w w' → (v'.ownBlock = v.ownBlock ∨ ∃ g, v'.ownBlock = some g ∧ w.heap.size ≤ g) → K v' w') :
    wBuildS P T_Lint 1 [(0, .int .i64 (b : Int))] w fun t w => wBuiltin P .append #[T_Lint, T_Lint] [v, t] w K := by
  refine buildS_1 u_T_Lint (sizeOf_one o_T_int) z_T_int (by omega) rfl rfl rfl fun w1 g1 hg1 hE1 B1 => ?_
  have hle := hE1.le
  refine app_T_Lint (n := n) (m := 1) (ho.ex0 hE1) (SlG.of_cs B1.all (by simp) (Nat.le_refl _)) (by rw [ivs_length]; omega) (by simp) (by intro u hu; simp at hu; subst hu; rfl) (by omega) (by omega) fun v' w2 hO hE hv => ?_
  refine hk v' w2 (by rw [ivs_append]; exact hO) (hE1.nil.trans hE) ?_
  rcases hv with h | h
  · exact .inl h
  · exact .inr ⟨_, h, by omega⟩
theorem usage_among {n a b : Int} {k : Value → World → Prop} (hk : k (.int .i64 (max a (min n b))) w) : wCall P n_usage_among [.int .i64 n, .int .i64 a, .int .i64 b] w k := by
  refine call_usage_among _ _ _ ?_
  unfold F_usage_among
  rw [min_i, max_i]
  exact hk
theorem usage_New {segs room : Int} {k : Value → World → Prop}
    (hk : ∀ w' h d, w.heap.size ≤ h → w.heap.size ≤ d → Ex [] w w' → Tab w' h d (max 1 (min room 4096)) (List.replicate (max 1 (min segs 200)).toNat ⟨0, 0, 0⟩) → k (ptr h) w') :
    wCall P n_usage_New [.int .i64 segs, .int .i64 room] w k := by
  refine call_usage_New _ _ ?_
  unfold F_usage_New
  refine usage_among ?_
  refine usage_among ?_
  obtain ⟨n, hn⟩ : ∃ n : Nat, max 1 (min segs 200) = (n : Int) := ⟨(max 1 (min segs 200)).toNat, by omega⟩
  rw [hn, Int.toNat_natCast] at hk
  rw [hn]
  have hi : (P.info? T_codec_Use).map (fun i => (i.zero, i.size, i.bytes)) = some (some (.agg ⟨[.int .i64 0, .int .i64 0, .int .u32 0]⟩), 3, 24) := by kernel_rfl
  cases hI : P.info? T_codec_Use with
  | none => rw [hI] at hi; cases hi
  | some i =>
    rw [hI] at hi
    simp only [Option.map_some, Option.some.injEq, Prod.mk.injEq] at hi
    refine make_i (n := n) (bytes := 24) u_T_Lcodec_Use hI hi.1 rfl (by simp) hi.2.1 hi.2.2 (by simp; omega) (by omega) fun w1 g1 hg1 hE1 B1 => ?_
    rw [fl_repl] at B1
    rw [bl_T_usage_Table (cs := [.int .i64 (max 1 (min room 4096)), .slice (some ⟨g1, 0, none⟩) n n]) (by
      rw [fill_cons (off := 0) (size := 1) rfl rfl rfl (by simp), fill_cons (off := 1) (size := 1) rfl rfl rfl (by simp [splice])]
      rfl)]
    refine box_i (vs := [.int .i64 (max 1 (min room 4096)), .slice (some ⟨g1, 0, none⟩) n n]) rfl fun w2 g2 hg2 hE2 B2 => ?_
    have := hE1.le
    refine hk w2 g2 g1 (by omega) (by omega) (hE1.trans hE2) ⟨⟨n, ?_, by simp⟩, ⟨[], ?_⟩⟩
    · rw [List.length_replicate]; exact B2
    · rw [List.append_nil]; exact B1.ex hE2 (by simp)
theorem Tab.uses {h d : Nat} {room : Int} {us : List U} (H : Tab w h d room us) : ∃ c, us.length ≤ c ∧ w.cell? ⟨h, 0 + 1, none⟩ = some (.slice (some ⟨d, 0, none⟩) us.length c) := by
  obtain ⟨c, hb, hc⟩ := H.tb
  exact ⟨c, hc, hb.cell 1⟩
theorem Tab.room {h d : Nat} {room : Int} {us : List U} (H : Tab w h d room us) : w.cell? ⟨h, 0, none⟩ = some (.int .i64 room) := by
  obtain ⟨c, hb, hc⟩ := H.tb
  exact hb.cell 0
theorem usage_has {h d : Nat} {room seg : Int} {us : List U} {k : Value → World → Prop} (H : Tab w h d room us) (hk : k (.bool (decide (0 ≤ seg ∧ seg < us.length))) w) : wCall P n_usage_Table_has [ptr h, .int .i64 seg] w k := by
  refine call_usage_Table_has _ _ ?_
  unfold F_usage_Table_has
  obtain ⟨c, hc, hcell⟩ := H.uses
  simp only [bin_geq, nil_ptr, fA_T_usage_Table_1]
  simp only [ld_one o_T_Lcodec_Use hcell, len_s u_T_Lcodec_Use, bin_lss, and_p]
  have e : (decide (0 ≤ seg) && decide (seg < (us.length : Int))) = decide (0 ≤ seg ∧ seg < us.length) := by simp
  rw [e]; exact hk
theorem Tab.elem {h d : Nat} {room : Int} {us : List U} (H : Tab w h d room us) {i : Nat} {u : U} (hu : us[i]? = some u) : w.cell? ⟨d, 0 + i * 3, none⟩ = some (.int .i64 u.live) ∧ w.cell? ⟨d, 0 + i * 3 + 1, none⟩ = some (.int .i64 u.state) ∧ w.cell? ⟨d, 0 + i * 3 + 2, none⟩ = some (.int .u32 u.age) := by
  obtain ⟨r, hr⟩ := H.ub
  obtain ⟨h1, h2, h3⟩ := fl_at hu
  simp only [Nat.zero_add, hr.cell]
  refine ⟨?_, ?_, ?_⟩
  · rw [List.getElem?_append_left (List.getElem?_eq_some_iff.1 h1).1]; exact h1
  · rw [List.getElem?_append_left (List.getElem?_eq_some_iff.1 h2).1]; exact h2
  · rw [List.getElem?_append_left (List.getElem?_eq_some_iff.1 h3).1]; exact h3
theorem Tab.put {w' : World} {h d : Nat} {room : Int} {us vs : List U} (H : Tab w h d room us) {o : Nat} {x : Value} (hl : vs.length = us.length) (hx : Ex [d] w w') (hs : (fl us).set o x = fl vs) (ho : o < (fl us).length) {rest : List Value} (hb : Blk w' d T_codec_Use ((fl us ++ rest).set o x)) : Tab w' h d room vs := by
  obtain ⟨c, hb1, hc⟩ := H.tb
  refine ⟨⟨c, ?_, by omega⟩, ⟨rest, ?_⟩⟩
  · rw [hl]; exact hb1.ex hx (by simpa using H.ne)
  · rw [← hs, ← List.set_append_left _ _ ho]; exact hb
theorem usage_Set {h d : Nat} {room seg st : Int} {us : List U} {k : Value → World → Prop} (H : Tab w h d room us)
    (h0 : ¬ (0 ≤ seg ∧ seg < us.length ∧ 0 ≤ st ∧ st ≤ 3) → k (.int .i64 1) w)
    (h1 : ∀ w' u, 0 ≤ seg → us[seg.toNat]? = some u → 0 ≤ st → st ≤ 3 → Ex [d] w w' → Tab w' h d room (us.set seg.toNat { u with state := st }) → k (.int .i64 0) w') :
    wCall P n_usage_Table_Set [ptr h, .int .i64 seg, .int .i64 st] w k := by
  refine call_usage_Table_Set _ _ _ ?_
  unfold F_usage_Table_Set
  refine usage_has H ?_
  simp only [un_not, bin_lss, bin_gtr, or_p]
  refine wIf_i _ (fun hh => ?_) (fun hh => ?_)
  · refine h0 ?_
    simp only [Bool.or_eq_true, Bool.not_eq_true', decide_eq_false_iff_not, decide_eq_true_eq] at hh
    omega
  · simp only [Bool.or_eq_false_iff, Bool.not_eq_false', decide_eq_false_iff_not, decide_eq_true_eq] at hh
    obtain ⟨c, hc, hcell⟩ := H.uses
    have hlt : seg.toNat < us.length := by omega
    have hu := List.getElem?_eq_getElem hlt
    simp only [nil_ptr, fA_T_usage_Table_1]
    rw [ld_one o_T_Lcodec_Use hcell, indexS_i s_T_Lcodec_Use (by omega) (by omega)]
    simp only [fA_T_codec_Use_1]
    obtain ⟨r, hr⟩ := H.ub
    refine st_one o_T_int rfl hr (by rw [List.length_append, fl_length]; omega) fun w1 hE1 B1 => ?_
    rw [Nat.zero_add] at B1
    exact h1 w1 _ (by omega) hu (by omega) (by omega) hE1 (H.put (by simp) hE1 (fl_set hu 0 st 0).2.1 (by rw [fl_length]; omega) B1)
end
end Go.Dn
