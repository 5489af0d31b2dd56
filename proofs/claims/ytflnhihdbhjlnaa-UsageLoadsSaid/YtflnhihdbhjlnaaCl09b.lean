import Derived.Test.YtflnhihdbhjlnaaCuse6
import Derived.Test.YtflnhihdbhjlnaaGref09
/-! Law 09: the reference's New; UsageLoads. -/
set_option maxRecDepth 10000
set_option linter.unusedVariables false
set_option linter.unusedSimpArgs false
namespace Go.Dn
open Go
section
variable {w : World} {K : Value → World → Prop}
theorem ref09_between {n a b : Int} {k : Value → World → Prop} (hab : a ≤ b) (hk : k (.int .i64 (max a (min n b))) w) : wCall P n_ref09_between [.int .i64 n, .int .i64 a, .int .i64 b] w k := by
  refine call_ref09_between _ _ _ ?_
  unfold F_ref09_between
  rw [bin_lss]
  refine wIf_d (fun h => ?_) (fun h => ?_)
  · rw [show a = max a (min n b) by omega]; exact hk
  · rw [bin_gtr]
    refine wIf_d (fun h2 => ?_) (fun h2 => ?_)
    · rw [show b = max a (min n b) by omega]; exact hk
    · rw [show n = max a (min n b) by omega]; exact hk
theorem ref09_New {segs room : Int} {k : Value → World → Prop}
    (hk : ∀ w' d, w.heap.size ≤ d → Ex [] w w' → Blk w' d T_ref05_Use (fl (List.replicate (max 1 (min segs 200)).toNat ⟨0, 0, 0⟩)) →
      k (.agg ⟨[.int .i64 (max 1 (min room 4096)), .slice (some ⟨d, 0, none⟩) (max 1 (min segs 200)).toNat (max 1 (min segs 200)).toNat]⟩) w') :
    wCall P n_ref09_New [.int .i64 segs, .int .i64 room] w k := by
  refine call_ref09_New _ _ ?_
  unfold F_ref09_New
  refine alloc_i z_T_ref09_Table rfl fun w1 g1 hg1 hE1 B1 => ?_
  refine ref09_between (by omega) ?_
  refine ref09_between (by omega) ?_
  obtain ⟨n, hn⟩ : ∃ n : Nat, max 1 (min segs 200) = (n : Int) := ⟨(max 1 (min segs 200)).toNat, by omega⟩
  rw [hn, Int.toNat_natCast] at hk
  rw [hn]
  have hi : (P.info? T_ref05_Use).map (fun i => (i.zero, i.size, i.bytes)) = some (some (.agg ⟨[.int .i64 0, .int .i64 0, .int .u32 0]⟩), 3, 24) := by kernel_rfl
  cases hI : P.info? T_ref05_Use with
  | none => rw [hI] at hi; cases hi
  | some i =>
    rw [hI] at hi
    simp only [Option.map_some, Option.some.injEq, Prod.mk.injEq] at hi
    refine make_i (n := n) (bytes := 24) u_T_Lref05_Use hI hi.1 rfl (by simp) hi.2.1 hi.2.2 (by simp; omega) (by omega) fun w2 g2 hg2 hE2 B2 => ?_
    rw [fl_repl] at B2
    rw [bl_T_ref09_Table (cs := [.int .i64 (max 1 (min room 4096)), .slice (some ⟨g2, 0, none⟩) n n]) (by
      rw [fill_cons (off := 0) (size := 1) rfl rfl rfl (by simp), fill_cons (off := 1) (size := 1) rfl rfl rfl (by simp [splice])]
      rfl)]
    have l1 := hE1.le
    refine st_agg g_T_ref09_Table rfl (by simp [isC]) (B1.ex hE2 (by simp)) (by simp) fun w3 hE3 B3 => ?_
    have B3' : Blk w3 g1 T_ref09_Table [.int .i64 (max 1 (min room 4096)), .slice (some ⟨g2, 0, none⟩) n n] := B3
    refine res_agg g_T_ref09_Table B3'.all rfl (hk w3 g2 (by omega) ((hE1.trans hE2).step hE3 (by simp; omega)) (B2.ex hE3 (by have := B1.lt; simp; omega)))
theorem SlG.hi {v : Value} {size n : Nat} {xs : List Value} {t : TypeId} {j : Int} {ik : IntKind} {k : Value → World → Prop} (S : SlG w size v xs) (ht : slT P t = some size) (hs : 0 < size) (hn : xs.length = n * size) (h0 : 0 ≤ j) (h1 : j ≤ n)
    (hk : ∀ v', v'.ownBlock = v.ownBlock → SlG w size v' (xs.take (j.toNat * size)) → k v' w) : wSlice P t v none (some (.int ik j)) none w k := by
  obtain ⟨A, m, c, rfl, hl, hc, hr⟩ := S
  have : m = n := Nat.eq_of_mul_eq_mul_right hs (hl.symm.trans hn)
  subst this
  rw [sliceS_hi ht h0 (by omega)]
  refine hk _ ?_ ⟨A, j.toNat, c, rfl, ?_, by omega, fun hne => ?_⟩
  · cases A <;> rfl
  · rw [List.length_take, hl]
    have : j.toNat * size ≤ m * size := Nat.mul_le_mul_right _ (by omega)
    omega
  · obtain ⟨b, o, rfl, hcs⟩ := hr (by omega)
    refine ⟨b, o, rfl, fun i v hv => ?_⟩
    rw [List.getElem?_take] at hv
    split at hv
    · exact hcs i v hv
    · cases hv
theorem fl_take (us : List U) (n : Nat) : (fl us).take (n * 3) = fl (us.take n) := by
  induction us generalizing n with
  | nil => simp [fl]
  | cons u us ih =>
    cases n with
    | zero => simp [fl]
    | succ n => rw [fl_cons, show (n + 1) * 3 = n * 3 + 1 + 1 + 1 by omega, List.take_succ_cons, List.take_succ_cons, List.take_succ_cons, ih, List.take_succ_cons, fl_cons]
/-- 'append(l, u)' of uses. -/
theorem push_use {base : Nat} {v : Value} {us : List U} {u : U} {K : Value → World → Prop} (ho : Own w base T_codec_Use 3 v (fl us)) (hb : us.length ≤ 100000) (hba : base ≤ w.heap.size)
    (hk : ∀ v' w', Own w' base T_codec_Use 3 v' (fl (us ++ [u])) → Ex v.ownBlock.toList w w' → K v' w') :
    wBuildS P T_Lcodec_Use 1 [(0, .agg ⟨u.cells⟩)] w fun t w => wBuiltin P .append #[T_Lcodec_Use, T_Lcodec_Use] [v, t] w K := by
  refine buildS_1 u_T_Lcodec_Use (sizeOf_agg g_T_codec_Use) z_T_codec_Use (by omega) rfl rfl rfl fun w1 g1 hg1 hE1 B1 => ?_
  have hle := hE1.le
  refine app_T_Lcodec_Use (n := us.length) (m := 1) (ho.ex0 hE1) (SlG.of_cs B1.all rfl (Nat.le_refl _)) (fl_length us) rfl (U.cells_c u) (by omega) (by omega) fun v' w2 hO hE hv => ?_
  refine hk v' w2 (by rw [fl_append]; simpa [fl] using hO) (hE1.nil.trans hE)
end
end Go.Dn
