import Derived.Test.YtflnhihdbhjlnaaXOrd3
import Derived.Test.YtflnhihdbhjlnaaXOrd1
import Derived.Test.YtflnhihdbhjlnaaXOrd2
import Derived.Deep.Slices
import Derived.Deep.Fields
import Derived.ChangeSame
import Derived.ChangeArms
import Derived.OpenShut
section
/-! Sealed sectors, plain. -/
set_option linter.unusedVariables false
set_option linter.unusedSimpArgs false
namespace Go.Dn
def crcStep (c : Nat) : Nat := if c % 2 = 1 then (c / 2) ^^^ 3988292384 else c / 2
def crcSteps : Nat → Nat → Nat
  | 0, c => c
  | n + 1, c => crcStep (crcSteps n c)
def crcGo (c : Nat) (l : List Nat) : Nat := l.foldl (fun c b => crcSteps 8 (c ^^^ b)) c
def crc (l : List Nat) : Nat := 4294967295 - crcGo 4294967295 l
theorem crcStep_lt {c : Nat} (h : c < 4294967296) : crcStep c < 4294967296 := by
  unfold crcStep
  split
  · exact Nat.xor_lt_two_pow (n := 32) (by omega) (by decide)
  · omega
theorem crcSteps_lt {c : Nat} (h : c < 4294967296) : ∀ n, crcSteps n c < 4294967296
  | 0 => h
  | n + 1 => crcStep_lt (crcSteps_lt h n)
theorem crcGo_lt {l : List Nat} (hl : ∀ b ∈ l, b < 256) : ∀ {c : Nat}, c < 4294967296 → crcGo c l < 4294967296 := by
  induction l with
  | nil => exact fun h => h
  | cons b l ih =>
    intro c h
    have hb := hl b (List.mem_cons_self ..)
    exact ih (fun x hx => hl x (List.mem_cons_of_mem _ hx)) (crcSteps_lt (Nat.xor_lt_two_pow (n := 32) h (by omega)) 8)
theorem crcGo_snoc (c : Nat) (l : List Nat) (b : Nat) : crcGo c (l ++ [b]) = crcSteps 8 (crcGo c l ^^^ b) := by
  unfold crcGo; rw [List.foldl_append]; rfl
theorem crc_lt (l : List Nat) : crc l < 4294967296 := by unfold crc; omega
/-- A sealed sector's first 124 bytes. -/
def sealHead (kind : Nat) (body : List Nat) : List Nat := [215, 76, kind, body.length] ++ body ++ List.replicate (120 - body.length) 0
def sealS (kind : Nat) (body : List Nat) : List Nat := sealHead kind body ++ low (crc (sealHead kind body)) 4
theorem sealHead_length {kind : Nat} {body : List Nat} (h : body.length ≤ 120) : (sealHead kind body).length = 124 := by simp [sealHead]; omega
theorem sealS_length {kind : Nat} {body : List Nat} (h : body.length ≤ 120) : (sealS kind body).length = 128 := by simp [sealS, sealHead_length h, low_length]
theorem sealHead_lt {kind : Nat} {body : List Nat} (hk : kind < 256) (hl : body.length ≤ 120) (hb : ∀ b ∈ body, b < 256) : ∀ b ∈ sealHead kind body, b < 256 := by
  intro b hm
  simp only [sealHead, List.mem_append, List.mem_cons, List.mem_replicate, List.not_mem_nil, or_false] at hm
  rcases hm with (h | h) | h
  · omega
  · exact hb b h
  · omega
theorem sealS_lt {kind : Nat} {body : List Nat} (hk : kind < 256) (hl : body.length ≤ 120) (hb : ∀ b ∈ body, b < 256) : ∀ b ∈ sealS kind body, b < 256 := by
  intro b hm
  rcases List.mem_append.1 hm with h | h
  · exact sealHead_lt hk hl hb b h
  · exact low_lt _ _ b h
/-- What may be made: none where the kind is nought or the body too long. -/
def sealMk (kind : Nat) (body : List Nat) : Option (List Nat) := if kind = 0 ∨ 120 < body.length then none else some (sealS kind body)
/-- A sector's kind and body. -/
def bodyS (s : List Nat) : List Nat := (s.drop 4).take (s.getD 3 0)
def sealOp (s : List Nat) : Option (Nat × List Nat) :=
  if 120 < s.getD 3 0 then none
  else if sealMk (s.getD 2 0) (bodyS s) = some s then some (s.getD 2 0, bodyS s) else none
theorem sealOp_mk {kind : Nat} {body : List Nat} (hk : kind ≠ 0) (hl : body.length ≤ 120) : sealOp (sealS kind body) = some (kind, body) := by
  have h3 : (sealS kind body).getD 3 0 = body.length := rfl
  have h2 : (sealS kind body).getD 2 0 = kind := rfl
  have hb : bodyS (sealS kind body) = body := by
    unfold bodyS
    rw [h3]
    show ((body ++ List.replicate (120 - body.length) 0) ++ low _ 4).take body.length = body
    rw [List.append_assoc, List.take_left']
    rfl
  unfold sealOp
  rw [h3, if_neg (by omega), h2, hb]
  have : sealMk kind body = some (sealS kind body) := by
    unfold sealMk
    rw [if_neg (by omega)]
  rw [if_pos this]
theorem sealOp_some {s : List Nat} {kind : Nat} {body : List Nat} (h : sealOp s = some (kind, body)) : kind ≠ 0 ∧ body.length ≤ 120 ∧ s = sealS kind body := by
  unfold sealOp at h
  split at h
  · cases h
  · split at h
    · rename_i hm
      injection h with h
      injection h with h1 h2
      rw [h1, h2] at hm
      unfold sealMk at hm
      split at hm
      · cases hm
      · injection hm with hm
        rename_i hc
        exact ⟨fun h => hc (.inl h), by omega, hm.symm⟩
    · cases h
end Go.Dn
end
section
/-! Contracts of the reference's plain things. -/
set_option linter.unusedVariables false
set_option linter.unusedSimpArgs false
namespace Go.Dn
open Go
section
variable {w : World} {K : Value → World → Prop}
theorem conv_64_8r {x : Nat} : wConv P T_uint64 T_uint8 (.int .u64 (x : Int)) w K = K (.int .u8 ((x % 256 : Nat) : Int)) w := conv_64_8
/-- 'append(l, x)' of bytes. -/
theorem push_u8 {base n : Nat} {v : Value} {xs : List Nat} {b : Nat} {K : Value → World → Prop} (ho : Own w base T_uint8 1 v (bvs xs)) (hn : xs.length = n) (hb : n ≤ 1000000) (hba : base ≤ w.heap.size)
    (hk : ∀ v' w', Own w' base T_uint8 1 v' (bvs (xs ++ [b])) → Ex v.ownBlock.toList w w' → (v'.ownBlock = v.ownBlock ∨ ∃ g, v'.ownBlock = some g ∧ w.heap.size ≤ g) → K v' w') :
    wBuildS P T_Luint8 1 [(0, .int .u8 (b : Int))] w fun t w => wBuiltin P .append #[T_Luint8, T_Luint8] [v, t] w K := by
  refine buildS_1 u_T_Luint8 (sizeOf_one o_T_uint8) z_T_uint8 (by omega) rfl rfl rfl fun w1 g1 hg1 hE1 B1 => ?_
  have hle := hE1.le
  refine app_T_Luint8 (n := n) (m := 1) (ho.ex0 hE1) (SlG.of_cs B1.all (by simp) (Nat.le_refl _)) (by rw [bvs_length]; omega) (by simp) (by intro u hu; simp at hu; subst hu; rfl) (by omega) (by omega) fun v' w2 hO hE hv => ?_
  refine hk v' w2 (by rw [bvs_append]; exact hO) (hE1.nil.trans hE) ?_
  rcases hv with h | h
  · exact .inl h
  · exact .inr ⟨_, h, by omega⟩
theorem ref01_Low {x wd : Nat} {k : Value → World → Prop} (hx : x < 18446744073709551616) (hw : wd ≤ 1000)
    (hk : ∀ v w', Ex [] w w' → Own w' w.heap.size T_uint8 1 v (bvs (low x wd)) → k v w') : wCall P n_ref01_Low [.int .u64 x, .int .i64 (wd : Int)] w k := by
  refine call_ref01_Low _ _ ?_
  unfold F_ref01_Low
  refine loop_up3 wd (fun i a v u w' => a = .int .u64 (x / 256 ^ i : Nat) ∧ u = .int .i64 (i : Int) ∧ Ex [] w w' ∧ Own w' w.heap.size T_uint8 1 v (bvs (low x i))) ⟨by simp, rfl, Ex.refl _ _, by simpa [low, bvs] using Own.nil w w.heap.size T_uint8 1⟩ ?_
  rintro i J a v u w' k' hi ⟨rfl, rfl, hE, hO⟩ hk'
  have hle := hE.le
  have hd : x / 256 ^ i < 18446744073709551616 := Nat.lt_of_le_of_lt (Nat.div_le_self _ _) hx
  rw [bin_lss]
  refine wIf_d (fun hlt => ?_) (fun hge => ?_)
  · have e256 : (256 : Int) = ((256 : Nat) : Int) := rfl
    rw [e256, bin_remN (by decide), conv_64_8]
    refine push_u8 hO (n := i) (low_length _ _) (by omega) hle fun v' w2 hO2 hE2 _ => ?_
    rw [bin_quoN rfl (by simp only [IntKind.bits]; omega) (by decide), bin_add (by omega)]
    refine hk' _ _ _ _ (by omega) ⟨?_, rfl, hE.step hE2 fun y hy => ?_, ?_⟩
    · rw [Nat.div_div_eq_div_mul, Nat.pow_succ]
    · right
      cases hv : v.ownBlock with
      | none => rw [hv] at hy; simp at hy
      | some g =>
        rw [hv] at hy
        simp at hy
        have := (hO.blk hv).1
        omega
    · rw [low_snoc]
      have : x / 256 ^ i % 256 % 256 = x / 256 ^ i % 256 := by omega
      rw [this] at hO2
      exact hO2
  · obtain rfl : i = wd := by omega
    exact hk v w' hE hO
theorem ref01_Num {v : Value} {bs : List Nat} {k : Value → World → Prop} (S : SlG w 1 v (bvs bs)) (hb : ∀ b ∈ bs, b < 256) (hl : bs.length ≤ 8) (hk : k (.int .u64 (numOf bs : Nat)) w) : wCall P n_ref01_Num [v] w k := by
  refine call_ref01_Num _ ?_
  unfold F_ref01_Num
  rw [S.len_i u_T_Luint8 (by omega) (n := bs.length) (by rw [bvs_length]; omega), bin_sub (by omega)]
  refine loop_up2 bs.length (fun i a u w' => a = .int .u64 (numOf (bs.drop (bs.length - i)) : Nat) ∧ u = .int .i64 ((bs.length : Int) - 1 - (i : Int)) ∧ w' = w) ⟨by simp [numOf], by simp, rfl⟩ ?_
  rintro i J a u w' k' hi ⟨rfl, rfl, rfl⟩ hk'
  rw [bin_geq]
  refine wIf_d (fun hge => ?_) (fun hlt => ?_)
  · have hlt : bs.length - 1 - i < bs.length := by omega
    have e1 : bs.drop (bs.length - (i + 1)) = bs[bs.length - 1 - i] :: bs.drop (bs.length - i) := by
      rw [show bs.length - (i + 1) = bs.length - 1 - i by omega, List.drop_eq_getElem_cons hlt]
      congr 2
      omega
    have hbl := hb _ (List.getElem_mem hlt)
    have hnum : numOf (bs.drop (bs.length - (i + 1))) < 18446744073709551616 := by
      have := numOf_lt (bs.drop (bs.length - (i + 1))) (fun b hm => hb b (List.mem_of_mem_drop hm))
      exact Nat.lt_of_lt_of_le this (pow256_le (by rw [List.length_drop]; omega))
    rw [e1] at hnum
    simp only [numOf] at hnum
    rw [bin_mulw, show IntKind.u64.wrap ((256 : Int) * ((numOf (bs.drop (bs.length - i)) : Nat) : Int)) = ((256 * numOf (bs.drop (bs.length - i)) : Nat) : Int) from by
      rw [show ((256 : Int) * ((numOf (bs.drop (bs.length - i)) : Nat) : Int)) = ((256 * numOf (bs.drop (bs.length - i)) : Nat) : Int) by omega]
      exact wrapN rfl (by simp only [IntKind.bits]; omega)]
    refine S.ix1 (x := .int .u8 (bs[bs.length - 1 - i] : Nat)) s_T_Luint8 (by omega) (by rw [show ((bs.length : Int) - 1 - (i : Int)).toNat = bs.length - 1 - i by omega]; exact bvs_get (List.getElem?_eq_getElem hlt)) fun ad had => ?_
    rw [ld_one o_T_uint8 had, conv_8_64 hbl, bin_addw, show IntKind.u64.wrap (((256 * numOf (bs.drop (bs.length - i)) : Nat) : Int) + ((bs[bs.length - 1 - i] : Nat) : Int)) = ((bs[bs.length - 1 - i] + 256 * numOf (bs.drop (bs.length - i)) : Nat) : Int) from by
      rw [show (((256 * numOf (bs.drop (bs.length - i)) : Nat) : Int) + ((bs[bs.length - 1 - i] : Nat) : Int)) = ((bs[bs.length - 1 - i] + 256 * numOf (bs.drop (bs.length - i)) : Nat) : Int) by omega]
      exact wrapN rfl (by simp only [IntKind.bits]; omega), bin_sub (by omega)]
    refine hk' _ _ _ (by omega) ⟨?_, by congr 1; omega, rfl⟩
    rw [e1]
    rfl
  · obtain rfl : i = bs.length := by omega
    rw [Nat.sub_self, List.drop_zero]
    exact hk
theorem ref01_Has {x : Nat} {wd : Int} {k : Value → World → Prop} (hx : x < 18446744073709551616) (hk : k (.bool (decide (1 ≤ wd ∧ wd ≤ 8 ∧ x < 256 ^ wd.toNat))) w) : wCall P n_ref01_Has [.int .i64 wd, .int .u64 x] w k := by
  refine call_ref01_Has _ _ ?_
  unfold F_ref01_Has
  simp only [bin_lss, bin_gtr, or_p]
  refine wIf_i _ (fun hb => ?_) (fun hb => ?_)
  · simp only [Bool.or_eq_true, decide_eq_true_eq] at hb
    have hn : ¬ (1 ≤ wd ∧ wd ≤ 8 ∧ x < 256 ^ wd.toNat) := fun h => by omega
    rw [decide_eq_false hn] at hk
    exact hk
  · simp only [Bool.or_eq_false_iff, decide_eq_false_iff_not] at hb
    obtain ⟨m, rfl⟩ : ∃ m : Nat, wd = m := ⟨wd.toNat, by omega⟩
    unfold wJ1
    refine loop_up2 m (fun i a u w' => a = .int .u64 (x / 256 ^ i : Nat) ∧ u = .int .i64 (i : Int) ∧ w' = w) ⟨by simp, rfl, rfl⟩ ?_
    rintro i J a u w' k' hi ⟨rfl, rfl, rfl⟩ hk'
    have hd : x / 256 ^ i < 18446744073709551616 := Nat.lt_of_le_of_lt (Nat.div_le_self _ _) hx
    rw [bin_lss]
    refine wIf_d (fun hlt => ?_) (fun hge => ?_)
    · have e256 : (256 : Int) = ((256 : Nat) : Int) := rfl
      rw [e256, bin_quoN rfl (by simp only [IntKind.bits]; omega) (by decide), bin_add (by omega)]
      exact hk' _ _ _ (by omega) ⟨by rw [Nat.div_div_eq_div_mul, Nat.pow_succ], rfl, rfl⟩
    · obtain rfl : i = m := by omega
      intro _
      rw [bin_eql]
      have : decide (((x / 256 ^ i : Nat) : Int) = 0) = decide (1 ≤ (i : Int) ∧ (i : Int) ≤ 8 ∧ x < 256 ^ ((i : Nat) : Int).toNat) := by
        congr 1
        simp only [eq_iff_iff, Int.toNat_natCast]
        have hp : 0 < 256 ^ i := Nat.pow_pos (by decide)
        constructor
        · intro h0
          refine ⟨by omega, by omega, ?_⟩
          rcases Nat.lt_or_ge x (256 ^ i) with h | h
          · exact h
          · have := Nat.div_pos h hp; omega
        · intro ⟨_, _, h⟩
          rw [Nat.div_eq_of_lt h]; rfl
      rw [this]
      exact hk
theorem ref01_Full {v : Value} {bs : List Nat} {k : Value → World → Prop} (S : SlG w 1 v (bvs bs)) (hl : bs.length ≤ 4611686018427387904)
    (hk : ∀ w', Ex [] w w' → k (sv (bs.take 128 ++ List.replicate (128 - bs.length) 0)) w') : wCall P n_ref01_Full [v] w k := by
  refine call_ref01_Full _ ?_
  unfold F_ref01_Full
  refine alloc_i z_T_A128uint8 (vs := List.replicate 128 (.int .u8 0)) rfl fun w1 g1 hg1 hE1 B1 => ?_
  refine alloc_i z_T_A128uint8 (vs := List.replicate 128 (.int .u8 0)) rfl fun w2 g2 hg2 hE2 B2 => ?_
  have hle1 := hE1.le
  have hle2 := hE2.le
  have hlt1 := B1.lt
  have B1' := B1.ex hE2 (by simp)
  have E2 := hE1.trans hE2
  have hz : ∀ n, bvs (List.replicate n 0) = List.replicate n (Value.int .u8 0) := by intro n; simp [bvs]
  unfold wJ0
  refine loop_up (min bs.length 128) (fun i u w' => u = .int .i64 (i : Int) ∧ Ex [g2] w2 w' ∧ Blk w' g2 T_A128uint8 (bvs (bs.take i ++ List.replicate (128 - i) 0))) ⟨rfl, Ex.refl _ _, by rw [List.take_zero, List.nil_append, Nat.sub_zero, hz]; exact B2⟩ ?_
  rintro i J u w' k' hi ⟨rfl, hE, hB⟩ hk'
  have S3 : SlG w' 1 v (bvs bs) := S.ex0 (E2.new hE (by omega))
  simp only [S3.len_i (P := P) u_T_Luint8 (by omega) (n := bs.length) (by rw [bvs_length]; omega), bin_lss, and_p]
  refine wIf_i _ (fun hb => ?_) (fun hb => ?_)
  · simp only [Bool.and_eq_true, decide_eq_true_eq] at hb
    have hlt : i < bs.length := by omega
    refine S3.ix1 (x := .int .u8 (bs[i] : Nat)) s_T_Luint8 (by omega) (bvs_get (List.getElem?_eq_getElem hlt)) fun ad had => ?_
    rw [ld_one o_T_uint8 had, indexA_i a_T_A128uint8 (by omega) (by omega)]
    refine st_one o_T_uint8 rfl hB (by simp [bvs_length]; omega) fun w3 hE3 B3 => ?_
    rw [bin_add (by omega)]
    refine hk' _ _ (by omega) ⟨rfl, hE.trans hE3, ?_⟩
    have e : (bvs (bs.take i ++ List.replicate (128 - i) 0)).set (0 + ((i : Nat) : Int).toNat * 1) (.int .u8 ((bs[i] : Nat) : Int)) = bvs (bs.take (i + 1) ++ List.replicate (128 - (i + 1)) 0) := by
      rw [show 0 + ((i : Nat) : Int).toNat * 1 = i by omega]
      have : bvs ((bs.take i ++ List.replicate (128 - i) 0).set i bs[i]) = (bvs (bs.take i ++ List.replicate (128 - i) 0)).set i (.int .u8 ((bs[i] : Nat) : Int)) := by simp [bvs, List.map_set]
      rw [← this]
      congr 1
      rw [List.set_append_right _ _ (by simp; omega), List.take_succ_eq_append_getElem hlt]
      have : 128 - i = (128 - (i + 1)) + 1 := by omega
      rw [this, List.replicate_succ]
      have h0 : i - (bs.take i).length = 0 := by simp; omega
      rw [h0, List.set_cons_zero, List.append_assoc, List.singleton_append]
    rw [e] at B3
    exact B3
  · have hi' : i = min bs.length 128 := by
      simp only [Bool.and_eq_false_iff, decide_eq_false_iff_not] at hb
      omega
    intro _
    have e : bs.take i ++ List.replicate (128 - i) 0 = bs.take 128 ++ List.replicate (128 - bs.length) 0 := by
      subst hi'
      rcases Nat.le_total bs.length 128 with h | h
      · rw [Nat.min_eq_left h, List.take_of_length_le (Nat.le_refl _), List.take_of_length_le h]
      · rw [Nat.min_eq_right h]; simp [show 128 - bs.length = 0 by omega]
    rw [e] at hB
    have hlen : (bvs (bs.take 128 ++ List.replicate (128 - bs.length) 0)).length = 128 := by rw [bvs_length]; simp; omega
    rw [ld_agg g_T_A128uint8 hB.all hlen]
    have hne : g1 ≠ g2 := by omega
    have B1'' := B1'.ex hE (by simp; exact hne)
    refine st_agg g_T_A128uint8 hlen (bvs_isC _) B1'' (by simp) fun w4 hE4 B4 => ?_
    have e2 : splice (List.replicate 128 (Value.int .u8 0)) 0 (bvs (bs.take 128 ++ List.replicate (128 - bs.length) 0)) = bvs (bs.take 128 ++ List.replicate (128 - bs.length) 0) := by
      rw [splice_front hlen (by rw [List.length_replicate]; exact Nat.le_refl _), List.drop_of_length_le (by rw [List.length_replicate]; exact Nat.le_refl _), List.append_nil]
    rw [e2] at B4
    refine res_agg g_T_A128uint8 B4.all hlen ?_
    exact hk w4 ((E2.new hE (by omega)).new hE4 (by omega))
end
end Go.Dn
end
section
/-! Texts of functions, printed by mkg.py. -/
set_option maxRecDepth 100000
set_option linter.unusedVariables false
namespace Go.Dn
open Go Go.Proofs
def F_ref02_Crc (a0 : Value) (w : World) (k : Value → World → Prop) : Prop :=
  wJ1 (fun k1 =>
    wL2 (.int .u32 4294967295) (.int .i64 0) w (fun _ v3 v4 w k2 =>
      wLen P .len #[T_Luint8] [a0] w fun t8 w =>
      wBin P .lss T_int v4 t8 w fun t9 w =>
      wIf t9 (
        wJ1 (fun k4 =>
          wIndexA P T_Luint8 a0 v4 w fun t15 w =>
          wLoad P T_uint8 t15 w fun t16 w =>
          wConv P T_uint8 T_uint32 t16 w fun t17 w =>
          wBin P .xor T_uint32 v3 t17 w fun t18 w =>
          wL2 t18 (.int .i64 0) w (fun _ v3 v5 w k5 =>
            wBin P .lss T_int v5 (.int .i64 8) w fun t20 w =>
            wIf t20 (
              wBin P .rem T_uint32 v3 (.int .u32 2) w fun t24 w =>
              wBin P .eql T_uint32 t24 (.int .u32 1) w fun t25 w =>
              wIf t25 (
                wBin P .quo T_uint32 v3 (.int .u32 2) w fun t27 w =>
                wBin P .xor T_uint32 t27 (.int .u32 3988292384) w fun t28 w =>
                wBin P .add T_int v5 (.int .i64 1) w fun t22 w =>
                k5 t28 t22 w) (
                wBin P .quo T_uint32 v3 (.int .u32 2) w fun t30 w =>
                wBin P .add T_int v5 (.int .i64 1) w fun t22 w =>
                k5 t30 t22 w)) (
              k4 v3 w))) fun _ v3 w =>
        wBin P .add T_int v4 (.int .i64 1) w fun t11 w =>
        k2 v3 t11 w) (
        k1 v3 w))) fun _ v3 w =>
  wBin P .sub T_uint32 (.int .u32 4294967295) v3 w fun t32 w =>
  k t32 w

theorem call_ref02_Crc (a0 : Value) {w : World} {k : Value → World → Prop} (h : F_ref02_Crc a0 w k) : wCall P n_ref02_Crc [a0] w k :=
  call_of_den mixedP Try.func168 (by kernel_rfl) (.s .z (.s .z (.j [3] [] (.s .z (.b (.l [3, 4] [0] (.s .z (.j [3] [0, 4] (.b (.s .z (.s .z (.b (.l [3, 5] [0, 4] .z))))) .z))))) .z))) (by kernel_rfl) (Eq.mp (by kernel_rfl) h)

def F_ref02_Make (a0 a1 : Value) (w : World) (k : Value → World → Prop) : Prop :=
  wAlloc P T_A128uint8 w fun t4 w =>
  wBin P .eql T_uint8 a0 (.int .u8 0) w fun t8 w =>
  wGrp t8 false (fun k12 =>
    wLen P .len #[T_Luint8] [a1] w fun t11 w =>
    wBin P .gtr T_int t11 (.int .i64 120) w fun t12 w =>
    k12 t12 w) w fun _ t12 w =>
  wPick t8 (.bool true) t12 w fun t13 w =>
  wIf t13 (
    wBuild P T_A128uint8 [] w fun t14 w =>
    wStore P T_A128uint8 t4 t14 w fun w =>
    wRes P T_A128uint8 t4 w fun r4 =>
    k (.tuple #[r4, (.bool false)]) w) (
    wLen P .len #[T_Luint8] [a1] w fun t17 w =>
    wConv P T_int T_uint8 t17 w fun t18 w =>
    wBuildS P T_Luint8 4 [(0, (.int .u8 215)), (1, (.int .u8 76)), (2, a0), (3, t18)] w fun t19 w =>
    wBuiltin P .append #[T_Luint8, T_Luint8] [t19, a1] w fun t21 w =>
    wJ1 (fun k2 =>
      wL1 t21 w (fun _ v6 w k3 =>
        wLen P .len #[T_Luint8] [v6] w fun t23 w =>
        wBin P .lss T_int t23 (.int .i64 124) w fun t24 w =>
        wIf t24 (
          wBuildS P T_Luint8 1 [(0, (.int .u8 0))] w fun t26 w =>
          wBuiltin P .append #[T_Luint8, T_Luint8] [v6, t26] w fun t27 w =>
          k3 t27 w) (
          k2 v6 w))) fun _ v6 w =>
    wCall P n_ref02_Crc [v6] w fun t30 w =>
    wConv P T_uint32 T_uint64 t30 w fun t31 w =>
    wCall P n_ref01_Low [t31, (.int .i64 4)] w fun t32 w =>
    wBuiltin P .append #[T_Luint8, T_Luint8] [v6, t32] w fun t33 w =>
    wCall P n_ref01_Full [t33] w fun t34 w =>
    wStore P T_A128uint8 t4 t34 w fun w =>
    wRes P T_A128uint8 t4 w fun r4 =>
    k (.tuple #[r4, (.bool true)]) w)

theorem call_ref02_Make (a0 a1 : Value) {w : World} {k : Value → World → Prop} (h : F_ref02_Make a0 a1 w k) : wCall P n_ref02_Make [a0, a1] w k :=
  call_of_den mixedP Try.func174 (by kernel_rfl) (.s .z (.s (.s (.r (.ops [0, 1, 2] (.grp 2 false 12 [10, 11] (.ops [3, 4, 5] .nil) (.ops [6] .nil)))) .z) (.s .z (.j [6] [4] (.b (.l [6] [4] .z)) .z)))) (by kernel_rfl) (Eq.mp (by kernel_rfl) h)

def F_ref02_Open (a0 : Value) (w : World) (k : Value → World → Prop) : Prop :=
  wBox P T_A128uint8 a0 w fun t1 w =>
  wIndexA P T_A128uint8 t1 (.int .i64 3) w fun t9 w =>
  wLoad P T_uint8 t9 w fun t10 w =>
  wBin P .gtr T_uint8 t10 (.int .u8 120) w fun t11 w =>
  wIf t11 (
    k (.tuple #[(.int .u8 0), (.slice none 0 0), (.bool false)]) w) (
    wJ1 (fun k2 =>
      wL2 (.slice none 0 0) (.int .i64 0) w (fun _ v5 v6 w k3 =>
        wIndexA P T_A128uint8 t1 (.int .i64 3) w fun t13 w =>
        wLoad P T_uint8 t13 w fun t14 w =>
        wConv P T_uint8 T_int t14 w fun t15 w =>
        wBin P .lss T_int v6 t15 w fun t16 w =>
        wIf t16 (
          wBin P .add T_int (.int .i64 4) v6 w fun t21 w =>
          wIndexA P T_A128uint8 t1 t21 w fun t22 w =>
          wLoad P T_uint8 t22 w fun t23 w =>
          wBuildS P T_Luint8 1 [(0, t23)] w fun t24 w =>
          wBuiltin P .append #[T_Luint8, T_Luint8] [v5, t24] w fun t25 w =>
          wBin P .add T_int v6 (.int .i64 1) w fun t18 w =>
          k3 t25 t18 w) (
          k2 v5 w))) fun _ v5 w =>
    wIndexA P T_A128uint8 t1 (.int .i64 2) w fun t27 w =>
    wLoad P T_uint8 t27 w fun t28 w =>
    wCall P n_ref02_Make [t28, v5] w fun t30 w =>
    wExtract P t30 0 w fun t31 w =>
    wExtract P t30 1 w fun t32 w =>
    wAlloc P T_A128uint8 w fun t7 w =>
    wStore P T_A128uint8 t7 t31 w fun w =>
    wUn P .not t32 w fun t34 w =>
    wGrp t34 false (fun k38 =>
      wLoad P T_A128uint8 t7 w fun t36 w =>
      wLoad P T_A128uint8 t1 w fun t37 w =>
      wBin P .neq T_A128uint8 t36 t37 w fun t38 w =>
      k38 t38 w) w fun _ t38 w =>
    wPick t34 (.bool true) t38 w fun t39 w =>
    wIf t39 (
      k (.tuple #[(.int .u8 0), (.slice none 0 0), (.bool false)]) w) (
      wIndexA P T_A128uint8 t1 (.int .i64 2) w fun t40 w =>
      wLoad P T_uint8 t40 w fun t41 w =>
      k (.tuple #[t41, v5, (.bool true)]) w))

theorem call_ref02_Open (a0 : Value) {w : World} {k : Value → World → Prop} (h : F_ref02_Open a0 w k) : wCall P n_ref02_Open [a0] w k :=
  call_of_den mixedP Try.func176 (by kernel_rfl) (.s .z (.s .z (.s .z (.j [5] [1] (.s .z (.b (.l [5, 6] [1] .z))) (.s .z (.s (.s (.r (.ops [0, 1, 2] (.grp 2 false 38 [36, 37] (.ops [3, 4, 5] .nil) (.ops [6] .nil)))) .z) .z)))))) (by kernel_rfl) (Eq.mp (by kernel_rfl) h)

end Go.Dn
end
section
/-! Texts of functions, printed by mkg.py. -/
set_option maxRecDepth 100000
set_option linter.unusedVariables false
namespace Go.Dn
open Go Go.Proofs
def F_seal_Make (a0 a1 : Value) (w : World) (k : Value → World → Prop) : Prop :=
  wAlloc P T_api_Sector w fun t4 w =>
  wBin P .eql T_uint8 a0 (.int .u8 0) w fun t10 w =>
  wGrp t10 false (fun k14 =>
    wLen P .len #[T_Luint8] [a1] w fun t13 w =>
    wBin P .gtr T_int t13 (.int .i64 120) w fun t14 w =>
    k14 t14 w) w fun _ t14 w =>
  wPick t10 (.bool true) t14 w fun t15 w =>
  wIf t15 (
    wBuild P T_api_Sector [] w fun t16 w =>
    wStore P T_api_Sector t4 t16 w fun w =>
    wRes P T_api_Sector t4 w fun r4 =>
    k (.tuple #[r4, (.int .i64 1)]) w) (
    wAlloc P T_num_Writer w fun t6 w =>
    wCall P n_num_Writer_Num [t6, (.int .i64 2), (.int .u64 19671)] w fun _ w =>
    wConv P T_uint8 T_uint64 a0 w fun t19 w =>
    wCall P n_num_Writer_Num [t6, (.int .i64 1), t19] w fun _ w =>
    wLen P .len #[T_Luint8] [a1] w fun t22 w =>
    wConv P T_int T_uint64 t22 w fun t23 w =>
    wCall P n_num_Writer_Num [t6, (.int .i64 1), t23] w fun _ w =>
    wCall P n_num_Writer_Bytes [t6, (.int .i64 120), a1] w fun _ w =>
    wCall P n_num_Writer_Sector [t6] w fun t28 w =>
    wExtract P t28 0 w fun t29 w =>
    wExtract P t28 1 w fun _ w =>
    wAlloc P T_api_Sector w fun t7 w =>
    wStore P T_api_Sector t7 t29 w fun w =>
    wDraw w fun w =>
    wSlice P T_api_Sector t7 none none none w fun t31 w =>
    wSlice P T_api_Sector t7 none (some (.int .i64 124)) none w fun t32 w =>
    wCall P n_seal_Crc [t32] w fun t33 w =>
    wConv P T_uint32 T_uint64 t33 w fun t34 w =>
    wCall P n_num_Put [t31, (.int .i64 124), (.int .i64 4), t34] w fun _ w =>
    wLoad P T_api_Sector t7 w fun t36 w =>
    wStore P T_api_Sector t4 t36 w fun w =>
    wRes P T_api_Sector t4 w fun r4 =>
    k (.tuple #[r4, (.int .i64 0)]) w)

theorem call_seal_Make (a0 a1 : Value) {w : World} {k : Value → World → Prop} (h : F_seal_Make a0 a1 w k) : wCall P n_seal_Make [a0, a1] w k :=
  call_of_den mixedP Try.func235 (by kernel_rfl) (.s .z (.s (.s (.r (.ops [0, 1, 2] (.grp 2 false 14 [12, 13] (.ops [3, 4, 5] .nil) (.ops [6] .nil)))) .z) (.s .z (.s .z (.s .z (.s .z (.s .z (.s .z (.s (.r (.ops [0, 1] (.eff 2 [] (.ops [3] (.eff 4 [] .nil))))) .z))))))))) (by kernel_rfl) (Eq.mp (by kernel_rfl) h)

def F_seal_Open (a0 : Value) (w : World) (k : Value → World → Prop) : Prop :=
  wBox P T_api_Sector a0 w fun t1 w =>
  wLoad P T_api_Sector t1 w fun t11 w =>
  wCall P n_num_Read [t11] w fun t12 w =>
  wCall P n_num_Reader_Num [t12, (.int .i64 2)] w fun _ w =>
  wCall P n_num_Reader_Num [t12, (.int .i64 1)] w fun t16 w =>
  wConv P T_uint64 T_uint8 t16 w fun t17 w =>
  wCall P n_num_Reader_Num [t12, (.int .i64 1)] w fun t19 w =>
  wConv P T_uint64 T_int t19 w fun t20 w =>
  wBin P .gtr T_int t20 (.int .i64 120) w fun t22 w =>
  wIf t22 (
    k (.tuple #[(.int .u8 0), (.slice none 0 0), (.int .i64 21)]) w) (
    wCall P n_num_Reader_Bytes [t12, t20] w fun t25 w =>
    wCall P n_seal_Make [t17, t25] w fun t29 w =>
    wExtract P t29 0 w fun t30 w =>
    wExtract P t29 1 w fun t31 w =>
    wAlloc P T_api_Sector w fun t9 w =>
    wStore P T_api_Sector t9 t30 w fun w =>
    wBin P .neq T_api_Errno t31 (.int .i64 0) w fun t33 w =>
    wGrp t33 false (fun k37 =>
      wLoad P T_api_Sector t9 w fun t35 w =>
      wLoad P T_api_Sector t1 w fun t36 w =>
      wBin P .neq T_api_Sector t35 t36 w fun t37 w =>
      k37 t37 w) w fun _ t37 w =>
    wPick t33 (.bool true) t37 w fun t38 w =>
    wIf t38 (
      k (.tuple #[(.int .u8 0), (.slice none 0 0), (.int .i64 21)]) w) (
      k (.tuple #[t17, t25, (.int .i64 0)]) w))

theorem call_seal_Open (a0 : Value) {w : World} {k : Value → World → Prop} (h : F_seal_Open a0 w k) : wCall P n_seal_Open [a0] w k :=
  call_of_den mixedP Try.func240 (by kernel_rfl) (.s .z (.s .z (.s .z (.s .z (.s .z (.s .z (.s (.s .z (.s (.r (.ops [0, 1, 2] (.grp 2 false 37 [35, 36] (.ops [3, 4, 5] .nil) (.ops [6] .nil)))) .z)) .z))))))) (by kernel_rfl) (Eq.mp (by kernel_rfl) h)

def F_seal_Crc (a0 : Value) (w : World) (k : Value → World → Prop) : Prop :=
  wJ1 (fun k1 =>
    wLen P .len #[T_Luint8] [a0] w fun t8 w =>
    wL2 (.int .u32 4294967295) (.int .i64 0) w (fun _ v3 v9 w k2 =>
      wBin P .lss T_int v9 t8 w fun t10 w =>
      wIf t10 (
        wJ1 (fun k4 =>
          wIndexA P T_Luint8 a0 v9 w fun t11 w =>
          wLoad P T_uint8 t11 w fun t12 w =>
          wConv P T_uint8 T_uint32 t12 w fun t15 w =>
          wBin P .xor T_uint32 v3 t15 w fun t16 w =>
          wL2 t16 (.int .i64 0) w (fun _ v3 v17 w k5 =>
            wBin P .lss T_int v17 (.int .i64 8) w fun t18 w =>
            wIf t18 (
              wBin P .and T_uint32 v3 (.int .u32 1) w fun t20 w =>
              wBin P .shr T_uint32 v3 (.int .u64 1) w fun t22 w =>
              wBin P .eql T_uint32 t20 (.int .u32 1) w fun t24 w =>
              wIf t24 (
                wBin P .xor T_uint32 t22 (.int .u32 3988292384) w fun t26 w =>
                wBin P .add T_int v17 (.int .i64 1) w fun t27 w =>
                k5 t26 t27 w) (
                wBin P .add T_int v17 (.int .i64 1) w fun t27 w =>
                k5 t22 t27 w)) (
              k4 v3 w))) fun _ v3 w =>
        wBin P .add T_int v9 (.int .i64 1) w fun t28 w =>
        k2 v3 t28 w) (
        k1 v3 w))) fun _ v3 w =>
  wUn P .xor v3 w fun t30 w =>
  k t30 w

theorem call_seal_Crc (a0 : Value) {w : World} {k : Value → World → Prop} (h : F_seal_Crc a0 w k) : wCall P n_seal_Crc [a0] w k :=
  call_of_den mixedP Try.func279 (by kernel_rfl) (.s .z (.s .z (.j [3] [] (.s .z (.b (.l [3, 9] [7, 8] (.s .z (.s .z (.j [3] [7, 8, 9] (.b (.s .z (.s .z (.s .z (.b (.l [3, 17] [7, 8, 9] .z)))))) .z)))))) .z))) (by kernel_rfl) (Eq.mp (by kernel_rfl) h)

end Go.Dn
end
section
/-! Contracts of seal and of its reference: Crc. -/
set_option linter.unusedVariables false
set_option linter.unusedSimpArgs false
namespace Go.Dn
open Go
section
variable {w : World} {K : Value → World → Prop}
theorem conv_8_32 {x : Nat} (h : x < 256) : wConv P T_uint8 T_uint32 (.int .u8 (x : Int)) w K = K (.int .u32 (x : Int)) w := by
  rw [conv_i i_T_uint8 i_T_uint32, wrapN rfl (by simp only [IntKind.bits]; omega)]
theorem conv_32_64 {x : Nat} (h : x < 4294967296) : wConv P T_uint32 T_uint64 (.int .u32 (x : Int)) w K = K (.int .u64 (x : Int)) w := by
  rw [conv_i i_T_uint32 i_T_uint64, wrapN rfl (by simp only [IntKind.bits]; omega)]
theorem conv_i_8 {x : Nat} (h : x < 256) : wConv P T_int T_uint8 (.int .i64 (x : Int)) w K = K (.int .u8 (x : Int)) w := by
  rw [conv_i i_T_int i_T_uint8, wrapN rfl (by simp only [IntKind.bits]; omega)]
theorem conv_8_i {x : Nat} (h : x < 256) : wConv P T_uint8 T_int (.int .u8 (x : Int)) w K = K (.int .i64 (x : Int)) w := by
  rw [conv_i i_T_uint8 i_T_int, IntWalk.i64_in _ (by omega)]
theorem conv_i_64 {x : Nat} (h : x ≤ 9223372036854775807) : wConv P T_int T_uint64 (.int .i64 (x : Int)) w K = K (.int .u64 (x : Int)) w := by
  rw [conv_i i_T_int i_T_uint64, wrapN rfl (by simp only [IntKind.bits]; omega)]
theorem xor_ones {x : Nat} (h : x < 4294967296) : 4294967295 ^^^ x = 4294967295 - x := by
  have h1 : (BitVec.allOnes 32 ^^^ BitVec.ofNat 32 x).toNat = (~~~ (BitVec.ofNat 32 x)).toNat := by
    rw [BitVec.xor_comm, BitVec.xor_allOnes]
  rw [BitVec.toNat_xor, BitVec.toNat_not, BitVec.toNat_allOnes, BitVec.toNat_ofNat] at h1
  have : x % 2 ^ 32 = x := Nat.mod_eq_of_lt h
  rw [this] at h1
  exact h1
theorem shr1_u32 {x : Nat} : wBin P .shr T_uint32 (.int .u32 x) (.int .u64 1) w K = K (.int .u32 ((x / 2 : Nat) : Int)) w := by
  rw [bin_shr (by omega)]
  congr 2
  rw [Int.fdiv_eq_ediv_of_nonneg _ (by exact Int.le_of_lt (Int.pow_pos (by decide)))]
  simp [IntKind.bits]
theorem and1_u32 {x : Nat} (h : x < 4294967296) : wBin P .and T_uint32 (.int .u32 x) (.int .u32 1) w K = K (.int .u32 ((x % 2 : Nat) : Int)) w := by
  have e1 : (1 : Int) = ((1 : Nat) : Int) := rfl
  rw [e1, bin_andN (by simp only [IntKind.bits]; omega) (by simp only [IntKind.bits]; omega) rfl, Nat.and_one_is_mod]
attribute [local semireducible] wUn in
theorem un_xor32 {x : Nat} (h : x < 4294967296) : wUn P .xor (.int .u32 x) w K = K (.int .u32 ((4294967295 - x : Nat) : Int)) w := by
  refine pureW_eq (fun w' => ?_) w K
  have e : (IntKind.max .u32) = ((4294967295 : Nat) : Int) := by decide
  have h1 : BitVec.ofInt 32 ((4294967295 : Nat) : Int) = BitVec.allOnes 32 := by decide
  simp only [Op.unary, IntKind.signed, Bool.false_eq_true, if_false, e, Op.intBits, BitVec.toNat_xor]
  rw [show IntKind.u32.bits = 32 from rfl, ofInt_nat (by omega), ofInt_nat (by omega), xor_ones h, wrapN rfl (by simp only [IntKind.bits]; omega)]
  rfl
theorem take_get {bs : List Nat} {i : Nat} (h : i < bs.length) : bs.take (i + 1) = bs.take i ++ [bs[i]] := List.take_succ_eq_append_getElem h
theorem ref02_Crc {v : Value} {bs : List Nat} {k : Value → World → Prop} (S : SlG w 1 v (bvs bs)) (hb : ∀ b ∈ bs, b < 256) (hl : bs.length ≤ 4611686018427387904) (hk : k (.int .u32 (crc bs : Nat)) w) : wCall P n_ref02_Crc [v] w k := by
  refine call_ref02_Crc _ ?_
  unfold F_ref02_Crc
  simp only [wJ1]
  refine loop_up2 bs.length (fun i a u w' => a = .int .u32 (crcGo 4294967295 (bs.take i) : Nat) ∧ u = .int .i64 (i : Int) ∧ w' = w) ⟨by simp [crcGo], rfl, rfl⟩ ?_
  rintro i J a u w' k' hi ⟨rfl, rfl, rfl⟩ hk'
  rw [S.len_i u_T_Luint8 (by omega) (n := bs.length) (by rw [bvs_length]; omega), bin_lss]
  have hgo : crcGo 4294967295 (bs.take i) < 4294967296 := crcGo_lt (fun b h => hb b (List.mem_of_mem_take h)) (by omega)
  refine wIf_d (fun hlt => ?_) (fun hge => ?_)
  · have hlt' : i < bs.length := by omega
    have hbl := hb _ (List.getElem_mem hlt')
    refine S.ix1 (x := .int .u8 (bs[i] : Nat)) s_T_Luint8 (by omega) (bvs_get (List.getElem?_eq_getElem hlt')) fun ad had => ?_
    have hx := Nat.xor_lt_two_pow (n := 32) hgo (show bs[i] < 2 ^ 32 by omega)
    rw [ld_one o_T_uint8 had, conv_8_32 hbl, bin_xorN (by simp only [IntKind.bits]; omega) (by simp only [IntKind.bits]; omega) rfl]
    refine loop_up2 8 (fun m a u w2 => a = .int .u32 (crcSteps m (crcGo 4294967295 (bs.take i) ^^^ bs[i]) : Nat) ∧ u = .int .i64 (m : Int) ∧ w2 = w') ⟨rfl, rfl, rfl⟩ ?_
    rintro m J2 a u w2 k2 hm ⟨rfl, rfl, rfl⟩ hk2
    have hst := crcSteps_lt hx m
    rw [bin_lss]
    refine wIf_d (fun hm8 => ?_) (fun hm8 => ?_)
    · have e2 : (2 : Int) = ((2 : Nat) : Int) := rfl
      rw [e2, bin_remN (by decide), bin_eql]
      have e1 : (1 : Int) = ((1 : Nat) : Int) := rfl
      refine wIf_d (fun h1 => ?_) (fun h1 => ?_)
      · have e3 : (3988292384 : Int) = ((3988292384 : Nat) : Int) := rfl
        rw [bin_quoN rfl (by simp only [IntKind.bits]; omega) (by decide), e3, bin_xorN (by simp only [IntKind.bits]; omega) (by simp only [IntKind.bits]; omega) rfl, bin_add (by omega)]
        refine hk2 _ _ _ (by omega) ⟨?_, rfl, rfl⟩
        simp only [crcSteps, crcStep]
        rw [if_pos (by omega)]
      · rw [bin_quoN rfl (by simp only [IntKind.bits]; omega) (by decide), bin_add (by omega)]
        refine hk2 _ _ _ (by omega) ⟨?_, rfl, rfl⟩
        simp only [crcSteps, crcStep]
        rw [if_neg (by omega)]
    · obtain rfl : m = 8 := by omega
      intro _
      rw [bin_add (by omega)]
      refine hk' _ _ _ (by omega) ⟨?_, rfl, rfl⟩
      rw [take_get hlt', crcGo_snoc]
  · obtain rfl : i = bs.length := by omega
    intro _
    rw [List.take_of_length_le (Nat.le_refl _)] at hgo ⊢
    rw [bin_subw, show ((4294967295 : Int) - ((crcGo 4294967295 bs : Nat) : Int)) = ((4294967295 - crcGo 4294967295 bs : Nat) : Int) by omega, wrapN rfl (by simp only [IntKind.bits]; omega)]
    exact hk
theorem seal_Crc {v : Value} {bs : List Nat} {k : Value → World → Prop} (S : SlG w 1 v (bvs bs)) (hb : ∀ b ∈ bs, b < 256) (hl : bs.length ≤ 4611686018427387904) (hk : k (.int .u32 (crc bs : Nat)) w) : wCall P n_seal_Crc [v] w k := by
  refine call_seal_Crc _ ?_
  unfold F_seal_Crc
  simp only [wJ1]
  rw [S.len_i u_T_Luint8 (by omega) (n := bs.length) (by rw [bvs_length]; omega)]
  refine loop_up2 bs.length (fun i a u w' => a = .int .u32 (crcGo 4294967295 (bs.take i) : Nat) ∧ u = .int .i64 (i : Int) ∧ w' = w) ⟨by simp [crcGo], rfl, rfl⟩ ?_
  rintro i J a u w' k' hi ⟨rfl, rfl, rfl⟩ hk'
  rw [bin_lss]
  have hgo : crcGo 4294967295 (bs.take i) < 4294967296 := crcGo_lt (fun b h => hb b (List.mem_of_mem_take h)) (by omega)
  refine wIf_d (fun hlt => ?_) (fun hge => ?_)
  · have hlt' : i < bs.length := by omega
    have hbl := hb _ (List.getElem_mem hlt')
    refine S.ix1 (x := .int .u8 (bs[i] : Nat)) s_T_Luint8 (by omega) (bvs_get (List.getElem?_eq_getElem hlt')) fun ad had => ?_
    have hx := Nat.xor_lt_two_pow (n := 32) hgo (show bs[i] < 2 ^ 32 by omega)
    rw [ld_one o_T_uint8 had, conv_8_32 hbl, bin_xorN (by simp only [IntKind.bits]; omega) (by simp only [IntKind.bits]; omega) rfl]
    refine loop_up2 8 (fun m a u w2 => a = .int .u32 (crcSteps m (crcGo 4294967295 (bs.take i) ^^^ bs[i]) : Nat) ∧ u = .int .i64 (m : Int) ∧ w2 = w') ⟨rfl, rfl, rfl⟩ ?_
    rintro m J2 a u w2 k2 hm ⟨rfl, rfl, rfl⟩ hk2
    have hst := crcSteps_lt hx m
    rw [bin_lss]
    refine wIf_d (fun hm8 => ?_) (fun hm8 => ?_)
    · rw [and1_u32 hst]
      rw [shr1_u32, bin_eql]
      refine wIf_d (fun h1 => ?_) (fun h1 => ?_)
      · have e3 : (3988292384 : Int) = ((3988292384 : Nat) : Int) := rfl
        rw [e3, bin_xorN (by simp only [IntKind.bits]; omega) (by simp only [IntKind.bits]; omega) rfl, bin_add (by omega)]
        refine hk2 _ _ _ (by omega) ⟨?_, rfl, rfl⟩
        simp only [crcSteps, crcStep]
        rw [if_pos (by omega)]
      · rw [bin_add (by omega)]
        refine hk2 _ _ _ (by omega) ⟨?_, rfl, rfl⟩
        simp only [crcSteps, crcStep]
        rw [if_neg (by omega)]
    · obtain rfl : m = 8 := by omega
      intro _
      rw [bin_add (by omega)]
      refine hk' _ _ _ (by omega) ⟨?_, rfl, rfl⟩
      rw [take_get hlt', crcGo_snoc]
  · obtain rfl : i = bs.length := by omega
    intro _
    rw [List.take_of_length_le (Nat.le_refl _)] at hgo ⊢
    rw [un_xor32 hgo]
    exact hk
end
end Go.Dn
end
section
/-! Contracts of seal and of its reference: Make, Open. -/
set_option maxRecDepth 10000
set_option linter.unusedVariables false
set_option linter.unusedSimpArgs false
namespace Go.Dn
open Go
section
variable {w : World} {K : Value → World → Prop}
theorem rep_bvs (n : Nat) : bvs (List.replicate n 0) = List.replicate n (Value.int .u8 0) := by simp [bvs]
def zeroS : List Nat := List.replicate 128 0
theorem zeroS_length : zeroS.length = 128 := List.length_replicate
theorem bl_zero_sector : wBuild P T_api_Sector [] w K = K (sv zeroS) w := by
  rw [bl_T_api_Sector (cs := bvs zeroS) (by rw [zeroS, rep_bvs]; exact fill_nil)]
  rfl
theorem bl_zero_128 : wBuild P T_A128uint8 [] w K = K (sv zeroS) w := by
  rw [bl_T_A128uint8 (cs := bvs zeroS) (by rw [zeroS, rep_bvs]; exact fill_nil)]
  rfl
/-- A sector is laid over a variable of its type. -/
theorem st_sector {k : World → Prop} {g : Nat} {u : TypeId} {cs : List Value} {s : List Nat} {t : TypeId} (hT : aggT P t 128 = true) (hs : s.length = 128) (H : Blk w g u cs) (hl : cs.length = 128) (hk : ∀ w', Ex [g] w w' → Blk w' g u (bvs s) → k w') : wStore P t (.pointer (some ⟨g, 0, none⟩)) (sv s) w k := by
  refine st_agg hT (by rw [bvs_length, hs]) (bvs_isC s) H (by omega) fun w' hE B => ?_
  rw [splice_front (n := 128) (by rw [bvs_length, hs]) (by omega), List.drop_of_length_le (by omega), List.append_nil] at B
  exact hk w' hE B
theorem ld_sector {g : Nat} {u : TypeId} {s : List Nat} {t : TypeId} (hT : aggT P t 128 = true) (hs : s.length = 128) (H : Blk w g u (bvs s)) : wLoad P t (.pointer (some ⟨g, 0, none⟩)) w K = K (sv s) w :=
  ld_agg hT H.all (by rw [bvs_length, hs])
theorem res_sector {g : Nat} {u : TypeId} {s : List Nat} {t : TypeId} {k : Value → Prop} (hT : aggT P t 128 = true) (hs : s.length = 128) (H : Blk w g u (bvs s)) (hk : k (sv s)) : wRes P t (.pointer (some ⟨g, 0, none⟩)) w k :=
  res_agg hT H.all (by rw [bvs_length, hs]) hk
theorem eq_sector {t : TypeId} {n : Nat} (hu : P.underlying t = some (.array n T_uint8)) (x y : List Nat) (hx : x.length = n) (hy : y.length = n) (d : Nat) (w : World) : (Op.equalIn (d + 2) t (sv x) (sv y)).run P w = .ok (decide (x = y)) w := by
  have hb : ∀ l : List Nat, bvs l = (l.map fun n : Nat => (n : Int)).map (Value.int .u8) := by intro l; simp [bvs]
  unfold sv
  rw [hb x, hb y]
  refine (eqA_int hu o_T_uint8 i_T_uint8 d (x.map fun n : Nat => (n : Int)) (y.map fun n : Nat => (n : Int)) (by simpa using hx) (by simpa using hy) w).trans ?_
  have : decide ((x.map fun n : Nat => (n : Int)) = y.map fun n : Nat => (n : Int)) = decide (x = y) := by
    rw [decide_eq_decide]
    exact ⟨fun h => bvs_inj (by rw [hb, hb, h]), fun h => by rw [h]⟩
  rw [this]
theorem ne_128 {x y : List Nat} (hx : x.length = 128) (hy : y.length = 128) : wBin P .neq T_A128uint8 (sv x) (sv y) w K = K (.bool (!decide (x = y))) w :=
  bin_neA2 e_T_A128uint8 fun d w' => eq_sector v_T_A128uint8 x y hx hy d w'
theorem ne_sector {x y : List Nat} (hx : x.length = 128) (hy : y.length = 128) : wBin P .neq T_api_Sector (sv x) (sv y) w K = K (.bool (!decide (x = y))) w :=
  bin_neA2 e_T_api_Sector fun d w' => eq_sector v_T_api_Sector x y hx hy d w'
theorem eq_sector' {x y : List Nat} (hx : x.length = 128) (hy : y.length = 128) : wBin P .eql T_api_Sector (sv x) (sv y) w K = K (.bool (decide (x = y))) w :=
  bin_eqA2 e_T_api_Sector fun d w' => eq_sector v_T_api_Sector x y hx hy d w'
theorem ref02_Make {kind : Nat} {v : Value} {body : List Nat} {k : Value → World → Prop} (S : SlG w 1 v (bvs body)) (hkd : kind < 256) (hb : ∀ b ∈ body, b < 256) (hl : body.length ≤ 1000000)
    (hbad : kind = 0 ∨ 120 < body.length → ∀ w', Ex [] w w' → k (.tuple #[sv zeroS, .bool false]) w') (hk : kind ≠ 0 → body.length ≤ 120 → ∀ w', Ex [] w w' → k (.tuple #[sv (sealS kind body), .bool true]) w') :
    wCall P n_ref02_Make [.int .u8 (kind : Int), v] w k := by
  refine call_ref02_Make _ _ ?_
  unfold F_ref02_Make
  refine alloc_i z_T_A128uint8 (vs := List.replicate 128 (.int .u8 0)) rfl fun w1 g1 hg1 hE1 B1 => ?_
  have S1 := S.ex0 hE1
  simp only [bin_eql, S1.len_i (P := P) u_T_Luint8 (by omega) (n := body.length) (by rw [bvs_length]; omega), bin_gtr, or_p]
  refine wIf_i _ (fun hc => ?_) (fun hc => ?_)
  · simp only [Bool.or_eq_true, decide_eq_true_eq] at hc
    rw [bl_zero_128]
    refine st_sector g_T_A128uint8 zeroS_length B1 List.length_replicate fun w2 hE2 B2 => ?_
    refine res_sector g_T_A128uint8 zeroS_length B2 ?_
    exact hbad (by omega) w2 (hE1.new hE2 (by omega))
  · simp only [Bool.or_eq_false_iff, decide_eq_false_iff_not] at hc
    have hk0 : kind ≠ 0 := by omega
    have hl2 : body.length ≤ 120 := by omega
    rw [conv_i_8 (by omega)]
    refine buildS_ones (xs := bvs [215, 76, kind, body.length]) rfl u_T_Luint8 o_T_uint8 z_T_uint8 rfl rfl (by omega) (fun x hx => isC_cells (bvs_isC _ x hx)) fun w2 g2 hg2 hE2 B2 => ?_
    have hle1 := hE1.le
    have hle2 := hE2.le
    have hO2 : Own w2 w1.heap.size T_uint8 1 (.slice (some ⟨g2, 0, none⟩) 4 4) (bvs [215, 76, kind, body.length]) :=
      Own.of_blk B2 rfl (by omega) (by omega)
    refine app_T_Luint8 (n := 4) (m := body.length) hO2 (S1.ex0 hE2) rfl (by rw [bvs_length]; omega) (bvs_isC _) (by omega) (by omega) fun v3 w3 hO3 hE3 hv3 => ?_
    have hle3 := hE3.le
    have E3 : Ex [] w1 w3 := hE2.step hE3 (by simp [Value.ownBlock]; omega)
    rw [← bvs_append] at hO3
    unfold wJ1
    have hlen : ([215, 76, kind, body.length] ++ body).length = 4 + body.length := by simp; omega
    refine loop_up (120 - body.length) (fun i u w' => Ex [] w1 w' ∧ Own w' w1.heap.size T_uint8 1 u (bvs ([215, 76, kind, body.length] ++ body ++ List.replicate i 0))) ⟨E3, by simpa using hO3⟩ ?_
    rintro i J u w' k' hi ⟨hE, hO⟩ hk'
    have hle := hE.le
    have hli : ([215, 76, kind, body.length] ++ body ++ List.replicate i 0).length = 4 + body.length + i := by simp; omega
    rw [hO.slg.len_i (P := P) u_T_Luint8 (by omega) (n := 4 + body.length + i) (by rw [bvs_length, hli]; omega), bin_lss]
    refine wIf_d (fun hlt => ?_) (fun hge => ?_)
    · refine push_u8 (b := 0) hO (n := 4 + body.length + i) hli (by omega) hle fun v4 w4 hO4 hE4 _ => ?_
      refine hk' _ _ (by omega) ⟨hE.step hE4 fun y hy => .inr ?_, ?_⟩
      · cases hu : u.ownBlock with
        | none => rw [hu] at hy; simp at hy
        | some g => rw [hu] at hy; simp at hy; have := (hO.blk hu).1; omega
      · rw [List.append_assoc, ← List.replicate_succ'] at hO4
        exact hO4
    · obtain rfl : i = 120 - body.length := by omega
      intro _
      have hhead : [215, 76, kind, body.length] ++ body ++ List.replicate (120 - body.length) 0 = sealHead kind body := rfl
      rw [hhead] at hO
      have hhl := sealHead_length (kind := kind) hl2
      have hhb := sealHead_lt hkd hl2 hb
      refine ref02_Crc hO.slg hhb (by omega) ?_
      have hcl := crc_lt (sealHead kind body)
      rw [conv_32_64 hcl]
      refine ref01_Low (wd := 4) (by omega) (by omega) fun v5 w5 hE5 hO5 => ?_
      have hle5 := hE5.le
      refine app_T_Luint8 (n := 124) (m := 4) (hO.ex0 hE5) hO5.slg (by rw [bvs_length, hhl]) (by rw [bvs_length, low_length]) (bvs_isC _) (by omega) (by omega) fun v6 w6 hO6 hE6 hv6 => ?_
      rw [← bvs_append] at hO6
      have hsl : (sealHead kind body ++ low (crc (sealHead kind body)) 4) = sealS kind body := rfl
      rw [hsl] at hO6
      have hsn := sealS_length (kind := kind) hl2
      have E6 : Ex [] w1 w6 := (hE.trans hE5).step hE6 fun y hy => .inr (by
        cases hu : u.ownBlock with
        | none => rw [hu] at hy; simp at hy
        | some g => rw [hu] at hy; simp at hy; have := (hO.blk hu).1; omega)
      refine ref01_Full hO6.slg (by omega) fun w7 hE7 => ?_
      have e7 : (sealS kind body).take 128 ++ List.replicate (128 - (sealS kind body).length) 0 = sealS kind body := by
        rw [hsn, List.take_of_length_le (by omega)]; simp
      rw [e7]
      have hg1 := B1.ex (E6.trans hE7) (by simp)
      refine st_sector g_T_A128uint8 hsn hg1 List.length_replicate fun w8 hE8 B8 => ?_
      refine res_sector g_T_A128uint8 hsn B8 ?_
      exact hk hk0 hl2 w8 ((hE1.trans (E6.trans hE7)).new hE8 (by omega))
theorem getD_eq {s : List Nat} {i : Nat} (h : i < s.length) : (bvs s)[i]? = some (.int .u8 (s.getD i 0 : Nat)) := by
  rw [bvs_get (List.getElem?_eq_getElem h), List.getD_eq_getElem?_getD, List.getElem?_eq_getElem h]; rfl
theorem getD_lt {s : List Nat} (hb : ∀ b ∈ s, b < 256) (i : Nat) : s.getD i 0 < 256 := by
  rw [List.getD_eq_getElem?_getD]
  cases h : s[i]? with
  | none => simp
  | some b => exact hb b (List.mem_of_getElem? h)
theorem bodyS_length {s : List Nat} (hs : s.length = 128) (hl : s.getD 3 0 ≤ 120) : (bodyS s).length = s.getD 3 0 := by
  unfold bodyS; rw [List.length_take, List.length_drop]; omega
theorem bodyS_lt {s : List Nat} (hb : ∀ b ∈ s, b < 256) : ∀ b ∈ bodyS s, b < 256 := fun b h => hb b (List.mem_of_mem_drop (List.mem_of_mem_take h))
theorem ix_sec {g i : Nat} {x : Int} {ik : IntKind} {t : TypeId} (ht : arT P t = some (128, 1)) (hx : x = (i : Int)) (hi : i < 128) : wIndexA P t (.pointer (some ⟨g, 0, none⟩)) (.int ik x) w K = K (.pointer (some ⟨g, i, none⟩)) w := by
  subst hx
  rw [indexA_i ht (by omega) (by omega), Nat.zero_add, Nat.mul_one, Int.toNat_natCast]
theorem ref02_Open {s : List Nat} {k : Value → World → Prop} (hs : s.length = 128) (hb : ∀ b ∈ s, b < 256)
    (hbad : sealOp s = none → ∀ w', Ex [] w w' → k (.tuple #[.int .u8 0, .slice none 0 0, .bool false]) w')
    (hk : ∀ kind body, sealOp s = some (kind, body) → ∀ v w', Ex [] w w' → Own w' w.heap.size T_uint8 1 v (bvs body) → k (.tuple #[.int .u8 (kind : Int), v, .bool true]) w') : wCall P n_ref02_Open [sv s] w k := by
  refine call_ref02_Open _ ?_
  unfold F_ref02_Open
  refine box_i (sv_cells s) fun w1 g1 hg1 hE1 B1 => ?_
  have hb3 := getD_lt hb 3
  rw [ix_sec (i := 3) a_T_A128uint8 (by omega) (by omega), ld_one o_T_uint8 ((B1.cell 3).trans (getD_eq (i := 3) (by omega))), bin_gtr]
  refine wIf_d (fun hgt => ?_) (fun hle => ?_)
  · exact hbad (by unfold sealOp; rw [if_pos (by omega)]) w1 hE1
  · have hle1 := hE1.le
    unfold wJ1
    refine loop_up2 (s.getD 3 0) (fun i v u w' => u = .int .i64 (i : Int) ∧ Ex [] w1 w' ∧ Own w' w1.heap.size T_uint8 1 v (bvs ((s.drop 4).take i))) ⟨rfl, Ex.refl _ _, by simpa [bvs] using Own.nil w1 w1.heap.size T_uint8 1⟩ ?_
    rintro i J v u w' k' hi ⟨rfl, hE, hO⟩ hk'
    have hlE := hE.le
    have B' := B1.ex hE (by simp)
    rw [ix_sec (i := 3) a_T_A128uint8 (by omega) (by omega), ld_one o_T_uint8 ((B'.cell 3).trans (getD_eq (i := 3) (by omega))), conv_8_i hb3, bin_lss]
    refine wIf_d (fun hlt => ?_) (fun hge => ?_)
    · have h4 : 4 + i < s.length := by omega
      rw [bin_add (by omega), ix_sec (i := 4 + i) a_T_A128uint8 (by omega) (by omega), ld_one o_T_uint8 ((B'.cell (4 + i)).trans (getD_eq (i := 4 + i) (by omega)))]
      refine push_u8 hO (n := i) (by rw [List.length_take, List.length_drop]; omega) (by omega) hlE fun v2 w2 hO2 hE2 _ => ?_
      rw [bin_add (by omega)]
      refine hk' _ _ _ (by omega) ⟨rfl, hE.step hE2 fun y hy => .inr ?_, ?_⟩
      · cases hv : v.ownBlock with
        | none => rw [hv] at hy; simp at hy
        | some g => rw [hv] at hy; simp at hy; have := (hO.blk hv).1; omega
      · have : (s.drop 4).take (i + 1) = (s.drop 4).take i ++ [s.getD (4 + i) 0] := by
          rw [List.take_succ_eq_append_getElem (by rw [List.length_drop]; omega), List.getD_eq_getElem?_getD, List.getElem?_eq_getElem h4]
          simp
        rw [this]
        exact hO2
    · obtain rfl : i = s.getD 3 0 := by omega
      intro _
      have hbody : (s.drop 4).take (s.getD 3 0) = bodyS s := rfl
      rw [hbody] at hO
      have hbl := bodyS_length hs (by omega)
      rw [ix_sec (i := 2) a_T_A128uint8 (by omega) (by omega), ld_one o_T_uint8 ((B'.cell 2).trans (getD_eq (i := 2) (by omega)))]
      have fin : ∀ ok m w2, m.length = 128 → Ex [] w1 w2 → Ex [] w' w2 → (ok = true ∧ m = s ↔ sealMk (s.getD 2 0) (bodyS s) = some s) →
          (wExtract P (.tuple #[sv m, .bool ok]) 0 w2 fun t31 w => wExtract P (.tuple #[sv m, .bool ok]) 1 w fun t32 w => wAlloc P T_A128uint8 w fun t7 w => wStore P T_A128uint8 t7 t31 w fun w => wUn P .not t32 w fun t34 w =>
            wGrp t34 false (fun k38 => wLoad P T_A128uint8 t7 w fun t36 w => wLoad P T_A128uint8 (.pointer (some ⟨g1, 0, none⟩)) w fun t37 w => wBin P .neq T_A128uint8 t36 t37 w fun t38 w => k38 t38 w) w fun _ t38 w =>
            wPick t34 (.bool true) t38 w fun t39 w => wIf t39 (k (.tuple #[.int .u8 0, .slice none 0 0, .bool false]) w)
              (wIndexA P T_A128uint8 (.pointer (some ⟨g1, 0, none⟩)) (.int .i64 2) w fun t40 w => wLoad P T_uint8 t40 w fun t41 w => k (.tuple #[t41, v, .bool true]) w)) := by
        intro ok m w2 hm hE2 hE2' hiff
        rw [ext_0, ext_1]
        refine alloc_i z_T_A128uint8 (vs := List.replicate 128 (.int .u8 0)) rfl fun w3 g3 hg3 hE3 B3 => ?_
        have hl2 := hE2.le
        refine st_sector g_T_A128uint8 hm B3 List.length_replicate fun w4 hE4 B4 => ?_
        have E4 : Ex [] w2 w4 := hE3.new hE4 (by omega)
        have B14 := (B1.ex hE2 (by simp)).ex E4 (by simp)
        rw [un_not]
        refine or_i (r := !decide (m = s)) (fun _ k2 hk2 => ?_) ?_
        · rw [ld_sector g_T_A128uint8 hm B4, ld_sector g_T_A128uint8 hs B14, ne_128 hm hs]
          exact hk2
        · refine wIf_i _ (fun hc => ?_) (fun hc => ?_)
          · refine hbad ?_ w4 (hE1.trans (hE2.trans E4))
            unfold sealOp
            rw [if_neg (by omega), if_neg]
            intro h
            obtain ⟨h1, h2⟩ := hiff.2 h
            rw [h1, h2] at hc
            simp at hc
          · have h12 : ok = true ∧ m = s := by
              cases ok
              · simp at hc
              · simpa using hc
            rw [ix_sec (i := 2) a_T_A128uint8 (by omega) (by omega), ld_one o_T_uint8 ((B14.cell 2).trans (getD_eq (i := 2) (by omega)))]
            refine hk _ _ ?_ v w4 (hE1.trans (hE2.trans E4)) (((hO.ex0 hE2').ex0 E4).base (by omega))
            unfold sealOp
            rw [if_neg (by omega), if_pos (hiff.1 h12)]
      refine ref02_Make hO.slg (getD_lt hb 2) (bodyS_lt hb) (by omega) (fun hc w2 hE2 => ?_) (fun h0 hl2 w2 hE2 => ?_)
      · refine fin false zeroS w2 zeroS_length (hE.trans hE2) hE2 ?_
        constructor
        · intro h; cases h.1
        · intro h
          unfold sealMk at h
          rw [if_pos hc] at h
          cases h
      · refine fin true _ w2 (sealS_length hl2) (hE.trans hE2) hE2 ?_
        unfold sealMk
        rw [if_neg (by omega)]
        simp
end
end Go.Dn
end
section
/-! Fields in bytes, plain. -/
set_option linter.unusedVariables false
set_option linter.unusedSimpArgs false
namespace Go.Dn
/-- May a number stand in so many bytes? -/
def okN (wd : Nat) (n : Int) : Bool := decide (0 ≤ n) && decide (n.toNat < 256 ^ wd)
def encF : List Nat → List Int → List Nat
  | wd :: ws, n :: ns => low n.toNat wd ++ encF ws ns
  | _, _ => []
def okNs : List Nat → List Int → Bool
  | wd :: ws, n :: ns => okN wd n && okNs ws ns
  | _, _ => true
/-- What a form does to a state, number by number. -/
def runS {σ : Type} (stp : σ → Nat → Int → σ) : σ → List Nat → List Int → σ
  | st, wd :: ws, n :: ns => runS stp (stp st wd n) ws ns
  | st, _, _ => st
def runV {σ : Type} (stp : σ → Nat → Int → σ) (val : σ → Nat → Int → Int) : σ → List Nat → List Int → List Int
  | st, wd :: ws, n :: ns => val st wd n :: runV stp val (stp st wd n) ws ns
  | _, _, _ => []
theorem runV_length {σ : Type} (stp : σ → Nat → Int → σ) (val : σ → Nat → Int → Int) : ∀ (ws : List Nat) (ns : List Int) (st : σ), ws.length = ns.length → (runV stp val st ws ns).length = ns.length
  | [], [], _, _ => rfl
  | _ :: ws, n :: ns, st, h => by simp only [runV, List.length_cons]; rw [runV_length stp val ws ns _ (by simpa using h)]
  | [], _ :: _, _, h => by simp at h
  | _ :: _, [], _, h => by simp at h
theorem runS_append {σ : Type} (stp : σ → Nat → Int → σ) : ∀ (ws : List Nat) (ns : List Int) (st : σ) (ws' : List Nat) (ns' : List Int), ws.length = ns.length → runS stp st (ws ++ ws') (ns ++ ns') = runS stp (runS stp st ws ns) ws' ns'
  | [], [], _, _, _, _ => rfl
  | _ :: ws, n :: ns, st, _, _, h => by simp only [List.cons_append, runS]; exact runS_append stp ws ns _ _ _ (by simpa using h)
  | [], _ :: _, _, _, _, h => by simp at h
  | _ :: _, [], _, _, _, h => by simp at h
theorem runV_append {σ : Type} (stp : σ → Nat → Int → σ) (val : σ → Nat → Int → Int) : ∀ (ws : List Nat) (ns : List Int) (st : σ) (ws' : List Nat) (ns' : List Int), ws.length = ns.length → runV stp val st (ws ++ ws') (ns ++ ns') = runV stp val st ws ns ++ runV stp val (runS stp st ws ns) ws' ns'
  | [], [], _, _, _, _ => rfl
  | _ :: ws, n :: ns, st, _, _, h => by simp only [List.cons_append, runV, runS]; rw [runV_append stp val ws ns _ _ _ (by simpa using h)]
  | [], _ :: _, _, _, _, h => by simp at h
  | _ :: _, [], _, _, _, h => by simp at h

/-! A form that writes: what stands there, and whether something had no room. -/
def wstp (st : List Nat × Bool) (wd : Nat) (n : Int) : List Nat × Bool :=
  (st.1 ++ (if n.toNat < 256 ^ wd then low n.toNat wd else List.replicate wd 0), st.2 || !okN wd n)
def wval (_ : List Nat × Bool) (_ : Nat) (n : Int) : Int := n
theorem runV_w : ∀ (ws : List Nat) (ns : List Int) (st : List Nat × Bool), ws.length = ns.length → runV wstp wval st ws ns = ns
  | [], [], _, _ => rfl
  | _ :: ws, n :: ns, st, h => by simp only [runV, wval]; rw [runV_w ws ns _ (by simpa using h)]
  | [], _ :: _, _, h => by simp at h
  | _ :: _, [], _, h => by simp at h
theorem runS_w_bad : ∀ (ws : List Nat) (ns : List Int) (st : List Nat × Bool), (runS wstp st ws ns).2 = (st.2 || !okNs ws ns)
  | [], _, st => by simp [runS, okNs]
  | _ :: _, [], st => by simp [runS, okNs]
  | wd :: ws, n :: ns, st => by
    simp only [runS, okNs]
    rw [runS_w_bad ws ns]
    simp only [wstp]
    cases st.2 <;> cases okN wd n <;> cases okNs ws ns <;> rfl
theorem runS_w_ok : ∀ (ws : List Nat) (ns : List Int) (st : List Nat × Bool), okNs ws ns = true → (runS wstp st ws ns).1 = st.1 ++ encF ws ns
  | [], _, st, _ => by simp [runS, encF]
  | _ :: _, [], st, _ => by simp [runS, encF]
  | wd :: ws, n :: ns, st, h => by
    simp only [okNs, Bool.and_eq_true] at h
    simp only [runS, encF]
    rw [runS_w_ok ws ns _ h.2]
    simp only [wstp]
    have := h.1
    unfold okN at this
    simp only [Bool.and_eq_true, decide_eq_true_eq] at this
    rw [if_pos this.2, List.append_assoc]
theorem runS_w_len : ∀ (ws : List Nat) (ns : List Int) (st : List Nat × Bool), ws.length = ns.length → (runS wstp st ws ns).1.length = st.1.length + ws.sum
  | [], [], st, _ => by simp [runS]
  | wd :: ws, n :: ns, st, h => by
    simp only [runS]
    rw [runS_w_len ws ns _ (by simpa using h)]
    simp only [wstp, List.length_append, List.sum_cons]
    split <;> simp [low_length] <;> omega
  | [], _ :: _, _, h => by simp at h
  | _ :: _, [], _, h => by simp at h
theorem runS_w_lt : ∀ (ws : List Nat) (ns : List Int) (st : List Nat × Bool), (∀ b ∈ st.1, b < 256) → ∀ b ∈ (runS wstp st ws ns).1, b < 256
  | [], _, st, h => by simpa [runS] using h
  | _ :: _, [], st, h => by simpa [runS] using h
  | wd :: ws, n :: ns, st, h => by
    simp only [runS]
    refine runS_w_lt ws ns _ fun b hb => ?_
    simp only [wstp, List.mem_append] at hb
    rcases hb with hb | hb
    · exact h b hb
    · split at hb
      · exact low_lt _ _ b hb
      · rw [List.mem_replicate] at hb; omega
theorem encF_length : ∀ (ws : List Nat) (ns : List Int), ws.length = ns.length → (encF ws ns).length = ws.sum
  | [], [], _ => rfl
  | wd :: ws, n :: ns, h => by simp only [encF, List.length_append, low_length, List.sum_cons]; rw [encF_length ws ns (by simpa using h)]
  | [], _ :: _, h => by simp at h
  | _ :: _, [], h => by simp at h
theorem encF_lt : ∀ (ws : List Nat) (ns : List Int), ∀ b ∈ encF ws ns, b < 256
  | [], _ => by simp [encF]
  | _ :: _, [] => by simp [encF]
  | wd :: ws, n :: ns => by
    intro b hb
    simp only [encF, List.mem_append] at hb
    rcases hb with hb | hb
    · exact low_lt _ _ b hb
    · exact encF_lt ws ns b hb
/-! A form that reads: where it stands, and whether it came to the end. -/
def rstp (body : List Nat) (st : Nat × Bool) (wd : Nat) (_ : Int) : Nat × Bool := (st.1 + wd, st.2 || !decide (st.1 + wd ≤ body.length))
def rval (body : List Nat) (st : Nat × Bool) (wd : Nat) (_ : Int) : Int := if st.1 + wd ≤ body.length then (numOf ((body.drop st.1).take wd) : Nat) else 0
/-- The numbers of bytes. -/
def decF : List Nat → List Nat → List Int
  | wd :: ws, b => ((numOf (b.take wd) : Nat) : Int) :: decF ws (b.drop wd)
  | [], _ => []
theorem decF_length (ws : List Nat) (b : List Nat) : (decF ws b).length = ws.length := by
  induction ws generalizing b with
  | nil => rfl
  | cons wd ws ih => simp [decF, ih]
theorem runS_r (body : List Nat) : ∀ (ws : List Nat) (ns : List Int) (st : Nat × Bool), ws.length = ns.length → (runS (rstp body) st ws ns).1 = st.1 + ws.sum ∧ ((runS (rstp body) st ws ns).2 = true ↔ st.2 = true ∨ (ws ≠ [] ∧ body.length < st.1 + ws.sum))
  | [], [], st, _ => by simp [runS]
  | wd :: ws, n :: ns, st, h => by
    obtain ⟨h1, h2⟩ := runS_r body ws ns (rstp body st wd n) (by simpa using h)
    simp only [runS]
    rw [h1, h2]
    simp only [rstp, List.sum_cons, Bool.or_eq_true, Bool.not_eq_true', decide_eq_false_iff_not]
    refine ⟨by omega, ?_⟩
    have hs : ws = [] → ws.sum = 0 := fun h => by rw [h]; rfl
    constructor
    · rintro ((h | h) | ⟨_, h⟩)
      · exact .inl h
      · exact .inr ⟨by simp, by omega⟩
      · exact .inr ⟨by simp, by omega⟩
    · rintro (h | ⟨_, h⟩)
      · exact .inl (.inl h)
      · by_cases he : ws = []
        · have := hs he; exact .inl (.inr (by omega))
        · exact .inr ⟨he, by omega⟩
  | [], _ :: _, _, h => by simp at h
  | _ :: _, [], _, h => by simp at h
theorem runV_r (body : List Nat) : ∀ (ws : List Nat) (ns : List Int) (st : Nat × Bool), ws.length = ns.length → st.1 + ws.sum ≤ body.length → runV (rstp body) (rval body) st ws ns = decF ws (body.drop st.1)
  | [], [], st, _, _ => rfl
  | wd :: ws, n :: ns, st, h, hl => by
    simp only [List.sum_cons] at hl
    simp only [runV, decF]
    rw [runV_r body ws ns _ (by simpa using h) (by simp only [rstp]; omega)]
    simp only [rstp, rval, List.drop_drop]
    rw [if_pos (by omega)]
  | [], _ :: _, _, h, _ => by simp at h
  | _ :: _, [], _, h, _ => by simp at h
theorem decF_encF : ∀ (ws : List Nat) (ns : List Int) (rest : List Nat), ws.length = ns.length → okNs ws ns = true → decF ws (encF ws ns ++ rest) = ns
  | [], [], _, _, _ => rfl
  | wd :: ws, n :: ns, rest, h, hok => by
    simp only [okNs, Bool.and_eq_true] at hok
    simp only [encF, decF]
    rw [List.append_assoc, List.take_left' (low_length _ _), List.drop_left' (low_length _ _), decF_encF ws ns rest (by simpa using h) hok.2]
    have := hok.1
    unfold okN at this
    simp only [Bool.and_eq_true, decide_eq_true_eq] at this
    rw [numOf_low, Nat.mod_eq_of_lt this.2]
    congr 1
    omega
  | [], _ :: _, _, h, _ => by simp at h
  | _ :: _, [], _, h, _ => by simp at h
theorem encF_decF : ∀ (ws : List Nat) (b : List Nat), (∀ x ∈ b, x < 256) → ws.sum ≤ b.length → encF ws (decF ws b) = b.take ws.sum
  | [], b, _, _ => by simp [encF, decF]
  | wd :: ws, b, hb, hl => by
    simp only [List.sum_cons] at hl
    simp only [encF, decF, List.sum_cons, Int.toNat_natCast]
    have h1 := low_numOf (b.take wd) fun x hx => hb x (List.mem_of_mem_take hx)
    rw [List.length_take, Nat.min_eq_left (by omega)] at h1
    rw [h1, encF_decF ws (b.drop wd) (fun x hx => hb x (List.mem_of_mem_drop hx)) (by rw [List.length_drop]; omega)]
    rw [← List.take_append_drop wd (b.take (wd + ws.sum)), List.take_take, Nat.min_eq_left (by omega), List.drop_take, Nat.add_sub_cancel_left]
theorem okFs_decF : ∀ (ws : List Nat) (b : List Nat), (∀ x ∈ b, x < 256) → ws.sum ≤ b.length → okNs ws (decF ws b) = true
  | [], b, _, _ => rfl
  | wd :: ws, b, hb, hl => by
    simp only [List.sum_cons] at hl
    simp only [okNs, decF, Bool.and_eq_true]
    refine ⟨?_, okFs_decF ws (b.drop wd) (fun x hx => hb x (List.mem_of_mem_drop hx)) (by rw [List.length_drop]; omega)⟩
    unfold okN
    have := numOf_lt (b.take wd) fun x hx => hb x (List.mem_of_mem_take hx)
    rw [List.length_take, Nat.min_eq_left (by omega)] at this
    simp only [Bool.and_eq_true, decide_eq_true_eq, Int.toNat_natCast]
    exact ⟨by omega, this⟩
/-! Records, one behind the other. -/
def encR (ws : List Nat) (rs : List (List Int)) : List Nat := rs.flatMap (encF ws)
def okR (ws : List Nat) (rs : List (List Int)) : Bool := rs.all (okNs ws)
def wid (ws : List Nat) (rs : List (List Int)) : Prop := ∀ r ∈ rs, ws.length = r.length
def runRS {σ : Type} (stp : σ → Nat → Int → σ) (ws : List Nat) (st : σ) (rs : List (List Int)) : σ := rs.foldl (fun st r => runS stp st ws r) st
theorem runRS_snoc {σ : Type} (stp : σ → Nat → Int → σ) (ws : List Nat) (st : σ) (rs : List (List Int)) (r : List Int) : runRS stp ws st (rs ++ [r]) = runS stp (runRS stp ws st rs) ws r := by
  unfold runRS; rw [List.foldl_append]; rfl
def runRV {σ : Type} (stp : σ → Nat → Int → σ) (val : σ → Nat → Int → Int) (ws : List Nat) : σ → List (List Int) → List (List Int)
  | st, r :: rs => runV stp val st ws r :: runRV stp val ws (runS stp st ws r) rs
  | _, [] => []
theorem runRV_snoc {σ : Type} (stp : σ → Nat → Int → σ) (val : σ → Nat → Int → Int) (ws : List Nat) (r : List Int) : ∀ (rs : List (List Int)) (st : σ), runRV stp val ws st (rs ++ [r]) = runRV stp val ws st rs ++ [runV stp val (runRS stp ws st rs) ws r]
  | [], st => rfl
  | x :: rs, st => by simp only [List.cons_append, runRV]; rw [runRV_snoc stp val ws r rs]; rfl
theorem runRV_length {σ : Type} (stp : σ → Nat → Int → σ) (val : σ → Nat → Int → Int) (ws : List Nat) : ∀ (rs : List (List Int)) (st : σ), (runRV stp val ws st rs).length = rs.length
  | [], _ => rfl
  | _ :: rs, st => by simp only [runRV, List.length_cons, runRV_length stp val ws rs]
theorem runRV_w (ws : List Nat) : ∀ (rs : List (List Int)) (st : List Nat × Bool), wid ws rs → runRV wstp wval ws st rs = rs
  | [], _, _ => rfl
  | r :: rs, st, h => by
    simp only [runRV]
    rw [runV_w ws r st (h r (List.mem_cons_self ..)), runRV_w ws rs _ fun x hx => h x (List.mem_cons_of_mem _ hx)]
theorem runRS_w_bad (ws : List Nat) : ∀ (rs : List (List Int)) (st : List Nat × Bool), (runRS wstp ws st rs).2 = (st.2 || !okR ws rs)
  | [], st => by simp [runRS, okR]
  | r :: rs, st => by
    show (runRS wstp ws (runS wstp st ws r) rs).2 = _
    rw [runRS_w_bad ws rs, runS_w_bad]
    simp only [okR, List.all_cons]
    cases st.2 <;> cases okNs ws r <;> simp
theorem runRS_w_ok (ws : List Nat) : ∀ (rs : List (List Int)) (st : List Nat × Bool), okR ws rs = true → (runRS wstp ws st rs).1 = st.1 ++ encR ws rs
  | [], st, _ => by simp [runRS, encR]
  | r :: rs, st, h => by
    show (runRS wstp ws (runS wstp st ws r) rs).1 = _
    simp only [okR, List.all_cons, Bool.and_eq_true] at h
    rw [runRS_w_ok ws rs _ h.2, runS_w_ok ws r st h.1, List.append_assoc]
    rfl
theorem encR_length (ws : List Nat) : ∀ (rs : List (List Int)), wid ws rs → (encR ws rs).length = rs.length * ws.sum
  | [], _ => by simp [encR]
  | r :: rs, h => by
    show (encF ws r ++ encR ws rs).length = _
    rw [List.length_append, encF_length ws r (h r (List.mem_cons_self ..)), encR_length ws rs fun x hx => h x (List.mem_cons_of_mem _ hx), List.length_cons, Nat.add_mul, Nat.one_mul]
    omega
theorem encR_lt (ws : List Nat) (rs : List (List Int)) : ∀ b ∈ encR ws rs, b < 256 := by
  intro b hb
  obtain ⟨r, _, h⟩ := List.mem_flatMap.1 hb
  exact encF_lt ws r b h
/-- So many records of bytes. -/
def decR (ws : List Nat) (b : List Nat) : Nat → List (List Int)
  | 0 => []
  | n + 1 => decF ws b :: decR ws (b.drop ws.sum) n
theorem decR_length (ws : List Nat) : ∀ (n : Nat) (b : List Nat), (decR ws b n).length = n
  | 0, _ => rfl
  | n + 1, b => by simp [decR, decR_length ws n]
theorem decR_wid (ws : List Nat) : ∀ (n : Nat) (b : List Nat), wid ws (decR ws b n)
  | 0, _ => by intro r h; simp [decR] at h
  | n + 1, b => by
    intro r h
    simp only [decR, List.mem_cons] at h
    rcases h with rfl | h
    · exact (decF_length ws b).symm
    · exact decR_wid ws n _ r h
theorem decR_snoc (ws : List Nat) : ∀ (n : Nat) (b : List Nat), decR ws b (n + 1) = decR ws b n ++ [decF ws (b.drop (n * ws.sum))]
  | 0, b => by simp [decR]
  | n + 1, b => by
    have h1 : decR ws b (n + 1 + 1) = decF ws b :: decR ws (b.drop ws.sum) (n + 1) := rfl
    have h2 : decR ws b (n + 1) = decF ws b :: decR ws (b.drop ws.sum) n := rfl
    have e : ws.sum + n * ws.sum = (n + 1) * ws.sum := by rw [Nat.succ_mul]; omega
    rw [h1, decR_snoc ws n (b.drop ws.sum), List.drop_drop, h2, e]
    rfl
theorem decR_encR (ws : List Nat) : ∀ (rs : List (List Int)), wid ws rs → okR ws rs = true → decR ws (encR ws rs) rs.length = rs
  | [], _, _ => rfl
  | r :: rs, h, hok => by
    simp only [okR, List.all_cons, Bool.and_eq_true] at hok
    have hl := encF_length ws r (h r (List.mem_cons_self ..))
    show decF ws (encF ws r ++ encR ws rs) :: decR ws ((encF ws r ++ encR ws rs).drop ws.sum) rs.length = _
    rw [decF_encF ws r _ (h r (List.mem_cons_self ..)) hok.1, List.drop_left' hl, decR_encR ws rs (fun x hx => h x (List.mem_cons_of_mem _ hx)) hok.2]
end Go.Dn
end
section
/-! Forms: the writer and the reader of package codec. -/
set_option maxRecDepth 10000
set_option linter.unusedVariables false
set_option linter.unusedSimpArgs false
namespace Go.Dn
open Go
attribute [local semireducible] wInvoke wNil wCall wNext in
theorem inv_eq {P : Program} {t : TypeId} {v r : Value} {m : String} {f : FuncId} {args : List Value} {w : World} {K : Value → World → Prop} (h : ∀ w, (method (P.types.size + Made.depth) t v m).run P w = .ok (f, r) w) :
    wInvoke P (.iface t v) m args w K = wCall P f (r :: args) w K := by
  unfold wInvoke wCall wNext callMethod
  simp only [program, Sem.run_bind, Sem.run, Result.andThen_ok, h]
  have e : (#[r] ++ ({ toList := args } : Array Value)) = { toList := r :: args } := by apply Array.toList_inj.1; simp
  rw [e]
attribute [local semireducible] wNil in
theorem nil_meth {P : Program} {t : TypeId} {v : Value} {m : String} {cap : List Value} {w : World} {K : Value → World → Prop} (h : ∀ w, (nilAhead (P.types.size + Made.depth) t v m).run P w = .ok (some false) w) :
    wNil P (.func (.method m) ⟨[.iface t v]⟩ ⟨cap⟩) w K = K (.func (.method m) ⟨[.iface t v]⟩ ⟨cap⟩) w := by
  refine pureW_eq (fun w' => ?_) w K
  simp only [nilS, List.getElem?_toArray, List.getElem?_cons_zero, program, Sem.run_bind, Sem.run, Result.andThen_ok, h]
  rfl
attribute [local semireducible] wFunc in
theorem func_meth {P : Program} (m : String) (first cap : List Value) {w : World} {K : Value → World → Prop} : wFunc P (.method m) first cap w K = K (.func (.method m) ⟨first⟩ ⟨cap⟩) w := rfl
attribute [local semireducible] wIface in
theorem iface_i {P : Program} {t d : TypeId} {v : Value} {w : World} {K : Value → World → Prop} (ht : P.underlying t = some (.pointer d)) : wIface P t v w K = K (.iface t v) w := by
  refine pureW_eq (fun w' => ?_) w K
  unfold Instr.makeInterface
  simp only [Sem.run_bind, und_run ht, Result.andThen_ok]
  rfl
/-- A thing that numbers are handed to, one behind the other. -/
structure Form (f : Value) where
  σ : Type
  S : World → σ → List Nat → Prop
  stp : σ → Nat → Int → σ
  val : σ → Nat → Int → Int
  more : σ → Bool
  sz : σ → Nat
  sz_stp : ∀ s wd n, sz (stp s wd n) = sz s + wd
  ex : ∀ {T w w' s fp}, S w s fp → Ex T w w' → (∀ x ∈ T, x ∉ fp) → S w' s fp
  bd : ∀ {w s fp}, S w s fp → ∀ x ∈ fp, x < w.heap.size
  /-- its methods may be asked for -/
  ask : ∀ (m : String), m ∈ ["drumlin/codec.wide", "drumlin/codec.int", "drumlin/codec.word"] → ∀ (w : World) (K : Value → World → Prop), K (.func (.method m) ⟨[f]⟩ ⟨[]⟩) w → wNil P (.func (.method m) ⟨[f]⟩ ⟨[]⟩) w K
  wide : ∀ {w s fp b o t cs wd n} {K : Value → World → Prop}, S w s fp → Blk w b t cs → b ∉ fp → cs[o]? = some (.int .u64 n) → 0 ≤ n → n < 18446744073709551616 → 1 ≤ wd → wd ≤ 8 → sz s ≤ 1000000 →
    (∀ w' fp', Ex (b :: fp) w w' → S w' (stp s wd n) fp' → (∀ x ∈ fp', x ∈ fp ∨ w.heap.size ≤ x) → Blk w' b t (cs.set o (.int .u64 (val s wd n))) → K (.tuple #[]) w') → wInvoke P f "drumlin/codec.wide" [.int .i64 (wd : Nat), .pointer (some ⟨b, o, none⟩)] w K
  int : ∀ {w s fp b o t cs wd n} {K : Value → World → Prop}, S w s fp → Blk w b t cs → b ∉ fp → cs[o]? = some (.int .i64 n) → -9223372036854775808 ≤ n → n ≤ 9223372036854775807 → 1 ≤ wd → wd ≤ 4 → sz s ≤ 1000000 →
    (∀ w' fp', Ex (b :: fp) w w' → S w' (stp s wd n) fp' → (∀ x ∈ fp', x ∈ fp ∨ w.heap.size ≤ x) → Blk w' b t (cs.set o (.int .i64 (val s wd n))) → K (.tuple #[]) w') → wInvoke P f "drumlin/codec.int" [.int .i64 (wd : Nat), .pointer (some ⟨b, o, none⟩)] w K
  word : ∀ {w s fp b o t cs wd n} {K : Value → World → Prop}, S w s fp → Blk w b t cs → b ∉ fp → cs[o]? = some (.int .u32 n) → 0 ≤ n → n < 4294967296 → 1 ≤ wd → wd ≤ 4 → sz s ≤ 1000000 →
    (∀ w' fp', Ex (b :: fp) w w' → S w' (stp s wd n) fp' → (∀ x ∈ fp', x ∈ fp ∨ w.heap.size ≤ x) → Blk w' b t (cs.set o (.int .u32 (val s wd n))) → K (.tuple #[]) w') → wInvoke P f "drumlin/codec.word" [.int .i64 (wd : Nat), .pointer (some ⟨b, o, none⟩)] w K
  moreC : ∀ {w s fp} {K : Value → World → Prop}, S w s fp → (∀ w', Ex [] w w' → K (.bool (more s)) w') → wInvoke P f "drumlin/codec.more" [] w K
/-! The writer. -/
def WrS (h : Nat) (w : World) (s : List Nat × Bool) (fp : List Nat) : Prop :=
  ∃ v, Blk w h T_codec_writer [v, .bool s.2] ∧ Own w 0 T_uint8 1 v (bvs s.1) ∧ (∀ b ∈ s.1, b < 256) ∧ fp = h :: v.ownBlock.toList
theorem WrS.ex {T : List Nat} {w w' : World} {h : Nat} {s : List Nat × Bool} {fp : List Nat} (H : WrS h w s fp) (hx : Ex T w w') (hT : ∀ x ∈ T, x ∉ fp) : WrS h w' s fp := by
  obtain ⟨v, hb, ho, hl, rfl⟩ := H
  refine ⟨v, hb.ex hx fun hm => hT _ hm (by simp), ho.ex hx fun g hg hm => hT _ hm (by simp [hg]), hl, rfl⟩
theorem WrS.bd {w : World} {h : Nat} {s : List Nat × Bool} {fp : List Nat} (H : WrS h w s fp) : ∀ x ∈ fp, x < w.heap.size := by
  obtain ⟨v, hb, ho, hl, rfl⟩ := H
  intro x hx
  rcases List.mem_cons.1 hx with rfl | hx
  · exact hb.lt
  · cases hv : v.ownBlock with
    | none => rw [hv] at hx; simp at hx
    | some g => rw [hv] at hx; simp at hx; subst hx; exact (ho.blk hv).2.1
theorem meth_writer_wide (a : Addr) (w : World) : (method (P.types.size + Made.depth) T_pcodec_writer (.pointer (some a)) "drumlin/codec.wide").run P w = .ok (n_codec_writer_wide, .pointer (some a)) w := by kernel_rfl
theorem meth_writer_int (a : Addr) (w : World) : (method (P.types.size + Made.depth) T_pcodec_writer (.pointer (some a)) "drumlin/codec.int").run P w = .ok (n_codec_writer_int, .pointer (some a)) w := by kernel_rfl
theorem meth_writer_word (a : Addr) (w : World) : (method (P.types.size + Made.depth) T_pcodec_writer (.pointer (some a)) "drumlin/codec.word").run P w = .ok (n_codec_writer_word, .pointer (some a)) w := by kernel_rfl
theorem meth_writer_more (a : Addr) (w : World) : (method (P.types.size + Made.depth) T_pcodec_writer (.pointer (some a)) "drumlin/codec.more").run P w = .ok (n_codec_writer_more, .pointer (some a)) w := by kernel_rfl
theorem ahead_writer_wide (a : Addr) (w : World) : (nilAhead (P.types.size + Made.depth) T_pcodec_writer (.pointer (some a)) "drumlin/codec.wide").run P w = .ok (some false) w := by kernel_rfl
theorem ahead_writer_int (a : Addr) (w : World) : (nilAhead (P.types.size + Made.depth) T_pcodec_writer (.pointer (some a)) "drumlin/codec.int").run P w = .ok (some false) w := by kernel_rfl
theorem ahead_writer_word (a : Addr) (w : World) : (nilAhead (P.types.size + Made.depth) T_pcodec_writer (.pointer (some a)) "drumlin/codec.word").run P w = .ok (some false) w := by kernel_rfl
theorem meth_reader_wide (a : Addr) (w : World) : (method (P.types.size + Made.depth) T_pcodec_reader (.pointer (some a)) "drumlin/codec.wide").run P w = .ok (n_codec_reader_wide, .pointer (some a)) w := by kernel_rfl
theorem meth_reader_int (a : Addr) (w : World) : (method (P.types.size + Made.depth) T_pcodec_reader (.pointer (some a)) "drumlin/codec.int").run P w = .ok (n_codec_reader_int, .pointer (some a)) w := by kernel_rfl
theorem meth_reader_word (a : Addr) (w : World) : (method (P.types.size + Made.depth) T_pcodec_reader (.pointer (some a)) "drumlin/codec.word").run P w = .ok (n_codec_reader_word, .pointer (some a)) w := by kernel_rfl
theorem meth_reader_more (a : Addr) (w : World) : (method (P.types.size + Made.depth) T_pcodec_reader (.pointer (some a)) "drumlin/codec.more").run P w = .ok (n_codec_reader_more, .pointer (some a)) w := by kernel_rfl
theorem ahead_reader_wide (a : Addr) (w : World) : (nilAhead (P.types.size + Made.depth) T_pcodec_reader (.pointer (some a)) "drumlin/codec.wide").run P w = .ok (some false) w := by kernel_rfl
theorem ahead_reader_int (a : Addr) (w : World) : (nilAhead (P.types.size + Made.depth) T_pcodec_reader (.pointer (some a)) "drumlin/codec.int").run P w = .ok (some false) w := by kernel_rfl
theorem ahead_reader_word (a : Addr) (w : World) : (nilAhead (P.types.size + Made.depth) T_pcodec_reader (.pointer (some a)) "drumlin/codec.word").run P w = .ok (some false) w := by kernel_rfl
section
variable {w : World} {K : Value → World → Prop}
theorem flat_u8 (n : Nat) : (List.replicate n [Value.int .u8 0]).flatten = bvs (List.replicate n 0) := by
  rw [rep_bvs]
  induction n with
  | zero => rfl
  | succ n ih => rw [List.replicate_succ, List.replicate_succ, List.flatten_cons, ih]; rfl
theorem make_u8 {n : Nat} (hn : n ≤ 1000000) (hk : ∀ w' g, g = w.heap.size → Ex [] w w' → Blk w' g T_uint8 (bvs (List.replicate n 0)) → K (.slice (some ⟨g, 0, none⟩) n n) w') : wMake P T_Luint8 (.int .i64 (n : Int)) (.int .i64 (n : Int)) w K := by
  have hi : (P.info? T_uint8).map (fun i => (i.zero, i.size, i.bytes)) = some (some (.int .u8 0), 1, 1) := by kernel_rfl
  cases hI : P.info? T_uint8 with
  | none => rw [hI] at hi; cases hi
  | some i =>
    rw [hI] at hi
    simp only [Option.map_some, Option.some.injEq, Prod.mk.injEq] at hi
    refine make_i (n := n) (bytes := 1) (zs := [.int .u8 0]) u_T_Luint8 hI hi.1 rfl (by simp) hi.2.1 hi.2.2 (by simp; omega) (by omega) fun w1 g1 hg1 hE1 B1 => hk w1 g1 hg1 hE1 ?_
    rw [flat_u8] at B1; exact B1
theorem codec_writer_wide {h b o wd : Nat} {s : List Nat × Bool} {fp : List Nat} {t : TypeId} {cs : List Value} {n : Int} {k : Value → World → Prop} (H : WrS h w s fp) (B : Blk w b t cs) (hb : b ∉ fp) (hn : cs[o]? = some (.int .u64 n)) (h0 : 0 ≤ n) (h1 : n < 18446744073709551616) (hw : 1 ≤ wd) (hw8 : wd ≤ 8)
    (hsz : s.1.length ≤ 1000000) (hk : ∀ w' fp', Ex fp w w' → WrS h w' (wstp s wd n) fp' → (∀ x ∈ fp', x ∈ fp ∨ w.heap.size ≤ x) → k (.tuple #[]) w') : wCall P n_codec_writer_wide [ptr h, .int .i64 (wd : Nat), .pointer (some ⟨b, o, none⟩)] w k := by
  refine call_codec_writer_wide _ _ _ ?_
  unfold F_codec_writer_wide
  obtain ⟨v, hB, hO, hl, rfl⟩ := H
  obtain ⟨x, rfl⟩ : ∃ x : Nat, n = x := ⟨n.toNat, by omega⟩
  refine make_u8 (by omega) fun w1 g1 hg1 hE1 B1 => ?_
  have hhb : h ≠ b := fun e => hb (by simp [e])
  have hg1h : g1 ≠ h := by have := hB.lt; omega
  refine j0_of (fun w' => Ex [h] w w' ∧ Blk w' h T_codec_writer [v, .bool (s.2 || !okN wd x)] ∧ Blk w' g1 T_uint8 (bvs (if x < 256 ^ wd then low x wd else List.replicate wd 0))) (fun k1 hk1 => ?_) ?_
  · simp only [nil_ptr]
    rw [ld_one o_T_uint64 (((B.ex hE1 (by simp)).cell o).trans hn)]
    refine num_Put (o := 0) (cs := bvs (List.replicate wd 0)) B1 (by simp [bvs]) (by omega) (by omega) (by omega) (fun hbad => ?_) (fun hok w2 hE2 B2 => ?_)
    · rw [bin_neq, wIf_dt (by omega)]
      simp only [fA_T_codec_writer_1]
      have hx : ¬ x < 256 ^ wd := fun hx => hbad ⟨by omega, by omega, by omega, by omega, by simpa using hx⟩
      have hB1 := hB.ex hE1 (by simp)
      refine st_one o_T_bool rfl hB1 (by simp) fun w3 hE3 B3 => ?_
      refine hk1 w3 ⟨hE1.nil.trans hE3, ?_, ?_⟩
      · have : okN wd x = false := by
          unfold okN
          rw [Int.toNat_natCast, decide_eq_false hx, Bool.and_false]
        rw [this]
        simpa using B3
      · rw [if_neg hx]
        exact B1.ex hE3 (by simp; omega)
    · rw [bin_neq, wIf_df (by omega)]
      have hx : x < 256 ^ wd := by have := hok.2.2.2.2; simpa using this
      refine hk1 w2 ⟨(hE1.new hE2 (by omega)).nil, ?_, ?_⟩
      · have : okN wd x = true := by
          unfold okN
          rw [Int.toNat_natCast, decide_eq_true hx]
          simp
        rw [this]
        simpa using (hB.ex hE1 (by simp)).ex hE2 (by simp; omega)
      · rw [if_pos hx]
        have e : splice (bvs (List.replicate wd 0)) (0 + (0 : Int).toNat) (bvs (low x ((wd : Nat) : Int).toNat)) = bvs (low x wd) := by
          rw [show (0 : Nat) + (0 : Int).toNat = 0 from rfl, Int.toNat_natCast, splice_front (n := wd) (by rw [bvs_length, low_length]) (by simp [bvs]), List.drop_of_length_le (by simp [bvs]), List.append_nil]
        rw [e] at B2
        exact B2
  · rintro J w2 ⟨hE2, hB2, hG2⟩
    generalize hys : (if x < 256 ^ wd then low x wd else List.replicate wd 0) = ys at hG2
    have hyl : ys.length = wd := by rw [← hys]; split <;> simp [low_length]
    have hyb : ∀ b ∈ ys, b < 256 := by
      rw [← hys]; split
      · exact low_lt _ _
      · intro b hb; rw [List.mem_replicate] at hb; omega
    have hvh : ∀ g, v.ownBlock = some g → g ∉ [h] := fun g hg => by have := hO.off hB (by decide) g hg; simpa using this
    have hO2 := hO.ex hE2 hvh
    simp only [nil_ptr, fA_T_codec_writer_0]
    rw [ld_one o_T_Luint8 (hB2.cell 0)]
    have hle := hE2.le
    refine app_T_Luint8 (n := s.1.length) (m := wd) hO2 (SlG.of_cs hG2.all (by rw [bvs_length, hyl]; omega) (Nat.le_refl _)) (by rw [bvs_length]; omega) (by rw [bvs_length, hyl]; omega) (bvs_isC _) (by omega) (Nat.zero_le _) fun v' w3 hO3 hE3 hv' => ?_
    rw [← bvs_append] at hO3
    have hne : h ∉ v.ownBlock.toList := by
      intro hm
      cases hv : v.ownBlock with
      | none => rw [hv] at hm; simp at hm
      | some g => rw [hv] at hm; simp at hm; exact hvh g hv (by simp [hm])
    have hB3 := hB2.ex hE3 hne
    refine st_one (x := v') o_T_Luint8 ?_ hB3 (by simp) fun w4 hE4 B4 => ?_
    · obtain ⟨A, c, hs'⟩ := hO3.slice (by omega) (n := (s.1 ++ ys).length) (by rw [bvs_length]; omega)
      rw [hs']; rfl
    have hv'h : ∀ g, v'.ownBlock = some g → g ∉ [h] := fun g hg => by have := hO3.off hB3 (by decide) g hg; simpa using this
    refine hk w4 (h :: v'.ownBlock.toList) ?_ ⟨v', ?_, ?_, ?_, rfl⟩ ?_
    · refine ((hE2.mono (by simp)).step hE3 fun y hy => .inl (by simp [hy])).trans (hE4.mono (by simp))
    · show Blk w4 h T_codec_writer [v', .bool (s.2 || !okN wd x)]
      simpa using B4
    · show Own w4 0 T_uint8 1 v' (bvs (s.1 ++ (if (x : Int).toNat < 256 ^ wd then low (x : Int).toNat wd else List.replicate wd 0)))
      rw [Int.toNat_natCast, hys]
      exact hO3.ex hE4 hv'h
    · intro b hb'
      have hb' : b ∈ s.1 ++ (if (x : Int).toNat < 256 ^ wd then low (x : Int).toNat wd else List.replicate wd 0) := hb'
      rw [Int.toNat_natCast, hys] at hb'
      rcases List.mem_append.1 hb' with hb' | hb'
      · exact hl b hb'
      · exact hyb b hb'
    · intro y hy
      rcases List.mem_cons.1 hy with rfl | hy
      · exact .inl (by simp)
      · rcases hv' with hv' | hv'
        · rw [hv'] at hy; exact .inl (by simp [hy])
        · rw [hv'] at hy; simp at hy; exact .inr (by omega)
end
end Go.Dn
end
section
/-! Forms, on: the reader; both as forms. -/
set_option maxRecDepth 10000
set_option linter.unusedVariables false
set_option linter.unusedSimpArgs false
namespace Go.Dn
open Go
def RdS (h : Nat) (body : List Nat) (w : World) (s : Nat × Bool) (fp : List Nat) : Prop :=
  ∃ bv, Blk w h T_codec_reader [bv, .int .i64 (s.1 : Int), .bool s.2] ∧ SlG w 1 bv (bvs body) ∧ (∀ b ∈ body, b < 256) ∧ body.length ≤ 1000000 ∧ (∀ g, bv.ownBlock = some g → g ≠ h ∧ g < w.heap.size) ∧ fp = h :: bv.ownBlock.toList
theorem RdS.ex {T : List Nat} {w w' : World} {h : Nat} {body : List Nat} {s : Nat × Bool} {fp : List Nat} (H : RdS h body w s fp) (hx : Ex T w w') (hT : ∀ x ∈ T, x ∉ fp) : RdS h body w' s fp := by
  obtain ⟨v, hb, ho, hl, hn, hne, rfl⟩ := H
  have := hx.le
  refine ⟨v, hb.ex hx fun hm => hT _ hm (by simp), ho.ex hx fun g hg hm => hT _ hm (by simp [hg]), hl, hn, fun g hg => ⟨(hne g hg).1, by have := (hne g hg).2; omega⟩, rfl⟩
theorem RdS.bd {w : World} {h : Nat} {body : List Nat} {s : Nat × Bool} {fp : List Nat} (H : RdS h body w s fp) : ∀ x ∈ fp, x < w.heap.size := by
  obtain ⟨v, hb, ho, hl, hn, hne, rfl⟩ := H
  intro x hx
  rcases List.mem_cons.1 hx with rfl | hx
  · exact hb.lt
  · cases hv : v.ownBlock with
    | none => rw [hv] at hx; simp at hx
    | some g => rw [hv] at hx; simp at hx; subst hx; exact (hne _ hv).2
section
variable {w : World} {K : Value → World → Prop}
theorem codec_reader_wide {h b o wd : Nat} {body : List Nat} {s : Nat × Bool} {fp : List Nat} {t : TypeId} {cs : List Value} {n : Int} {k : Value → World → Prop} (H : RdS h body w s fp) (B : Blk w b t cs) (hb : b ∉ fp) (hn : cs[o]? = some (.int .u64 n)) (hw : 1 ≤ wd) (hw8 : wd ≤ 8)
    (hsz : s.1 ≤ 1000000) (hk : ∀ w', Ex (b :: fp) w w' → RdS h body w' (rstp body s wd n) fp → Blk w' b t (cs.set o (.int .u64 (rval body s wd n))) → k (.tuple #[]) w') : wCall P n_codec_reader_wide [ptr h, .int .i64 (wd : Nat), .pointer (some ⟨b, o, none⟩)] w k := by
  refine call_codec_reader_wide _ _ _ ?_
  unfold F_codec_reader_wide
  obtain ⟨v, hB, hS, hl, hbl, hne, rfl⟩ := H
  have hbh : b ≠ h := fun e => hb (by simp [e])
  have hbv : ∀ g, v.ownBlock = some g → g ≠ b := fun g hg e => hb (by simp [hg, e])
  refine draw_i fun w1 hE1 _ => ?_
  have B1 := B.ex hE1 (by simp)
  have hB1 := hB.ex hE1 (by simp)
  have hS1 := hS.ex0 hE1
  simp only [nil_ptr, fA_T_codec_reader_0, fA_T_codec_reader_1, fA_T_codec_reader_2, Nat.zero_add]
  rw [ld_one o_T_Luint8 (hB1.cell 0), ld_one o_T_int (hB1.cell 1)]
  have ho := (List.getElem?_eq_some_iff.1 hn).1
  have fin : ∀ (x : Nat) (e : Int), ((x : Int) = rval body s wd n) → ((!decide (s.1 + wd ≤ body.length)) = decide (e ≠ 0)) →
      wExtract P (.tuple #[.int .u64 (x : Int), .int .i64 e]) 0 w1 fun t19 w => wExtract P (.tuple #[.int .u64 (x : Int), .int .i64 e]) 1 w fun t20 w =>
        wStore P T_uint64 (.pointer (some ⟨b, o, none⟩)) t19 w fun w => wLoad P T_bool (.pointer (some ⟨h, 2, none⟩)) w fun t28 w =>
        wGrp t28 false (fun k31 => wBin P .neq T_api_Errno t20 (.int .i64 0) w fun t31 w => k31 t31 w) w fun _ t31 w => wPick t28 (.bool true) t31 w fun t32 w =>
        wStore P T_bool (.pointer (some ⟨h, 2, none⟩)) t32 w fun w => wLoad P T_int (.pointer (some ⟨h, 1, none⟩)) w fun t38 w => wBin P .add T_int t38 (.int .i64 (wd : Nat)) w fun t40 w =>
        wStore P T_int (.pointer (some ⟨h, 1, none⟩)) t40 w fun w => k (.tuple #[]) w := by
    intro x e hx he
    rw [ext_0, ext_1]
    refine st_one o_T_uint64 rfl B1 ho fun w2 hE2 B2 => ?_
    have hB2 := hB1.ex hE2 (by simpa using hbh.symm)
    have hS2 := hS1.ex hE2 fun g hg => by simpa using hbv g hg
    rw [ld_one o_T_bool (hB2.cell 2)]
    refine or_i (r := decide (e ≠ 0)) (fun _ k' hk' => by rw [bin_neq]; exact hk') ?_
    refine st_one o_T_bool rfl hB2 (by simp) fun w3 hE3 B3 => ?_
    rw [ld_one o_T_int (B3.cell 1), bin_add (by omega)]
    refine st_one o_T_int rfl B3 (by simp) fun w4 hE4 B4 => ?_
    have hvh : ∀ g, v.ownBlock = some g → g ∉ [h] := fun g hg => by have := (hne g hg).1; simpa using this
    have l1 := hE1.le
    have l2 := hE2.le
    have l3 := hE3.le
    have l4 := hE4.le
    refine hk w4 ?_ ⟨v, ?_, (hS2.ex hE3 hvh).ex hE4 hvh, hl, hbl, fun g hg => ⟨(hne g hg).1, by have := (hne g hg).2; omega⟩, rfl⟩ ?_
    · exact ((hE1.nil.trans (hE2.mono (by simp))).trans (hE3.mono (by simp))).trans (hE4.mono (by simp))
    · show Blk w4 h T_codec_reader [v, .int .i64 ((s.1 + wd : Nat) : Int), .bool (s.2 || !decide (s.1 + wd ≤ body.length))]
      rw [he]
      simpa using B4
    · rw [← hx]
      exact (B2.ex hE3 (by simpa using hbh)).ex hE4 (by simpa using hbh)
  obtain ⟨A, m, c, rfl, hlen, hmc, hr⟩ := hS1
  have hm : body.length = m := by rw [bvs_length] at hlen; omega
  refine num_Get (bs := body) ⟨A, m, c, rfl, hlen, hmc, hr⟩ hl hm (by omega) (by omega) (fun hbad => ?_) (fun hok => ?_)
  · have hlt : ¬ s.1 + wd ≤ body.length := fun h' => hbad ⟨by omega, by omega, by omega, by omega⟩
    refine fin 0 1 ?_ ?_
    · unfold rval; rw [if_neg hlt]; rfl
    · simp; omega
  · have hlt : s.1 + wd ≤ body.length := by have := hok.2.2.2; omega
    simp only [Int.toNat_natCast]
    refine fin _ 0 ?_ ?_
    · unfold rval; rw [if_pos hlt]
    · simp; omega
theorem pow256_4 {wd : Nat} (h : wd ≤ 4) : 256 ^ wd ≤ 4294967296 := Nat.le_trans (Nat.pow_le_pow_right (by decide) h) (by decide)
theorem rval_lt {body : List Nat} (hl : ∀ b ∈ body, b < 256) (s : Nat × Bool) (wd : Nat) (n : Int) : 0 ≤ rval body s wd n ∧ rval body s wd n < (256 ^ wd : Nat) := by
  unfold rval
  split
  · have := numOf_lt ((body.drop s.1).take wd) fun b hb => hl b (List.mem_of_mem_drop (List.mem_of_mem_take hb))
    rw [List.length_take, List.length_drop, Nat.min_eq_left (by omega)] at this
    omega
  · have : 0 < 256 ^ wd := Nat.pow_pos (by decide)
    omega
theorem codec_reader_int {h b o wd : Nat} {body : List Nat} {s : Nat × Bool} {fp : List Nat} {t : TypeId} {cs : List Value} {n : Int} {k : Value → World → Prop} (H : RdS h body w s fp) (B : Blk w b t cs) (hb : b ∉ fp) (hn : cs[o]? = some (.int .i64 n)) (hw : 1 ≤ wd) (hw4 : wd ≤ 4)
    (hsz : s.1 ≤ 1000000) (hk : ∀ w', Ex (b :: fp) w w' → RdS h body w' (rstp body s wd n) fp → Blk w' b t (cs.set o (.int .i64 (rval body s wd n))) → k (.tuple #[]) w') : wCall P n_codec_reader_int [ptr h, .int .i64 (wd : Nat), .pointer (some ⟨b, o, none⟩)] w k := by
  refine call_codec_reader_int _ _ _ ?_
  unfold F_codec_reader_int
  refine alloc_i z_T_uint64 (vs := [.int .u64 0]) rfl fun w1 g1 hg1 hE1 B1 => ?_
  have hbd := H.bd
  have hlt := B.lt
  have H1 := H.ex hE1 (by simp)
  have hl : ∀ b ∈ body, b < 256 := by obtain ⟨_, _, _, hl, _⟩ := H; exact hl
  refine codec_reader_wide H1 B1 (fun hm => by have := hbd _ hm; omega) rfl hw (by omega) hsz fun w2 hE2 H2 B2 => ?_
  have hB2 := (B.ex hE1 (by simp)).ex hE2 (by simp; exact ⟨by omega, hb⟩)
  rw [ld_one o_T_uint64 (B2.cell 0 : _ = some (.int .u64 (rval body s wd n)))]
  have hr := rval_lt hl s wd n
  have hp := pow256_4 hw4
  have e0 : rval body s wd 0 = rval body s wd n := rfl
  rw [conv_i i_T_uint64 i_T_int, IntWalk.i64_in _ (by omega), nil_ptr]
  refine st_one o_T_int rfl hB2 (List.getElem?_eq_some_iff.1 hn).1 fun w3 hE3 B3 => ?_
  refine hk w3 ?_ (H2.ex hE3 (by simpa using hb)) B3
  exact ((hE1.nil.step hE2 (by simp; exact ⟨by omega, fun x hx => .inl (.inr hx)⟩)).trans (hE3.mono (by simp)))
theorem codec_reader_word {h b o wd : Nat} {body : List Nat} {s : Nat × Bool} {fp : List Nat} {t : TypeId} {cs : List Value} {n : Int} {k : Value → World → Prop} (H : RdS h body w s fp) (B : Blk w b t cs) (hb : b ∉ fp) (hn : cs[o]? = some (.int .u32 n)) (hw : 1 ≤ wd) (hw4 : wd ≤ 4)
    (hsz : s.1 ≤ 1000000) (hk : ∀ w', Ex (b :: fp) w w' → RdS h body w' (rstp body s wd n) fp → Blk w' b t (cs.set o (.int .u32 (rval body s wd n))) → k (.tuple #[]) w') : wCall P n_codec_reader_word [ptr h, .int .i64 (wd : Nat), .pointer (some ⟨b, o, none⟩)] w k := by
  refine call_codec_reader_word _ _ _ ?_
  unfold F_codec_reader_word
  refine alloc_i z_T_uint64 (vs := [.int .u64 0]) rfl fun w1 g1 hg1 hE1 B1 => ?_
  have hbd := H.bd
  have hlt := B.lt
  have H1 := H.ex hE1 (by simp)
  have hl : ∀ b ∈ body, b < 256 := by obtain ⟨_, _, _, hl, _⟩ := H; exact hl
  refine codec_reader_wide H1 B1 (fun hm => by have := hbd _ hm; omega) rfl hw (by omega) hsz fun w2 hE2 H2 B2 => ?_
  have hB2 := (B.ex hE1 (by simp)).ex hE2 (by simp; exact ⟨by omega, hb⟩)
  rw [ld_one o_T_uint64 (B2.cell 0 : _ = some (.int .u64 (rval body s wd n)))]
  have hr := rval_lt hl s wd n
  have hp := pow256_4 hw4
  have ew : IntKind.wrap .u32 (rval body s wd n) = rval body s wd n := IntWalk.u32_in _ (by omega)
  rw [conv_i i_T_uint64 i_T_uint32, ew, nil_ptr]
  refine st_one o_T_uint32 rfl hB2 (List.getElem?_eq_some_iff.1 hn).1 fun w3 hE3 B3 => ?_
  refine hk w3 ?_ (H2.ex hE3 (by simpa using hb)) B3
  exact ((hE1.nil.step hE2 (by simp; exact ⟨by omega, fun x hx => .inl (.inr hx)⟩)).trans (hE3.mono (by simp)))
theorem codec_reader_more {h : Nat} {body : List Nat} {s : Nat × Bool} {fp : List Nat} {k : Value → World → Prop} (H : RdS h body w s fp) (hk : ∀ w', Ex [] w w' → k (.bool (!s.2 && decide (s.1 < body.length))) w') : wCall P n_codec_reader_more [ptr h] w k := by
  refine call_codec_reader_more _ ?_
  unfold F_codec_reader_more
  refine draw_i fun w1 hE1 _ => ?_
  obtain ⟨v, hB, hS, hl, hbl, hne, rfl⟩ := H.ex hE1 (by simp)
  simp only [nil_ptr, fA_T_codec_reader_0, fA_T_codec_reader_1, fA_T_codec_reader_2, Nat.zero_add]
  rw [ld_one o_T_bool (hB.cell 2), un_not]
  refine and_i (r := decide (s.1 < body.length)) (fun _ k' hk' => ?_) (hk w1 hE1)
  rw [ld_one o_T_int (hB.cell 1), ld_one o_T_Luint8 (hB.cell 0), hS.len_i u_T_Luint8 (by omega) (n := body.length) (by rw [bvs_length]; omega), bin_lss]
  have : decide ((s.1 : Int) < (body.length : Int)) = decide (s.1 < body.length) := by simp
  rw [this]
  exact hk'
theorem codec_writer_int {h b o wd : Nat} {s : List Nat × Bool} {fp : List Nat} {t : TypeId} {cs : List Value} {n : Int} {k : Value → World → Prop} (H : WrS h w s fp) (B : Blk w b t cs) (hb : b ∉ fp) (hn : cs[o]? = some (.int .i64 n)) (h1 : n ≤ 9223372036854775807) (hw : 1 ≤ wd) (hw8 : wd ≤ 8)
    (hsz : s.1.length ≤ 1000000) (hk : ∀ w' fp', Ex fp w w' → WrS h w' (wstp s wd n) fp' → (∀ x ∈ fp', x ∈ fp ∨ w.heap.size ≤ x) → k (.tuple #[]) w') : wCall P n_codec_writer_int [ptr h, .int .i64 (wd : Nat), .pointer (some ⟨b, o, none⟩)] w k := by
  refine call_codec_writer_int _ _ _ ?_
  unfold F_codec_writer_int
  simp only [nil_ptr, fA_T_codec_writer_1, Nat.zero_add]
  have hbd := H.bd
  rw [ld_one o_T_int ((B.cell o).trans hn), max_i, conv_i i_T_int i_T_uint64]
  have e1 : IntKind.wrap .u64 (max n 0) = ((n.toNat : Nat) : Int) := by rw [IntWalk.u64_in _ (by omega)]; omega
  rw [e1]
  refine alloc_i z_T_uint64 (vs := [.int .u64 0]) rfl fun w1 g1 hg1 hE1 B1 => ?_
  refine st_one o_T_uint64 rfl B1 (by simp) fun w2 hE2 B2 => ?_
  have B2 : Blk w2 g1 T_uint64 [.int .u64 ((n.toNat : Nat) : Int)] := B2
  have E2 : Ex [] w w2 := hE1.new hE2 (by omega)
  have Bb := B.ex E2 (by simp)
  obtain ⟨v, hB, hO, hl, hfp⟩ := H.ex E2 (by simp)
  have hhf : h ∈ fp := by rw [hfp]; simp
  have hhb : h ≠ b := fun e => hb (by rw [hfp]; simp [e])
  rw [ld_one o_T_bool (hB.cell 1)]
  refine or_i (r := decide (n < 0)) (fun _ k' hk' => ?_) ?_
  · rw [ld_one o_T_int ((Bb.cell o).trans hn), bin_lss]
    exact hk'
  refine st_one o_T_bool rfl hB (by simp) fun w3 hE3 B3 => ?_
  have B3 : Blk w3 h T_codec_writer [v, .bool (s.2 || decide (n < 0))] := B3
  have hvh : ∀ g, v.ownBlock = some g → g ∉ [h] := fun g hg => by have := hO.off hB (by decide) g hg; simpa using this
  have H3 : WrS h w3 (s.1, s.2 || decide (n < 0)) fp := ⟨v, B3, hO.ex hE3 hvh, hl, hfp⟩
  have hg1h : g1 ≠ h := by have := hbd h hhf; omega
  have G3 := B2.ex hE3 (by simpa using hg1h)
  refine codec_writer_wide (n := ((n.toNat : Nat) : Int)) H3 G3 (fun hm => by have := hbd _ hm; omega) rfl (by omega) (by omega) hw hw8 hsz fun w4 fp' hE4 H4 hfp' => ?_
  have l2 := E2.le
  have l3 := hE3.le
  refine hk w4 fp' ((E2.nil.trans (hE3.mono fun x hx _ => by simp at hx; subst hx; exact hhf)).trans hE4) ?_ fun x hx => (hfp' x hx).imp_right (by omega)
  have e2 : wstp (s.1, s.2 || decide (n < 0)) wd ((n.toNat : Nat) : Int) = wstp s wd n := by
    unfold wstp okN
    simp only [Int.toNat_natCast]
    congr 1
    have : decide ((0 : Int) ≤ ((n.toNat : Nat) : Int)) = true := decide_eq_true (by omega)
    rw [this]
    by_cases h0 : n < 0
    · have : decide (0 ≤ n) = false := decide_eq_false (by omega)
      rw [this, decide_eq_true h0]
      simp
    · have : decide (0 ≤ n) = true := decide_eq_true (by omega)
      rw [this, decide_eq_false h0]
      simp
  rw [e2] at H4
  exact H4
theorem codec_writer_word {h b o wd : Nat} {s : List Nat × Bool} {fp : List Nat} {t : TypeId} {cs : List Value} {n : Int} {k : Value → World → Prop} (H : WrS h w s fp) (B : Blk w b t cs) (hb : b ∉ fp) (hn : cs[o]? = some (.int .u32 n)) (h0 : 0 ≤ n) (h1 : n < 4294967296) (hw : 1 ≤ wd) (hw8 : wd ≤ 8)
    (hsz : s.1.length ≤ 1000000) (hk : ∀ w' fp', Ex fp w w' → WrS h w' (wstp s wd n) fp' → (∀ x ∈ fp', x ∈ fp ∨ w.heap.size ≤ x) → k (.tuple #[]) w') : wCall P n_codec_writer_word [ptr h, .int .i64 (wd : Nat), .pointer (some ⟨b, o, none⟩)] w k := by
  refine call_codec_writer_word _ _ _ ?_
  unfold F_codec_writer_word
  have hbd := H.bd
  rw [nil_ptr, ld_one o_T_uint32 ((B.cell o).trans hn), conv_i i_T_uint32 i_T_uint64, IntWalk.u64_in _ (by omega)]
  refine alloc_i z_T_uint64 (vs := [.int .u64 0]) rfl fun w1 g1 hg1 hE1 B1 => ?_
  refine st_one o_T_uint64 rfl B1 (by simp) fun w2 hE2 B2 => ?_
  have B2 : Blk w2 g1 T_uint64 [.int .u64 n] := B2
  have E2 : Ex [] w w2 := hE1.new hE2 (by omega)
  have H2 := H.ex E2 (by simp)
  refine codec_writer_wide H2 B2 (fun hm => by have := hbd _ hm; omega) rfl (by omega) (by omega) hw hw8 hsz fun w4 fp' hE4 H4 hfp' => ?_
  have l2 := E2.le
  exact hk w4 fp' (E2.nil.trans hE4) H4 fun x hx => (hfp' x hx).imp_right (by omega)
end
/-- The writer as a form. -/
def wform (h : Nat) : Form (.iface T_pcodec_writer (ptr h)) where
  σ := List Nat × Bool
  S := WrS h
  stp := wstp
  val := wval
  more := fun _ => false
  sz := fun s => s.1.length
  sz_stp := fun s wd n => by
    unfold wstp
    simp only [List.length_append]
    split <;> simp [low_length]
  ex := fun H hx hT => H.ex hx hT
  bd := fun H => H.bd
  ask := fun m hm w K hk => by
    simp only [List.mem_cons, List.not_mem_nil, or_false] at hm
    rcases hm with rfl | rfl | rfl
    · rw [nil_meth (ahead_writer_wide _)]; exact hk
    · rw [nil_meth (ahead_writer_int _)]; exact hk
    · rw [nil_meth (ahead_writer_word _)]; exact hk
  wide := fun H B hb hn h0 h1 hw hw8 hsz hk => by
    rw [inv_eq (meth_writer_wide _)]
    refine codec_writer_wide H B hb hn h0 h1 hw hw8 hsz fun w' fp' hE H' hfp => hk w' fp' (hE.mono (by simp +contextual)) H' hfp ?_
    show Blk w' _ _ (List.set _ _ (.int .u64 _))
    rw [wval, set_same hn]
    exact B.ex hE hb
  int := fun H B hb hn h0 h1 hw hw8 hsz hk => by
    rw [inv_eq (meth_writer_int _)]
    refine codec_writer_int H B hb hn h1 hw (by omega) hsz fun w' fp' hE H' hfp => hk w' fp' (hE.mono (by simp +contextual)) H' hfp ?_
    show Blk w' _ _ (List.set _ _ (.int .i64 _))
    rw [wval, set_same hn]
    exact B.ex hE hb
  word := fun H B hb hn h0 h1 hw hw8 hsz hk => by
    rw [inv_eq (meth_writer_word _)]
    refine codec_writer_word H B hb hn h0 h1 hw (by omega) hsz fun w' fp' hE H' hfp => hk w' fp' (hE.mono (by simp +contextual)) H' hfp ?_
    show Blk w' _ _ (List.set _ _ (.int .u32 _))
    rw [wval, set_same hn]
    exact B.ex hE hb
  moreC := fun H hk => by
    rw [inv_eq (meth_writer_more _)]
    refine call_codec_writer_more _ ?_
    unfold F_codec_writer_more
    exact hk _ (Ex.refl _ _)
/-- The reader as a form. -/
def rform (h : Nat) (body : List Nat) : Form (.iface T_pcodec_reader (ptr h)) where
  σ := Nat × Bool
  S := RdS h body
  stp := rstp body
  val := rval body
  more := fun s => !s.2 && decide (s.1 < body.length)
  sz := fun s => s.1
  sz_stp := fun s wd n => rfl
  ex := fun H hx hT => H.ex hx hT
  bd := fun H => H.bd
  ask := fun m hm w K hk => by
    simp only [List.mem_cons, List.not_mem_nil, or_false] at hm
    rcases hm with rfl | rfl | rfl
    · rw [nil_meth (ahead_reader_wide _)]; exact hk
    · rw [nil_meth (ahead_reader_int _)]; exact hk
    · rw [nil_meth (ahead_reader_word _)]; exact hk
  wide := fun H B hb hn h0 h1 hw hw8 hsz hk => by
    rw [inv_eq (meth_reader_wide _)]
    exact codec_reader_wide H B hb hn hw hw8 hsz fun w' hE H' B' => hk w' _ hE H' (fun x hx => .inl hx) B'
  int := fun H B hb hn h0 h1 hw hw8 hsz hk => by
    rw [inv_eq (meth_reader_int _)]
    exact codec_reader_int H B hb hn hw hw8 hsz fun w' hE H' B' => hk w' _ hE H' (fun x hx => .inl hx) B'
  word := fun H B hb hn h0 h1 hw hw8 hsz hk => by
    rw [inv_eq (meth_reader_word _)]
    exact codec_reader_word H B hb hn hw hw8 hsz fun w' hE H' B' => hk w' _ hE H' (fun x hx => .inl hx) B'
  moreC := fun H hk => by
    rw [inv_eq (meth_reader_more _)]
    exact codec_reader_more H hk
end Go.Dn
end
section
/-! Passes over records, over any form. -/
set_option maxRecDepth 10000
set_option linter.unusedVariables false
set_option linter.unusedSimpArgs false
namespace Go.Dn
open Go
/-- A record's cells. -/
def rc (ks : List IntKind) (vs : List Int) : List Value := List.zipWith Value.int ks vs
def rcs (ks : List IntKind) (rs : List (List Int)) : List Value := rs.flatMap (rc ks)
theorem rc_length {ks : List IntKind} {vs : List Int} (h : vs.length = ks.length) : (rc ks vs).length = ks.length := by simp [rc, h]
theorem rc_isC (ks : List IntKind) (vs : List Int) : ∀ v ∈ rc ks vs, isC v = true := by
  induction ks generalizing vs with
  | nil => intro v hv; simp [rc] at hv
  | cons k ks ih =>
    cases vs with
    | nil => intro v hv; simp [rc] at hv
    | cons x vs =>
      intro v hv
      simp only [rc, List.zipWith_cons_cons, List.mem_cons] at hv
      rcases hv with rfl | hv
      · rfl
      · exact ih vs v hv
theorem rcs_append (ks : List IntKind) (a b : List (List Int)) : rcs ks (a ++ b) = rcs ks a ++ rcs ks b := by simp [rcs]
theorem rcs_cons (ks : List IntKind) (a : List Int) (b : List (List Int)) : rcs ks (a :: b) = rc ks a ++ rcs ks b := by simp [rcs]
theorem rcs_one (ks : List IntKind) (a : List Int) : rcs ks [a] = rc ks a := by simp [rcs]
def lenR (ks : List IntKind) (rs : List (List Int)) : Prop := ∀ r ∈ rs, r.length = ks.length
theorem rcs_length {ks : List IntKind} {rs : List (List Int)} (h : lenR ks rs) : (rcs ks rs).length = rs.length * ks.length := by
  induction rs with
  | nil => simp [rcs]
  | cons r rs ih =>
    rw [rcs_cons, List.length_append, rc_length (h r (List.mem_cons_self ..)), ih fun x hx => h x (List.mem_cons_of_mem _ hx), List.length_cons, Nat.add_mul, Nat.one_mul]
    omega
theorem rcs_isC (ks : List IntKind) (rs : List (List Int)) : ∀ v ∈ rcs ks rs, isC v = true := by
  intro v hv
  obtain ⟨r, _, h⟩ := List.mem_flatMap.1 hv
  exact rc_isC ks r v h
def inR1 (k : IntKind) (n : Int) : Prop :=
  match k with
  | .u64 => 0 ≤ n ∧ n < 18446744073709551616
  | .i64 => -9223372036854775808 ≤ n ∧ n ≤ 9223372036854775807
  | .u32 => 0 ≤ n ∧ n < 4294967296
  | _ => False
def inR : List IntKind → List Int → Prop
  | k :: ks, n :: ns => inR1 k n ∧ inR ks ns
  | _, _ => True
def mname (k : IntKind) : String :=
  match k with
  | .u64 => "drumlin/codec.wide"
  | .i64 => "drumlin/codec.int"
  | _ => "drumlin/codec.word"
def widOk (k : IntKind) (wd : Nat) : Prop :=
  match k with
  | .u64 => 1 ≤ wd ∧ wd ≤ 8
  | _ => 1 ≤ wd ∧ wd ≤ 4
/-- The text of a pass over fields of one cell. -/
def passT (f a1 : Value) (ty : TypeId) : List (IntKind × Nat × Nat) → World → (World → Prop) → Prop
  | [], w, K => K w
  | (kd, wd, i) :: l, w, K => wDraw w fun w => wNil P a1 w fun t w => wFieldA P ty t i w fun t7 w => wFunc P (.method (mname kd)) [f] [] w fun t8 w => wNil P t8 w fun _ w => wInvoke P f (mname kd) [.int .i64 ((wd : Nat) : Int), t7] w fun _ w => passT f a1 ty l w K
def fldOk (ty : TypeId) : Nat → List (IntKind × Nat × Nat) → Prop
  | _, [] => True
  | j, (kd, wd, i) :: l => fldT P ty i = some j ∧ widOk kd wd ∧ fldOk ty (j + 1) l
def kindsOf (l : List (IntKind × Nat × Nat)) : List IntKind := l.map (·.1)
def widsOf (l : List (IntKind × Nat × Nat)) : List Nat := l.map (·.2.1)
theorem getM {X Y : List Value} {x : Value} {i : Nat} (h : X.length = i) : (X ++ x :: Y)[i]? = some x := get_mid h
theorem F_sz {f : Value} (F : Form f) : ∀ (ws : List Nat) (ns : List Int) (s : F.σ), ws.length = ns.length → F.sz (runS F.stp s ws ns) = F.sz s + ws.sum
  | [], [], s, _ => by simp [runS]
  | wd :: ws, n :: ns, s, h => by
    simp only [runS, List.sum_cons]
    rw [F_sz F ws ns _ (by simpa using h), F.sz_stp]
    omega
  | [], _ :: _, _, h => by simp at h
  | _ :: _, [], _, h => by simp at h
section
variable {w : World} {f : Value}
/-- One number goes through a form. -/
theorem Form.go (F : Form f) {s : F.σ} {fp : List Nat} {b o : Nat} {t : TypeId} {cs : List Value} {kd : IntKind} {wd : Nat} {n : Int} {K : World → Prop} (H : F.S w s fp) (B : Blk w b t cs) (hb : b ∉ fp) (hn : cs[o]? = some (.int kd n)) (hr : inR1 kd n) (hw : widOk kd wd) (hsz : F.sz s ≤ 1000000)
    (hk : ∀ w' fp', Ex (b :: fp) w w' → F.S w' (F.stp s wd n) fp' → (∀ x ∈ fp', x ∈ fp ∨ w.heap.size ≤ x) → Blk w' b t (cs.set o (.int kd (F.val s wd n))) → K w') :
    wInvoke P f (mname kd) [.int .i64 ((wd : Nat) : Int), .pointer (some ⟨b, o, none⟩)] w fun _ w => K w := by
  cases kd <;> first | exact hr.elim | skip
  · exact F.int H B hb hn hr.1 hr.2 hw.1 hw.2 hsz hk
  · exact F.word H B hb hn hr.1 hr.2 hw.1 hw.2 hsz hk
  · exact F.wide H B hb hn hr.1 hr.2 hw.1 hw.2 hsz hk
theorem Form.asked (F : Form f) {kd : IntKind} {n : Int} (hr : inR1 kd n) {K : Value → World → Prop} (hk : K (.func (.method (mname kd)) ⟨[f]⟩ ⟨[]⟩) w) : wFunc P (.method (mname kd)) [f] [] w fun t8 w => wNil P t8 w K := by
  rw [func_meth]
  refine F.ask (mname kd) ?_ w K hk
  cases kd <;> first | exact hr.elim | simp [mname]
theorem passT_i (F : Form f) {b o : Nat} {t ty : TypeId} {K : World → Prop} : ∀ (l : List (IntKind × Nat × Nat)) (j : Nat) (A C : List Value) (vs : List Int) (s : F.σ) (fp : List Nat) (w : World),
    F.S w s fp → Blk w b t (A ++ rc (kindsOf l) vs ++ C) → b ∉ fp → A.length = o + j → vs.length = l.length → inR (kindsOf l) vs → fldOk ty j l → F.sz s + (widsOf l).sum ≤ 1000000 →
    (∀ w' fp', Ex (b :: fp) w w' → F.S w' (runS F.stp s (widsOf l) vs) fp' → (∀ x ∈ fp', x ∈ fp ∨ w.heap.size ≤ x) → Blk w' b t (A ++ rc (kindsOf l) (runV F.stp F.val s (widsOf l) vs) ++ C) → K w') → passT f (.pointer (some ⟨b, o, none⟩)) ty l w K
  | [], j, A, C, vs, s, fp, w, H, B, hb, hA, hl, hr, hf, hsz, hk => hk w fp (Ex.refl _ _) H (fun x hx => .inl hx) B
  | (kd, wd, i) :: l, j, A, C, [], s, fp, w, H, B, hb, hA, hl, hr, hf, hsz, hk => by simp at hl
  | (kd, wd, i) :: l, j, A, C, n :: vs, s, fp, w, H, B, hb, hA, hl, hr, hf, hsz, hk => by
    have hsz' : F.sz s + (wd + (widsOf l).sum) ≤ 1000000 := by simpa [widsOf] using hsz
    show wDraw w fun w => wNil P (.pointer (some ⟨b, o, none⟩)) w fun t w => wFieldA P ty t i w fun t7 w => wFunc P (.method (mname kd)) [f] [] w fun t8 w => wNil P t8 w fun _ w => wInvoke P f (mname kd) [.int .i64 ((wd : Nat) : Int), t7] w fun _ w => passT f (.pointer (some ⟨b, o, none⟩)) ty l w K
    refine draw_i fun w1 hE1 _ => ?_
    have H1 := F.ex H hE1 (by simp)
    have B1 := B.ex hE1 (by simp)
    rw [nil_ptr, fieldA_i hf.1]
    refine F.asked hr.1 ?_
    have hcs : A ++ rc (kindsOf ((kd, wd, i) :: l)) (n :: vs) ++ C = A ++ .int kd n :: (rc (kindsOf l) vs ++ C) := by simp [rc, kindsOf]
    rw [hcs] at B1
    refine F.go H1 B1 hb (get_mid hA) hr.1 hf.2.1 (by omega) fun w2 fp2 hE2 H2 hfp2 B2 => ?_
    rw [set_mid hA] at B2
    have hlt := B1.lt
    have hb2 : b ∉ fp2 := fun hm => (hfp2 b hm).elim hb fun h => by omega
    have l1 := hE1.le
    have l2 := hE2.le
    refine passT_i F l (j + 1) (A ++ [.int kd (F.val s wd n)]) C vs (F.stp s wd n) fp2 w2 H2 (by simpa using B2) hb2 (by simp; omega) (by simpa using hl) hr.2 hf.2.2 (by rw [F.sz_stp]; omega) fun w3 fp3 hE3 H3 hfp3 B3 => ?_
    refine hk w3 fp3 ((hE1.nil.trans hE2).step hE3 ?_) H3 ?_ ?_
    · intro x hx
      rcases List.mem_cons.1 hx with rfl | hx
      · exact .inl (by simp)
      · rcases hfp2 x hx with h | h
        · exact .inl (by simp [h])
        · exact .inr (by omega)
    · intro x hx
      rcases hfp3 x hx with h | h
      · rcases hfp2 x h with h | h
        · exact .inl h
        · exact .inr (by omega)
      · exact .inr (by omega)
    · have : A ++ [.int kd (F.val s wd n)] ++ rc (kindsOf l) (runV F.stp F.val (F.stp s wd n) (widsOf l) vs) ++ C = A ++ rc (kindsOf ((kd, wd, i) :: l)) (runV F.stp F.val s (widsOf ((kd, wd, i) :: l)) (n :: vs)) ++ C := by
        simp [rc, kindsOf, widsOf, runV]
      rw [this] at B3
      exact B3
end
def LUse : List (IntKind × Nat × Nat) := [(.i64, 2, 0), (.i64, 1, 1), (.u32, 4, 2)]
def LSlot : List (IntKind × Nat × Nat) := [(.i64, 4, 0), (.u32, 4, 1), (.i64, 2, 2), (.i64, 1, 3)]
def LRecord : List (IntKind × Nat × Nat) := [(.u32, 2, 0), (.u32, 4, 1), (.i64, 2, 2), (.i64, 1, 3)]
def LEntry : List (IntKind × Nat × Nat) := [(.i64, 1, 0), (.u32, 2, 1), (.u32, 4, 2), (.i64, 2, 3)]
def LHeader : List (IntKind × Nat × Nat) := [(.u64, 8, 0), (.u64, 8, 1), (.i64, 2, 2), (.i64, 2, 3), (.i64, 2, 4), (.u32, 4, 5)]
theorem ok_LUse : fldOk T_codec_Use 0 LUse := by unfold LUse fldOk; repeat' first | exact trivial | (refine ⟨by kernel_rfl, by (unfold widOk; decide), ?_⟩; unfold fldOk)
theorem ok_LSlot : fldOk T_codec_Slot 0 LSlot := by unfold LSlot fldOk; repeat' first | exact trivial | (refine ⟨by kernel_rfl, by (unfold widOk; decide), ?_⟩; unfold fldOk)
theorem ok_LRecord : fldOk T_codec_Record 0 LRecord := by unfold LRecord fldOk; repeat' first | exact trivial | (refine ⟨by kernel_rfl, by (unfold widOk; decide), ?_⟩; unfold fldOk)
theorem ok_LEntry : fldOk T_codec_Entry 0 LEntry := by unfold LEntry fldOk; repeat' first | exact trivial | (refine ⟨by kernel_rfl, by (unfold widOk; decide), ?_⟩; unfold fldOk)
theorem ok_LHeader : fldOk T_codec_Header 0 LHeader := by unfold LHeader fldOk; repeat' first | exact trivial | (refine ⟨by kernel_rfl, by (unfold widOk; decide), ?_⟩; unfold fldOk)
/-- What is asked of a pass. -/
def PassC (n : FuncId) (ks : List IntKind) (ws : List Nat) : Prop :=
  ∀ {f : Value} (F : Form f) {w : World} {s : F.σ} {fp : List Nat} {b : Nat} {t : TypeId} {A C : List Value} {vs : List Int} {k : Value → World → Prop}, F.S w s fp → Blk w b t (A ++ rc ks vs ++ C) → b ∉ fp → vs.length = ks.length → inR ks vs → F.sz s ≤ 900000 →
    (∀ w' fp', Ex (b :: fp) w w' → F.S w' (runS F.stp s ws vs) fp' → (∀ x ∈ fp', x ∈ fp ∨ w.heap.size ≤ x) → Blk w' b t (A ++ rc ks (runV F.stp F.val s ws vs) ++ C) → k (.tuple #[]) w') → wCall P n [f, .pointer (some ⟨b, A.length, none⟩)] w k
theorem pass_Use : PassC n_codec_passUse (kindsOf LUse) (widsOf LUse) := by
  intro f F w s fp b t A C vs k H B hb hl hr hsz hk
  refine call_codec_passUse _ _ ?_
  exact passT_i F LUse 0 A C vs s fp w H B hb rfl hl hr ok_LUse (by have : (widsOf LUse).sum = 7 := rfl; omega) hk
theorem pass_Slot : PassC n_codec_passSlot (kindsOf LSlot) (widsOf LSlot) := by
  intro f F w s fp b t A C vs k H B hb hl hr hsz hk
  refine call_codec_passSlot _ _ ?_
  exact passT_i F LSlot 0 A C vs s fp w H B hb rfl hl hr ok_LSlot (by have : (widsOf LSlot).sum = 11 := rfl; omega) hk
theorem pass_Record : PassC n_codec_passRecord (kindsOf LRecord) (widsOf LRecord) := by
  intro f F w s fp b t A C vs k H B hb hl hr hsz hk
  refine call_codec_passRecord _ _ ?_
  exact passT_i F LRecord 0 A C vs s fp w H B hb rfl hl hr ok_LRecord (by have : (widsOf LRecord).sum = 9 := rfl; omega) hk
theorem pass_Entry : PassC n_codec_passEntry (kindsOf LEntry) (widsOf LEntry) := by
  intro f F w s fp b t A C vs k H B hb hl hr hsz hk
  refine call_codec_passEntry _ _ ?_
  exact passT_i F LEntry 0 A C vs s fp w H B hb rfl hl hr ok_LEntry (by have : (widsOf LEntry).sum = 9 := rfl; omega) hk
theorem pass_Header : PassC n_codec_passHeader (kindsOf LHeader) (widsOf LHeader) := by
  intro f F w s fp b t A C vs k H B hb hl hr hsz hk
  refine call_codec_passHeader _ _ ?_
  exact passT_i F LHeader 0 A C vs s fp w H B hb rfl hl hr ok_LHeader (by have : (widsOf LHeader).sum = 26 := rfl; omega) hk
end Go.Dn
end
section
/-! Passes over lists of records; what may be. -/
set_option maxRecDepth 10000
set_option linter.unusedVariables false
set_option linter.unusedSimpArgs false
namespace Go.Dn
open Go
def zs (ks : List IntKind) : List Int := ks.map fun _ => 0
theorem zs_length (ks : List IntKind) : (zs ks).length = ks.length := by simp [zs]
structure ElT (TL TE : TypeId) (ks : List IntKind) : Prop where
  u : P.underlying TL = some (.slice TE)
  s : slT P TL = some ks.length
  o : oneT P TL = true
  g : aggT P TE ks.length = true
  z : zeroT P TE = some (.agg ⟨rc ks (zs ks)⟩)
  sz : ∀ w, (sizeOf TE).run P w = .ok ks.length w
  pos : 0 < ks.length
  le : ks.length ≤ 1000
  inz : inR ks (zs ks)
  app : ∀ {w : World} {K : Value → World → Prop} {base : Nat} {v x : Value} {xs ys : List Value} {n m : Nat}, Own w base TE ks.length v xs → SlG w ks.length x ys → xs.length = n * ks.length → ys.length = m * ks.length → (∀ u ∈ ys, isC u = true) → n + m ≤ 10000000 → base ≤ w.heap.size →
    (∀ v' w', Own w' base TE ks.length v' (xs ++ ys) → Ex v.ownBlock.toList w w' → (v'.ownBlock = v.ownBlock ∨ v'.ownBlock = some w.heap.size) → K v' w') → wBuiltin P .append #[TL, TL] [v, x] w K
def kUse : List IntKind := [.i64, .i64, .u32]
def kSlot : List IntKind := [.i64, .u32, .i64, .i64]
def kRecord : List IntKind := [.u32, .u32, .i64, .i64]
def kEntry : List IntKind := [.i64, .u32, .u32, .i64]
theorem el_Use : ElT T_Lcodec_Use T_codec_Use kUse :=
  ⟨u_T_Lcodec_Use, s_T_Lcodec_Use, o_T_Lcodec_Use, g_T_codec_Use, z_T_codec_Use, fun w => sizeOf_agg g_T_codec_Use w, by decide, by decide, by simp [inR, inR1, kUse, zs], fun ho hy hn hm hc hb hba hk => app_T_Lcodec_Use ho hy hn hm hc (by omega) hba hk⟩
theorem el_Slot : ElT T_Lcodec_Slot T_codec_Slot kSlot :=
  ⟨u_T_Lcodec_Slot, s_T_Lcodec_Slot, o_T_Lcodec_Slot, g_T_codec_Slot, z_T_codec_Slot, fun w => sizeOf_agg g_T_codec_Slot w, by decide, by decide, by simp [inR, inR1, kSlot, zs], fun ho hy hn hm hc hb hba hk => app_T_Lcodec_Slot ho hy hn hm hc (by omega) hba hk⟩
theorem el_Record : ElT T_Lcodec_Record T_codec_Record kRecord :=
  ⟨u_T_Lcodec_Record, s_T_Lcodec_Record, o_T_Lcodec_Record, g_T_codec_Record, z_T_codec_Record, fun w => sizeOf_agg g_T_codec_Record w, by decide, by decide, by simp [inR, inR1, kRecord, zs], fun ho hy hn hm hc hb hba hk => app_T_Lcodec_Record ho hy hn hm hc (by omega) hba hk⟩
theorem el_Entry : ElT T_Lcodec_Entry T_codec_Entry kEntry :=
  ⟨u_T_Lcodec_Entry, s_T_Lcodec_Entry, o_T_Lcodec_Entry, g_T_codec_Entry, z_T_codec_Entry, fun w => sizeOf_agg g_T_codec_Entry w, by decide, by decide, by simp [inR, inR1, kEntry, zs], fun ho hy hn hm hc hb hba hk => app_T_Lcodec_Entry ho hy hn hm hc (by omega) hba hk⟩
/-- A slice whose block is one of cells. -/
def SlB (w : World) (t : TypeId) (size : Nat) (v : Value) (xs : List Value) : Prop :=
  (v = .slice none 0 0 ∧ xs = []) ∨ ∃ b A C n c, v = .slice (some ⟨b, List.length A, none⟩) n c ∧ Blk w b t (A ++ xs ++ C) ∧ xs.length = n * size ∧ n ≤ c
theorem SlB.slg {w : World} {t : TypeId} {size : Nat} {v : Value} {xs : List Value} (h : SlB w t size v xs) : SlG w size v xs := by
  rcases h with ⟨rfl, rfl⟩ | ⟨b, A, C, n, c, rfl, hB, hl, hc⟩
  · exact SlG.nil w size
  · refine SlG.of_cs (fun i x hx => ?_) hl hc
    rw [hB.cell, List.append_assoc, List.getElem?_append_right (by omega), show A.length + i - A.length = i by omega, List.getElem?_append_left (List.getElem?_eq_some_iff.1 hx).1]
    exact hx
theorem SlB.ex {S : List Nat} {w w' : World} {t : TypeId} {size : Nat} {v : Value} {xs : List Value} (h : SlB w t size v xs) (hx : Ex S w w') (hs : ∀ g, v.ownBlock = some g → g ∉ S) : SlB w' t size v xs := by
  rcases h with h | ⟨b, A, C, n, c, rfl, hB, hl, hc⟩
  · exact .inl h
  · exact .inr ⟨b, A, C, n, c, rfl, hB.ex hx (hs b rfl), hl, hc⟩
theorem SlB.ex0 {w w' : World} {t : TypeId} {size : Nat} {v : Value} {xs : List Value} (h : SlB w t size v xs) (hx : Ex [] w w') : SlB w' t size v xs := h.ex hx (by simp)
theorem SlB.bd {w : World} {t : TypeId} {size : Nat} {v : Value} {xs : List Value} (h : SlB w t size v xs) : ∀ g, v.ownBlock = some g → g < w.heap.size := by
  rcases h with ⟨rfl, rfl⟩ | ⟨b, A, C, n, c, rfl, hB, hl, hc⟩
  · intro g hg; simp [Value.ownBlock] at hg
  · intro g hg
    simp [Value.ownBlock] at hg
    subst hg
    exact hB.lt
theorem Own.slb {w : World} {base size : Nat} {e : TypeId} {v : Value} {xs : List Value} (h : Own w base e size v xs) : SlB w e size v xs := by
  obtain ⟨n, hl, h⟩ := h
  rcases h with ⟨rfl, rfl⟩ | ⟨g, cap, cur, rfl, hb, hh, hnc, h2, h3, htk⟩
  · exact .inl ⟨rfl, List.eq_nil_of_length_eq_zero (by simpa using hl)⟩
  · refine .inr ⟨g, [], cur.toList.drop (n * size), n, cap, rfl, ?_, hl, hnc⟩
    have : [] ++ xs ++ cur.toList.drop (n * size) = cur.toList := by rw [← htk, List.nil_append, List.take_append_drop]
    rw [this]
    exact hh
def G_list (TL TE : TypeId) (a0 a1 a2 : Value) (w : World) (k : Value → World → Prop) : Prop :=
  wJ0 (fun k1 =>
    wNil P a1 w fun t9 w =>
    wLoad P TL t9 w fun t10 w =>
    wLen P .len #[TL] [t10] w fun t11 w =>
    wL1 (.int .i64 0) w (fun _ v12 w k2 =>
      wBin P .lss T_int v12 t11 w fun t13 w =>
      wIf t13 (
        wNil P a1 w fun t18 w =>
        wLoad P TL t18 w fun t19 w =>
        wIndexA P TL t19 v12 w fun t21 w =>
        wCallV P a2 [a0, t21] w fun _ w =>
        wBin P .add T_int v12 (.int .i64 1) w fun t23 w =>
        k2 t23 w) (
        k1 w))) fun _ w =>
  wL0 w (fun _ w k1 =>
    wInvoke P a0 "drumlin/codec.more" [] w fun t25 w =>
    wIf t25 (
      wAlloc P TE w fun t7 w =>
      wCallV P a2 [a0, t7] w fun _ w =>
      wDraw w fun w =>
      wNil P a1 w fun t31 w =>
      wLoad P TL t31 w fun t32 w =>
      wLoad P TE t7 w fun t33 w =>
      wBuildS P TL 1 [(0, t33)] w fun t34 w =>
      wKeep P [(TL, t31, t32)] w ∧ wBuiltin P .append #[TL, TL] [t32, t34] w fun t35 w =>
      wNil P a1 w fun t36 w =>
      wStore P TL t36 t35 w fun w =>
      k1 w) (
      k (.tuple #[]) w))
def ListC (n : FuncId) (TL TE : TypeId) : Prop := ∀ {a0 a1 a2 : Value} {w : World} {k : Value → World → Prop}, G_list TL TE a0 a1 a2 w k → wCall P n [a0, a1, a2] w k
theorem lc_Use : ListC n_codec_list_codec_Use T_Lcodec_Use T_codec_Use := fun h => call_codec_list_codec_Use _ _ _ h
theorem lc_Slot : ListC n_codec_list_codec_Slot T_Lcodec_Slot T_codec_Slot := fun h => call_codec_list_codec_Slot _ _ _ h
theorem lc_Record : ListC n_codec_list_codec_Record T_Lcodec_Record T_codec_Record := fun h => call_codec_list_codec_Record _ _ _ h
theorem lc_Entry : ListC n_codec_list_codec_Entry T_Lcodec_Entry T_codec_Entry := fun h => call_codec_list_codec_Entry _ _ _ h
section
variable {w : World}
theorem takeR {rs : List (List Int)} {i : Nat} (h : i < rs.length) : rs.take (i + 1) = rs.take i ++ [rs[i]] := List.take_succ_eq_append_getElem h
theorem runRS_w_len {ks : List IntKind} {ws : List Nat} (hw : ws.length = ks.length) : ∀ (l : List (List Int)) (s : List Nat × Bool), lenR ks l → (runRS wstp ws s l).1.length = s.1.length + l.length * ws.sum := by
  intro l
  induction l with
  | nil => intro s _; simp [runRS]
  | cons r l ih =>
    intro s hl
    show (runRS wstp ws (runS wstp s ws r) l).1.length = _
    rw [ih _ fun x hx => hl x (List.mem_cons_of_mem _ hx), runS_w_len ws r s (by rw [hw, hl r (List.mem_cons_self ..)]), List.length_cons, Nat.add_mul, Nat.one_mul]
    omega
theorem runRS_r_at {ks : List IntKind} {ws : List Nat} {body : List Nat} {s : Nat × Bool} (hw : ws.length = ks.length) (i : Nat) : (runRS (rstp body) ws s (List.replicate i (zs ks))).1 = s.1 + i * ws.sum := by
  induction i with
  | zero => simp [runRS]
  | succ i ih => rw [List.replicate_succ', runRS_snoc, (runS_r body ws _ _ (by rw [hw, zs_length])).1, ih, Nat.succ_mul]; omega
theorem lenR_runRV {ks : List IntKind} {ws : List Nat} {body : List Nat} (hw : ws.length = ks.length) : ∀ (rs : List (List Int)) (s : Nat × Bool), lenR ks rs → lenR ks (runRV (rstp body) (rval body) ws s rs) := by
  intro rs
  induction rs with
  | nil => intro s _ r hr; simp [runRV] at hr
  | cons a rs ih =>
    intro s hl r hr
    simp only [runRV, List.mem_cons] at hr
    rcases hr with rfl | hr
    · rw [runV_length _ _ _ _ _ (by rw [hw, hl a (List.mem_cons_self ..)]), hl a (List.mem_cons_self ..)]
    · exact ih _ (fun x hx => hl x (List.mem_cons_of_mem _ hx)) r hr
theorem wmoreC {h : Nat} {s : List Nat × Bool} {fp : List Nat} {K : Value → World → Prop} (H : WrS h w s fp) (hk : ∀ w', Ex [] w w' → K (.bool false) w') : wInvoke P (.iface T_pcodec_writer (ptr h)) "drumlin/codec.more" [] w K := (wform h).moreC H hk
def rmore (body : List Nat) (s : Nat × Bool) : Bool := !s.2 && decide (s.1 < body.length)
theorem rmoreC {h : Nat} {body : List Nat} {s : Nat × Bool} {fp : List Nat} {K : Value → World → Prop} (H : RdS h body w s fp) (hk : ∀ w', Ex [] w w' → K (.bool (rmore body s)) w') : wInvoke P (.iface T_pcodec_reader (ptr h)) "drumlin/codec.more" [] w K := (rform h body).moreC H hk
/-- A list is written. -/
theorem list_wr {n np : FuncId} {TL TE lt : TypeId} {ks : List IntKind} {ws : List Nat} {h lb lo : Nat} {s : List Nat × Bool} {fp : List Nat} {lcs : List Value} {v : Value} {rs : List (List Int)} {k : Value → World → Prop} (E : ElT TL TE ks) (hL : ListC n TL TE) (hP : PassC np ks ws)
    (H : WrS h w s fp) (B : Blk w lb lt lcs) (hlo : lcs[lo]? = some v) (hlb : lb ∉ fp) (S : SlB w TE ks.length v (rcs ks rs)) (hv : ∀ g, v.ownBlock = some g → g ∉ fp) (hlen : lenR ks rs) (hw : ws.length = ks.length) (hin : ∀ r ∈ rs, inR ks r) (hn : rs.length ≤ 1000) (hsz : s.1.length + rs.length * ws.sum ≤ 900000)
    (hk : ∀ w' fp', Ex fp w w' → WrS h w' (runRS wstp ws s rs) fp' → (∀ x ∈ fp', x ∈ fp ∨ w.heap.size ≤ x) → k (.tuple #[]) w') : wCall P n [.iface T_pcodec_writer (ptr h), .pointer (some ⟨lb, lo, none⟩), .func (.func np) #[] #[]] w k := by
  refine hL ?_
  unfold G_list
  refine j0_of (fun w' => ∃ fp', Ex fp w w' ∧ WrS h w' (runRS wstp ws s rs) fp' ∧ (∀ x ∈ fp', x ∈ fp ∨ w.heap.size ≤ x)) (fun k1 hk1 => ?_) ?_
  · rw [nil_ptr, ld_one E.o ((B.cell lo).trans hlo), S.slg.len_i E.u E.pos (rcs_length hlen)]
    refine loop_up rs.length (fun i x w' => x = .int .i64 (i : Int) ∧ ∃ fp', Ex fp w w' ∧ WrS h w' (runRS wstp ws s (rs.take i)) fp' ∧ (∀ x ∈ fp', x ∈ fp ∨ w.heap.size ≤ x)) ⟨rfl, fp, Ex.refl _ _, H, fun x hx => .inl hx⟩ ?_
    rintro i J x w1 k2 hi ⟨rfl, fp1, hE1, H1, hfp1⟩ hk2
    rw [bin_lss]
    refine wIf_d (fun hlt => ?_) (fun hge => ?_)
    · have hlt : i < rs.length := by omega
      have B1 := B.ex hE1 hlb
      have S1 := S.ex hE1 hv
      rw [nil_ptr, ld_one E.o ((B1.cell lo).trans hlo)]
      rcases S1 with ⟨_, h2⟩ | ⟨b, A, C, m, c, rfl, hB, hl, hc⟩
      · have := rcs_length hlen
        rw [h2] at this
        have := Nat.mul_pos (show 0 < rs.length by omega) E.pos
        simp at *
        omega
      · have hm : m = rs.length := Nat.eq_of_mul_eq_mul_right E.pos (hl.symm.trans (rcs_length hlen))
        subst hm
        rw [indexS_i E.s (by omega) (by omega), callv_0, Int.toNat_natCast]
        have htl : lenR ks (rs.take i) := fun r hr => hlen r (List.mem_of_mem_take hr)
        have ha : A.length + i * ks.length = (A ++ rcs ks (rs.take i)).length := by
          rw [List.length_append, rcs_length htl, List.length_take, Nat.min_eq_left (by omega)]
        have hcs : A ++ rcs ks rs ++ C = (A ++ rcs ks (rs.take i)) ++ rc ks rs[i] ++ (rcs ks (rs.drop (i + 1)) ++ C) := by
          conv => lhs; rw [← List.take_append_drop i rs, List.drop_eq_getElem_cons hlt, rcs_append, rcs_cons]
          simp
        rw [ha]
        rw [hcs] at hB
        have hbfp : b ∉ fp1 := fun hm => by
          rcases hfp1 b hm with h | h
          · exact hv b rfl h
          · have := S.bd b rfl; omega
        have hst : (runRS wstp ws s (rs.take i)).1.length = s.1.length + i * ws.sum := by
          rw [runRS_w_len hw _ s htl, List.length_take, Nat.min_eq_left (by omega)]
        have hmul : i * ws.sum ≤ rs.length * ws.sum := Nat.mul_le_mul_right _ (by omega)
        refine hP (wform h) H1 hB hbfp (hlen _ (List.getElem_mem hlt)) (hin _ (List.getElem_mem hlt)) (show (runRS wstp ws s (rs.take i)).1.length ≤ 900000 by omega) fun w2 fp2 hE2 H2 hfp2 hB2 => ?_
        have hB2 : Blk w2 b TE ((A ++ rcs ks (rs.take i)) ++ rc ks (runV wstp wval (runRS wstp ws s (rs.take i)) ws rs[i]) ++ (rcs ks (rs.drop (i + 1)) ++ C)) := hB2
        rw [runV_w ws _ _ (by rw [hw, hlen _ (List.getElem_mem hlt)])] at hB2
        have E2 : Ex fp1 w1 w2 := hE2.back hB hB2
        have l1 := hE1.le
        rw [bin_add (by omega)]
        refine hk2 _ _ (by omega) ⟨by simp, fp2, hE1.step E2 fun x hx => (hfp1 x hx), ?_, fun x hx => ?_⟩
        · rw [takeR hlt, runRS_snoc]; exact H2
        · rcases hfp2 x hx with h | h
          · exact hfp1 x h
          · exact .inr (by omega)
    · obtain rfl : i = rs.length := by omega
      rw [List.take_length] at H1
      exact hk1 w1 ⟨fp1, hE1, H1, hfp1⟩
  · rintro J w1 ⟨fp1, hE1, H1, hfp1⟩
    refine loop_m0 (n := 0) (fun n w' => Ex fp w w' ∧ WrS h w' (runRS wstp ws s rs) fp1) ⟨hE1, H1⟩ ?_
    rintro n J w2 k1 ⟨hE2, H2⟩ _
    refine wmoreC H2 fun w3 hE3 => ?_
    rw [wIf_f]
    exact hk w3 fp1 (hE2.trans hE3.nil) (H2.ex hE3 (by simp)) hfp1
/-- A list is read. -/
theorem list_rd {n np : FuncId} {TL TE lt : TypeId} {ks : List IntKind} {ws : List Nat} {h lb lo N : Nat} {body : List Nat} {s : Nat × Bool} {fp : List Nat} {lcs : List Value} {k : Value → World → Prop} (E : ElT TL TE ks) (hL : ListC n TL TE) (hP : PassC np ks ws)
    (H : RdS h body w s fp) (B : Blk w lb lt lcs) (hlo : lcs[lo]? = some (.slice none 0 0)) (hlb : lb ∉ fp) (hw : ws.length = ks.length) (hN : N ≤ 1000) (hsz : s.1 + N * ws.sum ≤ 900000)
    (hm : ∀ i, i < N → rmore body (runRS (rstp body) ws s (List.replicate i (zs ks))) = true) (hn : rmore body (runRS (rstp body) ws s (List.replicate N (zs ks))) = false)
    (hk : ∀ w' v' fp', Ex (lb :: fp) w w' → RdS h body w' (runRS (rstp body) ws s (List.replicate N (zs ks))) fp' → (∀ x ∈ fp', x ∈ fp ∨ w.heap.size ≤ x) → (∀ g, v'.ownBlock = some g → g ∉ fp') → Own w' w.heap.size TE ks.length v' (rcs ks (runRV (rstp body) (rval body) ws s (List.replicate N (zs ks)))) → Blk w' lb lt (lcs.set lo v') → k (.tuple #[]) w') :
    wCall P n [.iface T_pcodec_reader (ptr h), .pointer (some ⟨lb, lo, none⟩), .func (.func np) #[] #[]] w k := by
  refine hL ?_
  unfold G_list
  have hlol := (List.getElem?_eq_some_iff.1 hlo).1
  refine j0_of (fun w' => w = w') (fun k1 hk1 => ?_) ?_
  · rw [nil_ptr, ld_one E.o ((B.cell lo).trans hlo), len_s E.u]
    refine loop_up 0 (fun i x w' => x = .int .i64 0 ∧ w = w') ⟨rfl, rfl⟩ ?_
    rintro i J x w1 k2 hi ⟨rfl, rfl⟩ hk2
    rw [bin_lss, wIf_df (by omega)]
    exact hk1 w rfl
  rintro J w1 rfl
  have hblt := B.lt
  refine loop_m0 (n := N) (fun m w' => ∃ i v fp1, m = N - i ∧ i ≤ N ∧ Ex (lb :: fp) w w' ∧ RdS h body w' (runRS (rstp body) ws s (List.replicate i (zs ks))) fp1 ∧ (∀ x ∈ fp1, x ∈ fp ∨ w.heap.size ≤ x) ∧ (∀ g, v.ownBlock = some g → g ∉ fp1) ∧ Own w' w.heap.size TE ks.length v (rcs ks (runRV (rstp body) (rval body) ws s (List.replicate i (zs ks)))) ∧ Blk w' lb lt (lcs.set lo v))
    ⟨0, .slice none 0 0, fp, rfl, Nat.zero_le _, Ex.refl _ _, H, fun x hx => .inl hx, by simp [Value.ownBlock], Own.nil _ _ _ _, by rw [set_same hlo]; exact B⟩ ?_
  rintro m J w1 k1 ⟨i, v, fp1, rfl, hi, hE1, H1, hfp1, hv1, hO1, B1⟩ hk1
  have l1 := hE1.le
  have hcell : ∀ v, (lcs.set lo v)[lo]? = some v := fun v => by simp [hlol]
  refine rmoreC H1 fun w2 hE2 => ?_
  have l2 := hE2.le
  rcases Nat.lt_or_ge i N with hlt | hge
  · rw [hm i hlt, wIf_t]
    have hb1 : lb ∉ fp1 := fun hmm => (hfp1 lb hmm).elim hlb fun h => by omega
    refine alloc_i E.z (vs := rc ks (zs ks)) rfl fun w3 g3 hg3 hE3 B3 => ?_
    have l3 := hE3.le
    rw [callv_0]
    have H3 := (H1.ex hE2 (by simp)).ex hE3 (by simp)
    have hbd1 := H3.bd
    have hg3fp : g3 ∉ fp1 := fun hmm => by have := (H1.ex hE2 (by simp)).bd g3 hmm; omega
    have hst := runRS_r_at (body := body) (s := s) (ks := ks) hw i
    have hmul : i * ws.sum ≤ N * ws.sum := Nat.mul_le_mul_right _ (by omega)
    refine hP (rform h body) (A := []) (C := []) H3 (by simpa using B3) hg3fp (zs_length ks) E.inz (show (runRS (rstp body) ws s (List.replicate i (zs ks))).1 ≤ 900000 by omega) fun w4 fp4 hE4 H4 hfp4 B4 => ?_
    have l4 := hE4.le
    simp only [List.nil_append, List.append_nil] at B4
    have B4 : Blk w4 g3 TE (rc ks (runV (rstp body) (rval body) (runRS (rstp body) ws s (List.replicate i (zs ks))) ws (zs ks))) := B4
    have hsnoc : runRS (rstp body) ws s (List.replicate (i + 1) (zs ks)) = runS (rstp body) (runRS (rstp body) ws s (List.replicate i (zs ks))) ws (zs ks) := by rw [List.replicate_succ', runRS_snoc]
    have hvsnoc : runRV (rstp body) (rval body) ws s (List.replicate (i + 1) (zs ks)) = runRV (rstp body) (rval body) ws s (List.replicate i (zs ks)) ++ [runV (rstp body) (rval body) (runRS (rstp body) ws s (List.replicate i (zs ks))) ws (zs ks)] := by rw [List.replicate_succ', runRV_snoc]
    generalize hvals : runV (rstp body) (rval body) (runRS (rstp body) ws s (List.replicate i (zs ks))) ws (zs ks) = vals at B4 hvsnoc
    have hvl : vals.length = ks.length := by rw [← hvals, runV_length _ _ _ _ _ (by rw [hw, zs_length]), zs_length]
    have hobd : ∀ g, v.ownBlock = some g → w.heap.size ≤ g ∧ g < w1.heap.size := fun g hg => ⟨(hO1.blk hg).1, (hO1.blk hg).2.1⟩
    have hO4 : Own w4 w.heap.size TE ks.length v (rcs ks (runRV (rstp body) (rval body) ws s (List.replicate i (zs ks)))) :=
      ((hO1.ex0 hE2).ex0 hE3).ex hE4 fun g hg hmm => by
        have := hobd g hg
        rcases List.mem_cons.1 hmm with rfl | hmm
        · omega
        · exact hv1 g hg hmm
    have Bl4 : Blk w4 lb lt (lcs.set lo v) := ((B1.ex hE2 (by simp)).ex hE3 (by simp)).ex hE4 (by simp; exact ⟨by omega, hb1⟩)
    refine draw_i fun w5 hE5 _ => ?_
    have l5 := hE5.le
    have B5 := B4.ex hE5 (by simp)
    have Bl5 := Bl4.ex hE5 (by simp)
    rw [nil_ptr, ld_one E.o ((Bl5.cell lo).trans (hcell v)), ld_agg E.g B5.all (rc_length hvl)]
    have hgl : (rc ks vals).length = ks.length := rc_length hvl
    refine buildS_1 (x := .agg ⟨rc ks vals⟩) (xs := rc ks vals) (size := ks.length) E.u E.sz E.z (by have := E.le; omega) rfl hgl (show (rc ks (zs ks)).length = _ from rc_length (zs_length ks)) fun w6 g6 hg6 hE6 B6 => ?_
    have l6 := hE6.le
    have Bl6 := Bl5.ex hE6 (by simp)
    refine ⟨keep_cons (loadAt_one E.o ((Bl6.cell lo).trans (hcell v))) keep_nil, ?_⟩
    have hrl : (rcs ks (runRV (rstp body) (rval body) ws s (List.replicate i (zs ks)))).length = i * ks.length := by
      rw [rcs_length (lenR_runRV hw _ s fun r hr => by rw [List.mem_replicate] at hr; rw [hr.2, zs_length]), runRV_length, List.length_replicate]
    refine E.app (n := i) (m := 1) ((hO4.ex0 hE5).ex0 hE6) (SlG.of_cs B6.all (by rw [hgl]; omega) (Nat.le_refl _)) hrl (by rw [hgl]; omega) (rc_isC _ _) (by omega) (by omega) fun v' w7 hO7 hE7 hv7 => ?_
    have l7 := hE7.le
    have hne : ∀ x ∈ v.ownBlock.toList, w.heap.size ≤ x ∧ x < w1.heap.size := fun x hx => by
      cases hvo : v.ownBlock with
      | none => rw [hvo] at hx; simp at hx
      | some g => rw [hvo] at hx; simp at hx; subst hx; exact hobd _ hvo
    have Bl7 := Bl6.ex hE7 fun hmm => by have := hne _ hmm; omega
    rw [nil_ptr]
    have hcv : isC v' = true := by
      obtain ⟨m', hl', hv'⟩ := hO7
      rcases hv' with ⟨rfl, _⟩ | ⟨g, cap, cur, rfl, _⟩ <;> rfl
    refine st_one E.o hcv Bl7 (by simpa using hlol) fun w8 hE8 B8 => ?_
    rw [List.set_set] at B8
    have hfp47 : ∀ x ∈ fp4, x < w4.heap.size := fun x hx => H4.bd x hx
    have hv4 : ∀ g, v.ownBlock = some g → g ∉ fp4 := fun g hg hmm => by
      rcases hfp4 g hmm with h | h
      · exact hv1 g hg h
      · have := hobd g hg; omega
    have H7 : RdS h body w7 _ fp4 := ((H4.ex hE5 (by simp)).ex hE6 (by simp)).ex hE7 fun x hx hmm => by
      cases hvo : v.ownBlock with
      | none => rw [hvo] at hx; simp at hx
      | some g => rw [hvo] at hx; simp at hx; subst hx; exact hv4 _ hvo hmm
    have hlb4 : lb ∉ fp4 := fun hmm => by
      rcases hfp4 lb hmm with h | h
      · exact hb1 h
      · omega
    have hown7 : ∀ g, v'.ownBlock = some g → w.heap.size ≤ g ∧ g ∉ fp4 := fun g hg => by
      rcases hv7 with h | h
      · exact ⟨(hO7.blk hg).1, hv4 g (by rw [← h]; exact hg)⟩
      · rw [h] at hg; injection hg with hg
        exact ⟨by omega, fun hmm => by have := hfp47 g hmm; omega⟩
    refine hk1 (N - (i + 1)) w8 (by omega) ⟨i + 1, v', fp4, rfl, by omega, ?_, ?_, ?_, fun g hg => (hown7 g hg).2, ?_, B8⟩
    · refine ((((((hE1.trans hE2.nil).trans hE3.nil).step hE4 ?_).trans hE5.nil).trans hE6.nil).step hE7 fun x hx => .inr (hne x hx).1).step hE8 (by simp)
      intro x hx
      rcases List.mem_cons.1 hx with rfl | hx
      · exact .inr (by omega)
      · rcases hfp1 x hx with h | h
        · exact .inl (by simp [h])
        · exact .inr h
    · rw [hsnoc]
      exact H7.ex hE8 (by simpa using hlb4)
    · intro x hx
      rcases hfp4 x hx with h | h
      · exact hfp1 x h
      · exact .inr (by omega)
    · rw [hvsnoc, rcs_append, rcs_one]
      exact hO7.ex hE8 fun g hg hmm => by have := (hown7 g hg).1; simp at hmm; omega
  · obtain rfl : i = N := by omega
    rw [hn, wIf_f]
    exact hk w2 v fp1 (hE1.trans hE2.nil) (H1.ex hE2 (by simp)) hfp1 hv1 (hO1.ex0 hE2) (B1.ex hE2 (by simp))
end
end Go.Dn
end
section
/-! Contracts of package seal: Make, Open. -/
set_option maxRecDepth 10000
set_option linter.unusedVariables false
set_option linter.unusedSimpArgs false
namespace Go.Dn
open Go
theorem splN_app {X l : List Nat} {n o : Nat} (h : o = X.length) (hl : l.length ≤ n) : splN (X ++ List.replicate n 0) o l = X ++ l ++ List.replicate (n - l.length) 0 := by
  subst h
  unfold splN
  rw [List.take_left' rfl, List.drop_append, List.drop_of_length_le (by omega), List.nil_append, List.drop_replicate]
  congr 2
  omega
theorem wcells_zero : wcells zeroS 0 0 = List.replicate 128 (Value.int .u8 0) ++ [.int .i64 0, .int .i64 0] := by
  unfold wcells zeroS
  rw [rep_bvs]
  rfl
section
variable {w : World} {K : Value → World → Prop}
theorem seal_Make {kind : Nat} {v : Value} {body : List Nat} {k : Value → World → Prop} (S : SlG w 1 v (bvs body)) (hkd : kind < 256) (hb : ∀ b ∈ body, b < 256) (hl : body.length ≤ 4000000)
    (hbad : kind = 0 ∨ 120 < body.length → ∀ w', Ex [] w w' → k (.tuple #[sv zeroS, .int .i64 1]) w') (hk : kind ≠ 0 → body.length ≤ 120 → ∀ w', Ex [] w w' → k (.tuple #[sv (sealS kind body), .int .i64 0]) w') :
    wCall P n_seal_Make [.int .u8 (kind : Int), v] w k := by
  refine call_seal_Make _ _ ?_
  unfold F_seal_Make
  refine alloc_i z_T_api_Sector (vs := List.replicate 128 (.int .u8 0)) rfl fun w1 g1 hg1 hE1 B1 => ?_
  have S1 := S.ex0 hE1
  simp only [bin_eql, S1.len_i (P := P) u_T_Luint8 (by omega) (n := body.length) (by rw [bvs_length]; omega), bin_gtr, or_p]
  refine wIf_i _ (fun hc => ?_) (fun hc => ?_)
  · simp only [Bool.or_eq_true, decide_eq_true_eq] at hc
    rw [bl_zero_sector]
    refine st_sector g_T_api_Sector zeroS_length B1 List.length_replicate fun w2 hE2 B2 => ?_
    refine res_sector g_T_api_Sector zeroS_length B2 ?_
    exact hbad (by omega) w2 (hE1.new hE2 (by omega))
  · simp only [Bool.or_eq_false_iff, decide_eq_false_iff_not] at hc
    have hk0 : kind ≠ 0 := by omega
    have hl2 : body.length ≤ 120 := by omega
    have l1 := hE1.le
    refine alloc_i z_T_num_Writer (vs := wcells zeroS 0 0) (by rw [wcells_zero]; rfl) fun w2 g2 hg2 hE2 B2 => ?_
    have l2 := hE2.le
    have e0 : zeroS = [] ++ List.replicate 128 0 := rfl
    refine num_Writer_Num (x := 19671) (wd := 2) B2 zeroS_length (by omega) (by omega) (by omega) (by omega) fun w3 hE3 B3 => ?_
    have e1 : splN zeroS 0 (low 19671 2) = [215, 76] ++ List.replicate 126 0 := by rw [e0, splN_app (X := []) (o := 0) rfl (by rw [low_length]; omega)]; rfl
    rw [e1, Nat.zero_add] at B3
    rw [conv_8_64 hkd]
    refine num_Writer_Num (x := kind) (wd := 1) B3 (by simp) (by omega) (by omega) (by omega) (by omega) fun w4 hE4 B4 => ?_
    have e2 : splN ([215, 76] ++ List.replicate 126 0) 2 (low kind 1) = [215, 76, kind] ++ List.replicate 125 0 := by
      rw [splN_app (X := [215, 76]) (o := 2) rfl (by rw [low_length]; omega), show low kind 1 = [kind] by simp [low]; omega]; rfl
    rw [e2] at B4
    have hx : ∀ {a b c : World}, Ex [] a b → Ex [g2] b c → a.heap.size ≤ g2 → Ex [] a c := fun h h' hle => h.new h' hle
    have E4 : Ex [] w1 w4 := (hE2.new hE3 (by omega)).new hE4 (by omega)
    have S4 := S1.ex0 E4
    rw [S4.len_i (P := P) u_T_Luint8 (by omega) (n := body.length) (by rw [bvs_length]; omega), conv_i_64 (by omega)]
    refine num_Writer_Num (x := body.length) (wd := 1) B4 (by simp) (by omega) (by omega) (by omega) (by omega) fun w5 hE5 B5 => ?_
    have e3 : splN ([215, 76, kind] ++ List.replicate 125 0) (2 + 1) (low body.length 1) = [215, 76, kind, body.length] ++ List.replicate 124 0 := by
      rw [splN_app (X := [215, 76, kind]) (o := 2 + 1) rfl (by rw [low_length]; omega), show low body.length 1 = [body.length] by simp [low]; omega]; rfl
    rw [e3] at B5
    have E5 : Ex [] w1 w5 := E4.new hE5 (by omega)
    have fin : ∀ w6, Ex [g2] w5 w6 → Blk w6 g2 T_num_Writer (wcells ([215, 76, kind, body.length] ++ body ++ List.replicate (124 - body.length) 0) (3 + 1 + 120) 0) →
        (wCall P n_num_Writer_Sector [ptr g2] w6 fun t28 w => wExtract P t28 0 w fun t29 w => wExtract P t28 1 w fun _ w => wAlloc P T_api_Sector w fun t7 w => wStore P T_api_Sector t7 t29 w fun w => wDraw w fun w =>
          wSlice P T_api_Sector t7 none none none w fun t31 w => wSlice P T_api_Sector t7 none (some (.int .i64 124)) none w fun t32 w => wCall P n_seal_Crc [t32] w fun t33 w => wConv P T_uint32 T_uint64 t33 w fun t34 w =>
          wCall P n_num_Put [t31, (.int .i64 124), (.int .i64 4), t34] w fun _ w => wLoad P T_api_Sector t7 w fun t36 w => wStore P T_api_Sector (ptr g1) t36 w fun w => wRes P T_api_Sector (ptr g1) w fun r4 => k (.tuple #[r4, (.int .i64 0)]) w) := by
      intro w6 hE6 B6
      generalize hs6 : [215, 76, kind, body.length] ++ body ++ List.replicate (124 - body.length) 0 = s6 at B6
      have hs6l : s6.length = 128 := by rw [← hs6]; simp; omega
      have hs6h : s6 = sealHead kind body ++ [0, 0, 0, 0] := by
        rw [← hs6]
        unfold sealHead
        rw [show 124 - body.length = (120 - body.length) + 4 by omega, ← List.replicate_append_replicate]
        simp
      refine num_Writer_Sector B6 hs6l fun w7 hE7 => ?_
      rw [ext_0, ext_1]
      refine alloc_i z_T_api_Sector (vs := List.replicate 128 (.int .u8 0)) rfl fun w8 g8 hg8 hE8 B8 => ?_
      refine st_sector g_T_api_Sector hs6l B8 List.length_replicate fun w9 hE9 B9 => ?_
      refine draw_i fun w10 hE10 _ => ?_
      have B10 := B9.ex hE10 (by simp)
      rw [sliceA_all a_T_api_Sector, sliceA_hi a_T_api_Sector (by omega) (by omega)]
      have hhl := sealHead_length (kind := kind) hl2
      have hhb := sealHead_lt hkd hl2 hb
      have hcl := crc_lt (sealHead kind body)
      have hS : SlG w10 1 (.slice (some ⟨g8, 0, none⟩) (124 : Int).toNat 128) (bvs (sealHead kind body)) := by
        refine SlG.of_cs (fun i x hx => ?_) (by rw [bvs_length, hhl]; rfl) (by omega)
        rw [Nat.zero_add, B10.cell, hs6h, bvs_append, List.getElem?_append_left (List.getElem?_eq_some_iff.1 hx).1]
        exact hx
      refine seal_Crc hS hhb (by omega) ?_
      rw [conv_32_64 hcl]
      refine num_Put (o := 0) (cs := bvs s6) B10 (by rw [bvs_length]; omega) (by omega) (by omega) (by omega) (fun hno => absurd ⟨by omega, by omega, by omega, by omega, by simpa using hcl⟩ hno) fun _ w11 hE11 B11 => ?_
      have e11 : splice (bvs s6) (0 + (124 : Int).toNat) (bvs (low (crc (sealHead kind body)) (4 : Int).toNat)) = bvs (sealS kind body) := by
        rw [hs6h, bvs_append]
        unfold splice sealS
        rw [bvs_append, show 0 + (124 : Int).toNat = 124 from rfl, List.take_left' (by rw [bvs_length, hhl]), List.drop_of_length_le (by simp [bvs_length, hhl, low_length]), List.append_nil]
        rfl
      rw [e11] at B11
      have hsn := sealS_length (kind := kind) hl2
      have l5 := E5.le
      have l6 := hE6.le
      have l7 := hE7.le
      have l8 := hE8.le
      have E6 : Ex [] w1 w6 := E5.new hE6 (by omega)
      have E11 : Ex [] w1 w11 := ((((E6.trans hE7).trans hE8).step hE9 (by simp; omega)).trans hE10).step hE11 (by simp; omega)
      rw [ld_sector g_T_api_Sector hsn B11]
      have B1' := B1.ex E11 (by simp)
      refine st_sector g_T_api_Sector hsn B1' List.length_replicate fun w12 hE12 B12 => ?_
      refine res_sector g_T_api_Sector hsn B12 ?_
      exact hk hk0 hl2 w12 ((hE1.trans E11).new hE12 (by omega))
    have S5 := S1.ex0 E5
    refine num_Writer_Bytes (n := 120) B5 (by simp) S5 (by omega) (by omega) fun w6 hE6 B6 => ?_
    have e4 : splN ([215, 76, kind, body.length] ++ List.replicate 124 0) (2 + 1 + 1) body = [215, 76, kind, body.length] ++ body ++ List.replicate (124 - body.length) 0 := splN_app rfl (by omega)
    rw [e4] at B6
    exact fin w6 hE6 B6
theorem seal_Open {s : List Nat} {k : Value → World → Prop} (hs : s.length = 128) (hb : ∀ b ∈ s, b < 256)
    (hbad : sealOp s = none → ∀ w', Ex [] w w' → k (.tuple #[.int .u8 0, .slice none 0 0, .int .i64 21]) w')
    (hk : ∀ kind body, sealOp s = some (kind, body) → ∀ v w', Ex [] w w' → Own w' w.heap.size T_uint8 1 v (bvs body) → k (.tuple #[.int .u8 (kind : Int), v, .int .i64 0]) w') : wCall P n_seal_Open [sv s] w k := by
  refine call_seal_Open _ ?_
  unfold F_seal_Open
  refine box_i (sv_cells s) fun w1 g1 hg1 hE1 B1 => ?_
  have l1 := hE1.le
  rw [ld_sector g_T_api_Sector hs B1]
  refine num_Read hs fun w2 g2 hg2 hE2 B2 => ?_
  have l2 := hE2.le
  refine num_Reader_Num (wd := 2) B2 hs hb (by omega) (by omega) fun w3 hE3 B3 => ?_
  refine num_Reader_Num (wd := 1) B3 hs hb (by omega) (by omega) fun w4 hE4 B4 => ?_
  have hat : ∀ i, i < 128 → numOf ((s.drop i).take 1) = s.getD i 0 := by
    intro i hi
    rw [List.drop_eq_getElem_cons (by omega), List.take_succ_cons, List.take_zero, List.getD_eq_getElem?_getD, List.getElem?_eq_getElem (by omega)]
    simp [numOf]
  have hk2 := getD_lt hb 2
  have hk3 := getD_lt hb 3
  rw [hat _ (by omega), show 0 + 2 = 2 from rfl, conv_64_8, Nat.mod_eq_of_lt hk2]
  refine num_Reader_Num (wd := 1) B4 hs hb (by omega) (by omega) fun w5 hE5 B5 => ?_
  rw [hat _ (by omega), show 0 + 2 + 1 = 3 from rfl, conv_i i_T_uint64 i_T_int, IntWalk.i64_in _ (by omega), bin_gtr]
  have E5 : Ex [] w1 w5 := ((hE2.new hE3 (by omega)).new hE4 (by omega)).new hE5 (by omega)
  refine wIf_d (fun hgt => ?_) (fun hle => ?_)
  · exact hbad (by unfold sealOp; rw [if_pos (by omega)]) w5 (hE1.trans E5)
  · have l5 := E5.le
    refine num_Reader_Bytes B5 hs (by omega) fun v w6 hE6 B6 hO6 => ?_
    have hbody : (s.drop (0 + 2 + 1 + 1)).take (s.getD 3 0) = bodyS s := rfl
    rw [hbody] at hO6
    have hbl := bodyS_length hs (by omega)
    have E6 : Ex [] w1 w6 := E5.new hE6 (by omega)
    have fin : ∀ e m w7, m.length = 128 → Ex [] w6 w7 → (e = (0 : Int) ∧ m = s ↔ sealMk (s.getD 2 0) (bodyS s) = some s) →
        (wExtract P (.tuple #[sv m, .int .i64 e]) 0 w7 fun t30 w => wExtract P (.tuple #[sv m, .int .i64 e]) 1 w fun t31 w => wAlloc P T_api_Sector w fun t9 w => wStore P T_api_Sector t9 t30 w fun w => wBin P .neq T_api_Errno t31 (.int .i64 0) w fun t33 w =>
          wGrp t33 false (fun k37 => wLoad P T_api_Sector t9 w fun t35 w => wLoad P T_api_Sector (ptr g1) w fun t36 w => wBin P .neq T_api_Sector t35 t36 w fun t37 w => k37 t37 w) w fun _ t37 w =>
          wPick t33 (.bool true) t37 w fun t38 w => wIf t38 (k (.tuple #[(.int .u8 0), (.slice none 0 0), (.int .i64 21)]) w) (k (.tuple #[.int .u8 (s.getD 2 0 : Nat), v, (.int .i64 0)]) w)) := by
      intro e m w7 hm hE7 hiff
      have l6 := hE6.le
      have l7 := hE7.le
      rw [ext_0, ext_1]
      refine alloc_i z_T_api_Sector (vs := List.replicate 128 (.int .u8 0)) rfl fun w8 g8 hg8 hE8 B8 => ?_
      refine st_sector g_T_api_Sector hm B8 List.length_replicate fun w9 hE9 B9 => ?_
      have E9 : Ex [] w7 w9 := hE8.new hE9 (by omega)
      have B19 := ((B1.ex E6 (by simp)).ex hE7 (by simp)).ex E9 (by simp)
      rw [bin_neq]
      refine or_i (r := !decide (m = s)) (fun _ k2 hk2 => ?_) ?_
      · rw [ld_sector g_T_api_Sector hm B9, ld_sector g_T_api_Sector hs B19, ne_sector hm hs]
        exact hk2
      · refine wIf_i _ (fun hc => ?_) (fun hc => ?_)
        · refine hbad ?_ w9 (((hE1.trans E6).trans hE7).trans E9)
          unfold sealOp
          rw [if_neg (by omega), if_neg]
          intro h
          obtain ⟨h1, h2⟩ := hiff.2 h
          rw [h1, h2] at hc
          simp at hc
        · simp only [Bool.or_eq_false_iff, decide_eq_false_iff_not, Bool.not_eq_false', decide_eq_true_eq] at hc
          refine hk _ _ ?_ v w9 (((hE1.trans E6).trans hE7).trans E9) (((hO6.ex0 hE7).ex0 E9).base (by omega))
          unfold sealOp
          rw [if_neg (by omega), if_pos (hiff.1 ⟨by omega, hc.2⟩)]
    refine seal_Make hO6.slg hk2 (bodyS_lt hb) (by omega) (fun hc w7 hE7 => ?_) (fun h0 hl2 w7 hE7 => ?_)
    · refine fin 1 zeroS w7 zeroS_length hE7 ?_
      constructor
      · intro h; omega
      · intro h
        unfold sealMk at h
        rw [if_pos hc] at h
        cases h
    · refine fin 0 _ w7 (sealS_length hl2) hE7 ?_
      unfold sealMk
      rw [if_neg (by omega)]
      simp
end
end Go.Dn
end
section
/-! Records and lists of records as sealed sectors, and back. -/
set_option maxRecDepth 10000
set_option linter.unusedVariables false
set_option linter.unusedSimpArgs false
namespace Go.Dn
open Go
def writeR (kind : Nat) (ws : List Nat) (m : List Int → Bool) (r : List Int) : Option (List Nat) := if m r = true ∧ okNs ws r = true then sealMk kind (encF ws r) else none
def writeL (kind : Nat) (ws : List Nat) (m : List (List Int) → Bool) (rs : List (List Int)) : Option (List Nat) := if m rs = true ∧ okR ws rs = true then sealMk kind (encR ws rs) else none
def recsOf (ws : List Nat) (body : List Nat) : Option (List (List Int)) := if body.length % ws.sum = 0 then some (decR ws body (body.length / ws.sum)) else none
def readR (kind : Nat) (ws : List Nat) (m : List Int → Bool) (s : List Nat) : Option (List Int) :=
  match sealOp s with
  | some (k, body) => if k = kind ∧ body.length = ws.sum ∧ m (decF ws body) = true then some (decF ws body) else none
  | none => none
def readL (kind : Nat) (ws : List Nat) (m : List (List Int) → Bool) (s : List Nat) : Option (List (List Int)) :=
  match sealOp s with
  | some (k, body) => if k = kind then (match recsOf ws body with | some rs => if m rs = true then some rs else none | none => none) else none
  | none => none
/-- What a writing function hands back. -/
def wrV (o : Option (List Nat)) : Value := .tuple #[sv (o.getD zeroS), .int .i64 (if o.isSome then 0 else 1)]
def G_write (TX : TypeId) (a0 a1 a2 a3 : Value) (w : World) (k : Value → World → Prop) : Prop :=
  wBox P TX a1 w fun t5 w =>
  wAlloc P T_api_Sector w fun t8 w =>
  wBuild P T_codec_writer [] w fun t11 w =>
  wBox P T_codec_writer t11 w fun t12 w =>
  wLoad P TX t5 w fun t14 w =>
  wCallV P a3 [t14] w fun t15 w =>
  wUn P .not t15 w fun t16 w =>
  wIf t16 (
    wBuild P T_api_Sector [] w fun t17 w =>
    wStore P T_api_Sector t8 t17 w fun w =>
    wRes P T_api_Sector t8 w fun r8 =>
    k (.tuple #[r8, (.int .i64 1)]) w) (
    wIface P T_pcodec_writer t12 w fun t20 w =>
    wCallV P a2 [t20, t5] w fun _ w =>
    wNil P t12 w fun t23 w =>
    wFieldA P T_codec_writer t23 1 w fun t24 w =>
    wLoad P T_bool t24 w fun t25 w =>
    wIf t25 (
      wBuild P T_api_Sector [] w fun t26 w =>
      wStore P T_api_Sector t8 t26 w fun w =>
      wRes P T_api_Sector t8 w fun r8 =>
      k (.tuple #[r8, (.int .i64 1)]) w) (
      wNil P t12 w fun t29 w =>
      wFieldA P T_codec_writer t29 0 w fun t30 w =>
      wLoad P T_Luint8 t30 w fun t31 w =>
      wCall P n_seal_Make [a0, t31] w fun t32 w =>
      wExtract P t32 0 w fun t33 w =>
      wExtract P t32 1 w fun t34 w =>
      wStore P T_api_Sector t8 t33 w fun w =>
      wRes P T_api_Sector t8 w fun r8 =>
      k (.tuple #[r8, t34]) w))
theorem u_pwriter : P.underlying T_pcodec_writer = some (.pointer T_codec_writer) := by kernel_rfl
theorem u_preader : P.underlying T_pcodec_reader = some (.pointer T_codec_reader) := by kernel_rfl
theorem sealMk_len {kind : Nat} {body s : List Nat} (h : sealMk kind body = some s) : s.length = 128 := by
  unfold sealMk at h
  split at h
  · cases h
  · injection h with h
    rw [← h]
    exact sealS_length (by omega)
section
variable {w : World}
/-- A thing is written: m, may it be; what its pass leaves in the writer. -/
theorem write_i {TX : TypeId} {kind : Nat} {x a2 a3 : Value} {xs : List Value} {m : Bool} {st : List Nat × Bool} {k : Value → World → Prop} (hkd : kind < 256) (hxc : x.cells = ⟨xs⟩) (hld : ∀ (w' : World) (g : Nat) (K : Value → World → Prop), Blk w' g TX xs → wLoad P TX (ptr g) w' K = K x w')
    (hst : st.1.length ≤ 1000000)
    (hmay : ∀ w1, Ex [] w w1 → ∀ k1 : Value → World → Prop, (∀ w', Ex [] w1 w' → k1 (.bool m) w') → wCallV P a3 [x] w1 k1)
    (hpass : ∀ w1 g h, Ex [] w w1 → Blk w1 g TX xs → WrS h w1 ([], false) [h] → w.heap.size ≤ g → w.heap.size ≤ h → g ≠ h → ∀ k1 : Value → World → Prop,
      (∀ w' fp', Ex [g, h] w1 w' → WrS h w' st fp' → (∀ y ∈ fp', y = h ∨ w1.heap.size ≤ y) → k1 (.tuple #[]) w') → wCallV P a2 [.iface T_pcodec_writer (ptr h), ptr g] w1 k1)
    (hk : ∀ w', Ex [] w w' → k (wrV (if m = true ∧ st.2 = false then sealMk kind st.1 else none)) w') : G_write TX (.int .u8 (kind : Int)) x a2 a3 w k := by
  unfold G_write
  refine box_i hxc fun w1 g1 hg1 hE1 B1 => ?_
  refine alloc_i z_T_api_Sector (vs := List.replicate 128 (.int .u8 0)) rfl fun w2 g2 hg2 hE2 B2 => ?_
  rw [bl_T_codec_writer (cs := [.slice none 0 0, .bool false]) fill_nil]
  refine box_i (vs := [.slice none 0 0, .bool false]) rfl fun w3 g3 hg3 hE3 B3 => ?_
  have l1 := hE1.le
  have l2 := hE2.le
  have l3 := hE3.le
  have lt1 := B1.lt
  have lt2 := B2.lt
  have B1' := (B1.ex hE2 (by simp)).ex hE3 (by simp)
  have B2' := B2.ex hE3 (by simp)
  have E3 : Ex [] w w3 := (hE1.trans hE2).trans hE3
  rw [hld _ _ _ B1']
  refine hmay w3 E3 _ fun w4 hE4 => ?_
  have l4 := hE4.le
  rw [un_not]
  have none_ : ∀ w5, Ex [] w w5 → Blk w5 g2 T_api_Sector (List.replicate 128 (.int .u8 0)) → (m = true ∧ st.2 = false → False) →
      (wBuild P T_api_Sector [] w5 fun t17 w => wStore P T_api_Sector (ptr g2) t17 w fun w => wRes P T_api_Sector (ptr g2) w fun r8 => k (.tuple #[r8, (.int .i64 1)]) w) := by
    intro w5 hE5 B5 hn
    rw [bl_zero_sector]
    refine st_sector g_T_api_Sector zeroS_length B5 List.length_replicate fun w6 hE6 B6 => ?_
    refine res_sector g_T_api_Sector zeroS_length B6 ?_
    have := hk w6 (hE5.new hE6 (by omega))
    rw [if_neg hn] at this
    exact this
  cases hm : m with
  | false =>
    rw [show (!false) = true from rfl, wIf_t]
    exact none_ w4 (E3.trans hE4) (B2'.ex hE4 (by simp)) (by simp [hm])
  | true =>
    rw [show (!true) = false from rfl, wIf_f, iface_i u_pwriter]
    have hWr : WrS g3 w3 ([], false) [g3] := ⟨.slice none 0 0, B3, Own.nil _ _ _ _, by simp, rfl⟩
    refine hpass w4 g1 g3 (E3.trans hE4) (B1'.ex hE4 (by simp)) (hWr.ex hE4 (by simp)) (by omega) (by omega) (by omega) _ fun w5 fp5 hE5 H5 hfp5 => ?_
    have hg2fp : g2 ∉ [g1, g3] := by simp; omega
    have B25 := (B2'.ex hE4 (by simp)).ex hE5 hg2fp
    have E5 : Ex [] w w5 := (E3.trans hE4).step hE5 (by intro y hy; simp at hy; omega)
    obtain ⟨v, hB, hO, hl, hfp⟩ := H5
    simp only [nil_ptr, fA_T_codec_writer_0, fA_T_codec_writer_1, Nat.zero_add]
    rw [ld_one o_T_bool (hB.cell 1)]
    cases hb : st.2 with
    | true =>
      rw [wIf_t]
      exact none_ w5 E5 B25 (by simp [hb])
    | false =>
      rw [wIf_f, ld_one o_T_Luint8 (hB.cell 0)]
      have fin : ∀ s e w6, s.length = 128 → Ex [] w5 w6 → wrV (sealMk kind st.1) = .tuple #[sv s, .int .i64 e] →
          (wExtract P (.tuple #[sv s, .int .i64 e]) 0 w6 fun t33 w => wExtract P (.tuple #[sv s, .int .i64 e]) 1 w fun t34 w => wStore P T_api_Sector (ptr g2) t33 w fun w => wRes P T_api_Sector (ptr g2) w fun r8 => k (.tuple #[r8, t34]) w) := by
        intro s e w6 hs hE6 hv
        rw [ext_0, ext_1]
        refine st_sector g_T_api_Sector hs (B25.ex hE6 (by simp)) List.length_replicate fun w7 hE7 B7 => ?_
        refine res_sector g_T_api_Sector hs B7 ?_
        have := hk w7 ((E5.trans hE6).new hE7 (by omega))
        rw [if_pos ⟨hm, hb⟩, hv] at this
        exact this
      refine seal_Make hO.slg hkd hl (by omega) (fun hc w6 hE6 => fin zeroS 1 w6 zeroS_length hE6 ?_) (fun h0 hl2 w6 hE6 => fin _ 0 w6 (sealS_length hl2) hE6 ?_)
      · unfold wrV sealMk
        rw [if_pos hc]
        rfl
      · unfold wrV sealMk
        rw [if_neg (by omega)]
        rfl
theorem ld_aggT {TX : TypeId} {n : Nat} {xs : List Value} (hT : aggT P TX n = true) (hl : xs.length = n) (w' : World) (g : Nat) (K : Value → World → Prop) (B : Blk w' g TX xs) : wLoad P TX (ptr g) w' K = K (.agg ⟨xs⟩) w' := ld_agg hT B.all hl
theorem ld_oneT {TX : TypeId} {v : Value} (hT : oneT P TX = true) (w' : World) (g : Nat) (K : Value → World → Prop) (B : Blk w' g TX [v]) : wLoad P TX (ptr g) w' K = K v w' := ld_one hT (B.cell 0)
/-- A record is written. -/
theorem write_rec {TX : TypeId} {n np : FuncId} {ks : List IntKind} {ws : List Nat} {kind : Nat} {a3 : Value} {r : List Int} {m : List Int → Bool} {k : Value → World → Prop} (hW : ∀ {a0 a1 a2 a3 : Value} {w : World} {k : Value → World → Prop}, G_write TX a0 a1 a2 a3 w k → wCall P n [a0, a1, a2, a3] w k)
    (hT : aggT P TX ks.length = true) (hP : PassC np ks ws) (hw : ws.length = ks.length) (hws : ws.sum ≤ 1000) (hr : r.length = ks.length) (hin : inR ks r) (hkd : kind < 256)
    (hmay : ∀ (w1 : World) (k1 : Value → World → Prop), (∀ w', Ex [] w1 w' → k1 (.bool (m r)) w') → wCallV P a3 [.agg ⟨rc ks r⟩] w1 k1)
    (hk : ∀ w', Ex [] w w' → k (wrV (writeR kind ws m r)) w') : wCall P n [.int .u8 (kind : Int), .agg ⟨rc ks r⟩, .func (.func np) #[] #[], a3] w k := by
  refine hW (write_i (st := runS wstp ([], false) ws r) hkd rfl (ld_aggT hT (rc_length hr)) ?_ (fun w1 _ k1 hk1 => hmay w1 k1 hk1) (fun w1 g h hE B H hg hh hgh k1 hk1 => ?_) fun w' hE => ?_)
  · rw [runS_w_len ws r _ (by rw [hw, hr])]; simp; omega
  · rw [callv_0]
    refine hP (wform h) (A := []) (C := []) H (by simpa using B) (by simpa using hgh) hr hin (show ([] : List Nat).length ≤ 900000 by simp) fun w' fp' hE' H' hfp' _ => ?_
    exact hk1 w' fp' hE' H' fun y hy => by have := hfp' y hy; simpa using this
  · have := hk w' hE
    have e : writeR kind ws m r = (if m r = true ∧ (runS wstp ([], false) ws r).2 = false then sealMk kind (runS wstp ([], false) ws r).1 else none) := by
      unfold writeR
      rw [runS_w_bad]
      cases ho : okNs ws r with
      | false => simp
      | true => simp [runS_w_ok ws r _ ho]
    rw [← e]
    exact this
/-- A list of records is written. -/
theorem write_list {TL TE : TypeId} {n nl np nP : FuncId} {ks : List IntKind} {ws : List Nat} {kind : Nat} {v a3 : Value} {rs : List (List Int)} {m : List (List Int) → Bool} {k : Value → World → Prop} (hW : ∀ {a0 a1 a2 a3 : Value} {w : World} {k : Value → World → Prop}, G_write TL a0 a1 a2 a3 w k → wCall P n [a0, a1, a2, a3] w k)
    (E : ElT TL TE ks) (hL : ListC nl TL TE) (hP : PassC np ks ws) (hpL : ∀ {a0 a1 : Value} {w : World} {k : Value → World → Prop}, (wCall P nl [a0, a1, (.func (.func np) #[] #[])] w fun _ w => k (.tuple #[]) w) → wCall P nP [a0, a1] w k)
    (hw : ws.length = ks.length) (hws : ws.sum ≤ 100) (S : SlB w TE ks.length v (rcs ks rs)) (hlen : lenR ks rs) (hin : ∀ r ∈ rs, inR ks r) (hn : rs.length ≤ 1000) (hkd : kind < 256)
    (hmay : ∀ (w1 : World) (k1 : Value → World → Prop), SlB w1 TE ks.length v (rcs ks rs) → (∀ w', Ex [] w1 w' → k1 (.bool (m rs)) w') → wCallV P a3 [v] w1 k1)
    (hk : ∀ w', Ex [] w w' → k (wrV (writeL kind ws m rs)) w') : wCall P n [.int .u8 (kind : Int), v, .func (.func nP) #[] #[], a3] w k := by
  have hvc : v.cells = ⟨[v]⟩ := by
    rcases S with ⟨rfl, _⟩ | ⟨b, A, C, n, c, rfl, _⟩ <;> rfl
  have hmul : rs.length * ws.sum ≤ 1000 * 100 := Nat.mul_le_mul hn hws
  refine hW (write_i (st := runRS wstp ws ([], false) rs) hkd hvc (ld_oneT E.o) ?_ (fun w1 hE k1 hk1 => hmay w1 k1 (S.ex0 hE) hk1) (fun w1 g h hE B H hg hh hgh k1 hk1 => ?_) fun w' hE => ?_)
  · rw [runRS_w_len hw rs _ hlen]; simp; omega
  · rw [callv_0]
    refine hpL ?_
    refine list_wr E hL hP H B (lo := 0) rfl (by simpa using hgh) (S.ex0 hE) (fun g' hg' hm => ?_) hlen hw hin hn (by simp; omega) fun w' fp' hE' H' hfp' => ?_
    · have := S.bd g' hg'
      simp at hm
      omega
    · exact hk1 w' fp' (hE'.mono (by simp +contextual)) H' fun y hy => by have := hfp' y hy; simpa using this
  · have := hk w' hE
    have e : writeL kind ws m rs = (if m rs = true ∧ (runRS wstp ws ([], false) rs).2 = false then sealMk kind (runRS wstp ws ([], false) rs).1 else none) := by
      unfold writeL
      rw [runRS_w_bad]
      cases ho : okR ws rs with
      | false => simp
      | true => simp [runRS_w_ok ws rs _ ho]
    rw [← e]
    exact this
end
end Go.Dn
end
section
/-! Records and lists of records are read. -/
set_option maxRecDepth 10000
set_option linter.unusedVariables false
set_option linter.unusedSimpArgs false
namespace Go.Dn
open Go
def G_readS (TX : TypeId) (a0 a1 a2 a3 : Value) (w : World) (k : Value → World → Prop) : Prop :=
  wBox P T_api_Sector a1 w fun t5 w =>
  wAlloc P TX w fun t8 w =>
  wAlloc P TX w fun t10 w =>
  wAlloc P TX w fun t11 w =>
  wLoad P T_api_Sector t5 w fun t17 w =>
  wCall P n_seal_Open [t17] w fun t18 w =>
  wExtract P t18 0 w fun t19 w =>
  wExtract P t18 1 w fun t20 w =>
  wExtract P t18 2 w fun t21 w =>
  wBin P .neq T_api_Errno t21 (.int .i64 0) w fun t23 w =>
  wGrp t23 false (fun k27 =>
    wBin P .neq T_uint8 t19 a0 w fun t27 w =>
    k27 t27 w) w fun _ t27 w =>
  wPick t23 (.bool true) t27 w fun t28 w =>
  wIf t28 (
    wLoad P TX t11 w fun t29 w =>
    wStore P TX t8 t29 w fun w =>
    wRes P TX t8 w fun r8 =>
    k (.tuple #[r8, (.int .i64 21)]) w) (
    wBuild P T_codec_reader [(0, t20)] w fun t31 w =>
    wBox P T_codec_reader t31 w fun t32 w =>
    wIface P T_pcodec_reader t32 w fun t35 w =>
    wCallV P a2 [t35, t10] w fun _ w =>
    wNil P t32 w fun t38 w =>
    wFieldA P T_codec_reader t38 2 w fun t39 w =>
    wLoad P T_bool t39 w fun t40 w =>
    wGrp t40 false (fun k48 =>
      wNil P t32 w fun t43 w =>
      wFieldA P T_codec_reader t43 1 w fun t44 w =>
      wLoad P T_int t44 w fun t45 w =>
      wLen P .len #[T_Luint8] [t20] w fun t47 w =>
      wBin P .neq T_int t45 t47 w fun t48 w =>
      k48 t48 w) w fun _ t48 w =>
    wPick t40 (.bool true) t48 w fun t49 w =>
    wGrp t49 false (fun k54 =>
      wLoad P TX t10 w fun t52 w =>
      wCallV P a3 [t52] w fun t53 w =>
      wUn P .not t53 w fun t54 w =>
      k54 t54 w) w fun _ t54 w =>
    wPick t49 (.bool true) t54 w fun t55 w =>
    wIf t55 (
      wLoad P TX t11 w fun t56 w =>
      wStore P TX t8 t56 w fun w =>
      wRes P TX t8 w fun r8 =>
      k (.tuple #[r8, (.int .i64 21)]) w) (
      wLoad P TX t10 w fun t57 w =>
      wStore P TX t8 t57 w fun w =>
      wRes P TX t8 w fun r8 =>
      k (.tuple #[r8, (.int .i64 0)]) w))
def G_readL (TX : TypeId) (a0 a1 a2 a3 : Value) (w : World) (k : Value → World → Prop) : Prop :=
  wBox P T_api_Sector a1 w fun t5 w =>
  wAlloc P TX w fun t10 w =>
  wLoad P T_api_Sector t5 w fun t17 w =>
  wCall P n_seal_Open [t17] w fun t18 w =>
  wExtract P t18 0 w fun t19 w =>
  wExtract P t18 1 w fun t20 w =>
  wExtract P t18 2 w fun t21 w =>
  wBin P .neq T_api_Errno t21 (.int .i64 0) w fun t23 w =>
  wGrp t23 false (fun k27 =>
    wBin P .neq T_uint8 t19 a0 w fun t27 w =>
    k27 t27 w) w fun _ t27 w =>
  wPick t23 (.bool true) t27 w fun t28 w =>
  wIf t28 (
    k (.tuple #[(.slice none 0 0), (.int .i64 21)]) w) (
    wBuild P T_codec_reader [(0, t20)] w fun t31 w =>
    wBox P T_codec_reader t31 w fun t32 w =>
    wIface P T_pcodec_reader t32 w fun t35 w =>
    wCallV P a2 [t35, t10] w fun _ w =>
    wNil P t32 w fun t38 w =>
    wFieldA P T_codec_reader t38 2 w fun t39 w =>
    wLoad P T_bool t39 w fun t40 w =>
    wGrp t40 false (fun k48 =>
      wNil P t32 w fun t43 w =>
      wFieldA P T_codec_reader t43 1 w fun t44 w =>
      wLoad P T_int t44 w fun t45 w =>
      wLen P .len #[T_Luint8] [t20] w fun t47 w =>
      wBin P .neq T_int t45 t47 w fun t48 w =>
      k48 t48 w) w fun _ t48 w =>
    wPick t40 (.bool true) t48 w fun t49 w =>
    wGrp t49 false (fun k54 =>
      wLoad P TX t10 w fun t52 w =>
      wCallV P a3 [t52] w fun t53 w =>
      wUn P .not t53 w fun t54 w =>
      k54 t54 w) w fun _ t54 w =>
    wPick t49 (.bool true) t54 w fun t55 w =>
    wIf t55 (
      k (.tuple #[(.slice none 0 0), (.int .i64 21)]) w) (
      wLoad P TX t10 w fun t57 w =>
      k (.tuple #[t57, (.int .i64 0)]) w))
theorem sealOp_len {s : List Nat} {kind : Nat} {body : List Nat} (h : sealOp s = some (kind, body)) : body.length ≤ 120 := (sealOp_some h).2.1
theorem sealOp_lt {s : List Nat} (hb : ∀ b ∈ s, b < 256) {kind : Nat} {body : List Nat} (h : sealOp s = some (kind, body)) : kind < 256 ∧ ∀ b ∈ body, b < 256 := by
  unfold sealOp at h
  split at h
  · cases h
  · split at h
    · injection h with h
      injection h with h1 h2
      subst h1; subst h2
      exact ⟨getD_lt hb 2, bodyS_lt hb⟩
    · cases h
/-- How many records a form that reads goes through. -/
theorem rd_count {ks : List IntKind} {ws : List Nat} (body : List Nat) (hw : ws.length = ks.length) (hpos : 0 < ws.sum) (hl : body.length ≤ 120) :
    ∃ N, N ≤ 121 ∧ (∀ i, i < N → rmore body (runRS (rstp body) ws (0, false) (List.replicate i (zs ks))) = true) ∧ rmore body (runRS (rstp body) ws (0, false) (List.replicate N (zs ks))) = false ∧
      ((recsOf ws body = none ∧ (runRS (rstp body) ws (0, false) (List.replicate N (zs ks))).2 = true) ∨
       (∃ rs, recsOf ws body = some rs ∧ runRS (rstp body) ws (0, false) (List.replicate N (zs ks)) = (body.length, false) ∧ runRV (rstp body) (rval body) ws (0, false) (List.replicate N (zs ks)) = rs)) := by
  have hne : ws ≠ [] := fun h => by rw [h] at hpos; simp at hpos
  have st : ∀ i, i * ws.sum ≤ body.length → runRS (rstp body) ws (0, false) (List.replicate i (zs ks)) = (i * ws.sum, false) ∧ runRV (rstp body) (rval body) ws (0, false) (List.replicate i (zs ks)) = decR ws body i := by
    intro i
    induction i with
    | zero => intro _; exact ⟨by simp [runRS], rfl⟩
    | succ i ih =>
      intro h
      rw [Nat.succ_mul] at h
      obtain ⟨h1, h2⟩ := ih (by omega)
      have hr := runS_r body ws (zs ks) (i * ws.sum, false) (by rw [hw, zs_length])
      refine ⟨?_, ?_⟩
      · rw [List.replicate_succ', runRS_snoc, h1]
        refine Prod.ext ?_ ?_
        · rw [hr.1, Nat.succ_mul]
        · cases hb : (runS (rstp body) (i * ws.sum, false) ws (zs ks)).2 with
          | false => rfl
          | true =>
            rcases hr.2.1 hb with h' | ⟨_, h'⟩
            · cases h'
            · exfalso; simp only at h'; omega
      · rw [List.replicate_succ', runRV_snoc, h1, h2, decR_snoc, runV_r body ws (zs ks) (i * ws.sum, false) (by rw [hw, zs_length]) (by simp only; omega)]
  have hdm := Nat.div_add_mod body.length ws.sum
  have hmod := Nat.mod_lt body.length hpos
  have hq : body.length / ws.sum ≤ body.length := Nat.div_le_self _ _
  have hmul : body.length / ws.sum * ws.sum = ws.sum * (body.length / ws.sum) := Nat.mul_comm _ _
  have more : ∀ i, i * ws.sum < body.length → rmore body (runRS (rstp body) ws (0, false) (List.replicate i (zs ks))) = true := by
    intro i hi
    rw [(st i (by omega)).1]
    simp [rmore, hi]
  by_cases h0 : body.length % ws.sum = 0
  · refine ⟨body.length / ws.sum, by omega, fun i hi => more i ?_, ?_, .inr ⟨decR ws body (body.length / ws.sum), ?_, ?_, ?_⟩⟩
    · have := Nat.mul_le_mul_right ws.sum (show i + 1 ≤ body.length / ws.sum by omega)
      rw [Nat.succ_mul] at this
      omega
    · rw [(st _ (by omega)).1]
      simp [rmore]; omega
    · unfold recsOf; rw [if_pos h0]
    · rw [(st _ (by omega)).1]
      congr 1
      omega
    · exact (st _ (by omega)).2
  · have hs := st (body.length / ws.sum) (by omega)
    have hr := runS_r body ws (zs ks) (body.length / ws.sum * ws.sum, false) (by rw [hw, zs_length])
    have hbad : (runRS (rstp body) ws (0, false) (List.replicate (body.length / ws.sum + 1) (zs ks))).2 = true := by
      rw [List.replicate_succ', runRS_snoc, hs.1]
      exact hr.2.2 (.inr ⟨hne, by simp only; omega⟩)
    refine ⟨body.length / ws.sum + 1, by omega, fun i hi => more i ?_, ?_, .inl ⟨by unfold recsOf; rw [if_neg h0], hbad⟩⟩
    · have := Nat.mul_le_mul_right ws.sum (show i ≤ body.length / ws.sum by omega)
      omega
    · unfold rmore
      rw [hbad]; rfl
section
variable {w : World}
theorem rd_new {bv : Value} {body : List Nat} {K : Value → World → Prop} (hO : Own w 0 T_uint8 1 bv (bvs body)) (hb : ∀ b ∈ body, b < 256) (hl : body.length ≤ 120)
    (hk : ∀ w' h, w.heap.size ≤ h → Ex [] w w' → RdS h body w' (0, false) (h :: bv.ownBlock.toList) → K (ptr h) w') :
    wBuild P T_codec_reader [(0, bv)] w fun t31 w => wBox P T_codec_reader t31 w K := by
  have hbc : bv.cells = ⟨[bv]⟩ := by
    obtain ⟨n, hl, h⟩ := hO
    rcases h with ⟨rfl, _⟩ | ⟨g, cap, cur, rfl, _⟩ <;> rfl
  rw [bl_T_codec_reader (cs := [bv, .int .i64 0, .bool false]) (by rw [fill_cons (off := 0) (size := 1) rfl hbc rfl (by simp)]; exact fill_nil)]
  refine box_i (vs := [bv, .int .i64 0, .bool false]) rfl fun w1 g1 hg1 hE1 B1 => ?_
  refine hk w1 g1 (by omega) hE1 ⟨bv, B1, (hO.ex0 hE1).slg, hb, by omega, fun g hg => ?_, rfl⟩
  have := (hO.blk hg).2.1
  have := B1.lt
  have := hE1.le
  exact ⟨by omega, by omega⟩
/-- A list of records is read. -/
theorem read_list {TL TE : TypeId} {n nl np nP : FuncId} {ks : List IntKind} {ws : List Nat} {kind : Nat} {a3 : Value} {s : List Nat} {m : List (List Int) → Bool} {k : Value → World → Prop} (hW : ∀ {a0 a1 a2 a3 : Value} {w : World} {k : Value → World → Prop}, G_readL TL a0 a1 a2 a3 w k → wCall P n [a0, a1, a2, a3] w k)
    (E : ElT TL TE ks) (hzL : zeroT P TL = some (.slice none 0 0)) (hL : ListC nl TL TE) (hP : PassC np ks ws) (hpL : ∀ {a0 a1 : Value} {w : World} {k : Value → World → Prop}, (wCall P nl [a0, a1, (.func (.func np) #[] #[])] w fun _ w => k (.tuple #[]) w) → wCall P nP [a0, a1] w k)
    (hw : ws.length = ks.length) (hws : 0 < ws.sum ∧ ws.sum ≤ 1000) (hs : s.length = 128) (hb : ∀ b ∈ s, b < 256) (hkd : kind < 256)
    (hmay : ∀ (w1 : World) (rs : List (List Int)) (v : Value) (base : Nat) (k1 : Value → World → Prop), Own w1 base TE ks.length v (rcs ks rs) → lenR ks rs → rs.length ≤ 1000 → (∀ w', Ex [] w1 w' → k1 (.bool (m rs)) w') → wCallV P a3 [v] w1 k1)
    (hbad : readL kind ws m s = none → ∀ w', Ex [] w w' → k (.tuple #[.slice none 0 0, .int .i64 21]) w')
    (hk : ∀ rs, readL kind ws m s = some rs → lenR ks rs → ∀ v w', Ex [] w w' → Own w' w.heap.size TE ks.length v (rcs ks rs) → k (.tuple #[v, .int .i64 0]) w') : wCall P n [.int .u8 (kind : Int), sv s, .func (.func nP) #[] #[], a3] w k := by
  refine hW ?_
  unfold G_readL
  refine box_i (sv_cells s) fun w1 g1 hg1 hE1 B1 => ?_
  refine alloc_i hzL (vs := [.slice none 0 0]) rfl fun w2 g2 hg2 hE2 B2 => ?_
  have l1 := hE1.le
  have l2 := hE2.le
  rw [ld_sector g_T_api_Sector hs (B1.ex hE2 (by simp))]
  refine seal_Open hs hb (fun hno w3 hE3 => ?_) (fun kd body hop bv w3 hE3 hO3 => ?_)
  · rw [ext_0, ext_1, ext_2, bin_neq]
    refine or_i (r := true) (fun h => absurd h (by simp)) ?_
    rw [Bool.or_true, wIf_t]
    exact hbad (by unfold readL; rw [hno]) w3 ((hE1.trans hE2).trans hE3)
  · have l3 := hE3.le
    have E3 : Ex [] w w3 := (hE1.trans hE2).trans hE3
    have hbl := sealOp_len hop
    have hbt := sealOp_lt hb hop
    rw [ext_0, ext_1, ext_2, bin_neq]
    refine or_i (r := decide (((kd : Nat) : Int) ≠ (kind : Int))) (fun _ k' hk' => by rw [bin_neq]; exact hk') ?_
    rw [show decide ((0 : Int) ≠ 0) = false from by decide, Bool.false_or]
    refine wIf_d (fun hne => ?_) (fun heq => ?_)
    · refine hbad ?_ w3 E3
      unfold readL
      rw [hop]
      simp only
      rw [if_neg (by omega)]
    · have hkk : kd = kind := by omega
      subst hkk
      refine rd_new (hO3.base (Nat.zero_le _)) hbt.2 hbl fun w4 h hh hE4 H4 => ?_
      have l4 := hE4.le
      rw [iface_i u_preader, callv_0]
      refine hpL ?_
      obtain ⟨N, hN, hm, hmN, hcase⟩ := rd_count (ks := ks) body hw hws.1 hbl
      have B24 := (B2.ex hE3 (by simp)).ex hE4 (by simp)
      have lt2 := B2.lt
      have hfp : ∀ x ∈ h :: bv.ownBlock.toList, w2.heap.size ≤ x := by
        intro x hx
        rcases List.mem_cons.1 hx with rfl | hx
        · omega
        · exact (hO3.newb x hx).1
      have hmul : N * ws.sum ≤ 121 * 1000 := Nat.mul_le_mul hN hws.2
      refine list_rd E hL hP H4 B24 (lo := 0) rfl (fun hmm => by have := hfp _ hmm; omega) hw (by omega) (by simp only; omega) hm hmN fun w5 v5 fp5 hE5 H5 hfp5 hv5 hO5 B5 => ?_
      have E5 : Ex [] w w5 := (E3.trans hE4).step hE5 fun x hx => by
        rcases List.mem_cons.1 hx with rfl | hx
        · exact .inr (by omega)
        · have := hfp x hx; exact .inr (by omega)
      have B5 : Blk w5 g2 TL [v5] := B5
      obtain ⟨bv', hBr, hSr, _, _, hner, _⟩ := H5
      have hlen : ∀ (K : Value → World → Prop), wLen P .len #[T_Luint8] [bv] w5 K = K (.int .i64 (body.length : Int)) w5 := by
        intro K
        obtain ⟨A, c, e⟩ := hO3.slice (by omega) (n := body.length) (by rw [bvs_length]; omega)
        rw [e, len_s u_T_Luint8]
      simp only [nil_ptr, fA_T_codec_reader_1, fA_T_codec_reader_2, Nat.zero_add]
      rw [ld_one o_T_bool (hBr.cell 2)]
      rcases hcase with ⟨hrec, hbd⟩ | ⟨rs, hrec, hst, hrv⟩
      · rw [hbd]
        refine or_i (r := true) (fun h => by cases h) ?_
        refine or_i (r := true) (fun h => by cases h) ?_
        rw [Bool.or_true, wIf_t]
        exact hbad (by simp [readL, hop, hrec]) w5 E5
      · rw [hst] at hBr ⊢
        rw [hrv] at hO5
        have hlr : lenR ks rs := by rw [← hrv]; exact lenR_runRV hw _ _ fun r hr => by rw [List.mem_replicate] at hr; rw [hr.2, zs_length]
        have hrn : rs.length ≤ 1000 := by rw [← hrv, runRV_length, List.length_replicate]; omega
        refine or_i (r := false) (fun _ k' hk' => ?_) ?_
        · rw [ld_one o_T_int (hBr.cell 1), hlen, bin_neq]
          simpa using hk'
        refine or_w (r := !(m rs)) (fun _ k' hk' => ?_) fun w6 hE6 => ?_
        · rw [ld_one E.o (B5.cell 0)]
          refine hmay w5 rs v5 _ _ hO5 hlr hrn fun w6 hE6 => ?_
          rw [un_not]
          exact hk' w6 hE6
        rw [Bool.false_or]
        refine wIf_i _ (fun hc => ?_) (fun hc => ?_)
        · have hc : m rs = false := by simpa using hc
          exact hbad (by simp [readL, hop, hrec, hc]) w6 (E5.trans hE6)
        · rw [ld_one E.o ((B5.ex hE6 (by simp)).cell 0)]
          have hc : m rs = true := by simpa using hc
          exact hk rs (by simp [readL, hop, hrec, hc]) hlr v5 w6 (E5.trans hE6) ((hO5.ex0 hE6).base (by omega))
end
end Go.Dn
end
section
/-! Records are read; what may be; the inode's pass. -/
set_option maxRecDepth 10000
set_option linter.unusedVariables false
set_option linter.unusedSimpArgs false
namespace Go.Dn
open Go
section
variable {w : World}
theorem st_all {k : World → Prop} {g : Nat} {u t : TypeId} {n : Nat} {cs vs : List Value} (hT : aggT P t n = true) (hl : vs.length = n) (hc : ∀ v ∈ vs, isC v = true) (B : Blk w g u cs) (hn : cs.length = n) (hk : ∀ w', Ex [g] w w' → Blk w' g u vs → k w') : wStore P t (ptr g) (.agg ⟨vs⟩) w k := by
  refine st_agg hT hl hc B (by omega) fun w' hE B' => hk w' hE ?_
  rw [splice_front hl (by omega), List.drop_of_length_le (by omega), List.append_nil] at B'
  exact B'
/-- A record is read. -/
theorem read_rec {TX : TypeId} {n np : FuncId} {ks : List IntKind} {ws : List Nat} {kind : Nat} {a3 : Value} {s : List Nat} {m : List Int → Bool} {k : Value → World → Prop} (hW : ∀ {a0 a1 a2 a3 : Value} {w : World} {k : Value → World → Prop}, G_readS TX a0 a1 a2 a3 w k → wCall P n [a0, a1, a2, a3] w k)
    (hT : aggT P TX ks.length = true) (hz : zeroT P TX = some (.agg ⟨rc ks (zs ks)⟩)) (hinz : inR ks (zs ks)) (hP : PassC np ks ws) (hw : ws.length = ks.length) (hws : 0 < ws.sum ∧ ws.sum ≤ 120) (hs : s.length = 128) (hb : ∀ b ∈ s, b < 256) (hkd : kind < 256)
    (hmay : ∀ (r : List Int) (w1 : World) (k1 : Value → World → Prop), r.length = ks.length → (∀ w', Ex [] w1 w' → k1 (.bool (m r)) w') → wCallV P a3 [.agg ⟨rc ks r⟩] w1 k1)
    (hbad : readR kind ws m s = none → ∀ w', Ex [] w w' → k (.tuple #[.agg ⟨rc ks (zs ks)⟩, .int .i64 21]) w')
    (hk : ∀ r, readR kind ws m s = some r → ∀ w', Ex [] w w' → k (.tuple #[.agg ⟨rc ks r⟩, .int .i64 0]) w') : wCall P n [.int .u8 (kind : Int), sv s, .func (.func np) #[] #[], a3] w k := by
  refine hW ?_
  unfold G_readS
  have hzl : (rc ks (zs ks)).length = ks.length := rc_length (zs_length ks)
  refine box_i (sv_cells s) fun w1 g1 hg1 hE1 B1 => ?_
  refine alloc_i hz (vs := rc ks (zs ks)) rfl fun w2 g2 hg2 hE2 B2 => ?_
  refine alloc_i hz (vs := rc ks (zs ks)) rfl fun w3 g3 hg3 hE3 B3 => ?_
  refine alloc_i hz (vs := rc ks (zs ks)) rfl fun w4 g4 hg4 hE4 B4 => ?_
  have l1 := hE1.le
  have l2 := hE2.le
  have l3 := hE3.le
  have l4 := hE4.le
  have lt1 := B1.lt
  have lt2 := B2.lt
  have lt3 := B3.lt
  have B24 := (B2.ex hE3 (by simp)).ex hE4 (by simp)
  have B34 := B3.ex hE4 (by simp)
  rw [ld_sector g_T_api_Sector hs (((B1.ex hE2 (by simp)).ex hE3 (by simp)).ex hE4 (by simp))]
  have E4 : Ex [] w w4 := ((hE1.trans hE2).trans hE3).trans hE4
  have out : ∀ w5 g r e, Ex [] w w5 → Blk w5 g2 TX (rc ks (zs ks)) → Blk w5 g TX (rc ks r) → r.length = ks.length → (∀ w', Ex [] w w' → k (.tuple #[.agg ⟨rc ks r⟩, .int .i64 e]) w') →
      (wLoad P TX (ptr g) w5 fun t29 w => wStore P TX (ptr g2) t29 w fun w => wRes P TX (ptr g2) w fun r8 => k (.tuple #[r8, (.int .i64 e)]) w) := by
    intro w5 g r e hE5 B5 Bg hr hk'
    rw [ld_aggT hT (rc_length hr) _ _ _ Bg]
    refine st_all hT (rc_length hr) (rc_isC _ _) B5 hzl fun w6 hE6 B6 => ?_
    refine res_agg hT B6.all (rc_length hr) ?_
    exact hk' w6 (hE5.new hE6 (by omega))
  refine seal_Open hs hb (fun hno w5 hE5 => ?_) (fun kd body hop bv w5 hE5 hO5 => ?_)
  · rw [ext_0, ext_1, ext_2, bin_neq]
    refine or_i (r := true) (fun h => absurd h (by simp)) ?_
    rw [Bool.or_true, wIf_t]
    exact out w5 g4 _ _ (E4.trans hE5) (B24.ex hE5 (by simp)) (B4.ex hE5 (by simp)) (zs_length ks) (hbad (by simp [readR, hno]))
  · have l5 := hE5.le
    have E5 : Ex [] w w5 := E4.trans hE5
    have hbl := sealOp_len hop
    have hbt := sealOp_lt hb hop
    have B25 := B24.ex hE5 (by simp)
    have B35 := B34.ex hE5 (by simp)
    have B45 := B4.ex hE5 (by simp)
    rw [ext_0, ext_1, ext_2, bin_neq]
    refine or_i (r := decide (((kd : Nat) : Int) ≠ (kind : Int))) (fun _ k' hk' => by rw [bin_neq]; exact hk') ?_
    rw [show decide ((0 : Int) ≠ 0) = false from by decide, Bool.false_or]
    refine wIf_d (fun hne => ?_) (fun heq => ?_)
    · have hne : kd ≠ kind := by omega
      exact out w5 g4 _ _ E5 B25 B45 (zs_length ks) (hbad (by simp [readR, hop, hne]))
    · have hkk : kd = kind := by omega
      subst hkk
      refine rd_new (hO5.base (Nat.zero_le _)) hbt.2 hbl fun w6 h hh hE6 H6 => ?_
      have l6 := hE6.le
      rw [iface_i u_preader, callv_0]
      have hfp : ∀ x ∈ h :: bv.ownBlock.toList, w4.heap.size ≤ x := by
        intro x hx
        rcases List.mem_cons.1 hx with rfl | hx
        · omega
        · exact (hO5.newb x hx).1
      refine hP (rform h body) (A := []) (C := []) H6 (by simpa using B35.ex hE6 (by simp)) (fun hmm => by have := hfp _ hmm; omega) (zs_length ks) hinz (show (0 : Nat) ≤ 900000 by omega) fun w7 fp7 hE7 H7 hfp7 B7 => ?_
      have l7 := hE7.le
      have lt4 := B4.lt
      have off : ∀ x, x < w4.heap.size → x ≠ g3 → x ∉ (g3 :: h :: bv.ownBlock.toList) := by
        intro x hx hne hmm
        rcases List.mem_cons.1 hmm with hmm | hmm
        · exact hne hmm
        · have := hfp x hmm; omega
      have E7 : Ex [] w w7 := (E5.trans hE6).step hE7 fun x hx => by
        rcases List.mem_cons.1 hx with rfl | hx
        · exact .inr (by omega)
        · have := hfp x hx; exact .inr (by omega)
      have hE7' : ∀ x, x < w4.heap.size → x ≠ g3 → ∀ {u cs}, Blk w6 x u cs → Blk w7 x u cs := fun x hx hne u cs B => B.ex hE7 (off x hx hne)
      have B27 := hE7' g2 (by omega) (by omega) (B25.ex hE6 (by simp))
      have B47 := hE7' g4 (by omega) (by omega) (B45.ex hE6 (by simp))
      have B7 : Blk w7 g3 TX (rc ks (runV (rstp body) (rval body) (0, false) ws (zs ks))) := by simp only [List.nil_append, List.append_nil] at B7; exact B7
      obtain ⟨bv', hBr, hSr, _, _, hner, _⟩ := H7
      have hlen : ∀ (K : Value → World → Prop), wLen P .len #[T_Luint8] [bv] w7 K = K (.int .i64 (body.length : Int)) w7 := by
        intro K
        obtain ⟨A, c, e⟩ := hO5.slice (by omega) (n := body.length) (by rw [bvs_length]; omega)
        rw [e, len_s u_T_Luint8]
      have hwz : ws.length = (zs ks).length := by rw [hw, zs_length]
      have hst := runS_r body ws (zs ks) (0, false) hwz
      simp only [Nat.zero_add] at hst
      have hBr : Blk w7 h T_codec_reader [bv', .int .i64 ((runS (rstp body) (0, false) ws (zs ks)).1 : Int), .bool (runS (rstp body) (0, false) ws (zs ks)).2] := hBr
      rw [hst.1] at hBr
      simp only [nil_ptr, fA_T_codec_reader_1, fA_T_codec_reader_2, Nat.zero_add]
      rw [ld_one o_T_bool (hBr.cell 2)]
      have hwne : ws ≠ [] := fun h => by rw [h] at hws; simp at hws
      have hbd : (runS (rstp body) (0, false) ws (zs ks)).2 = decide (body.length < ws.sum) := by
        rw [Bool.eq_iff_iff, hst.2, decide_eq_true_eq]
        simp [hwne]
      rw [hbd]
      refine or_i (r := decide ((ws.sum : Int) ≠ (body.length : Int))) (fun _ k' hk' => ?_) ?_
      · rw [ld_one o_T_int (hBr.cell 1), hlen, bin_neq]
        exact hk'
      have hcond : (decide (body.length < ws.sum) || decide ((ws.sum : Int) ≠ (body.length : Int))) = decide (body.length ≠ ws.sum) := by
        rw [Bool.eq_iff_iff]; simp; omega
      rw [hcond]
      by_cases heq : body.length = ws.sum
      · rw [decide_eq_false (by simpa using heq)]
        have hrv : runV (rstp body) (rval body) (0, false) ws (zs ks) = decF ws body := by
          have := runV_r body ws (zs ks) (0, false) hwz (by simp only; omega)
          simpa using this
        rw [hrv] at B7
        have hdl : (decF ws body).length = ks.length := by rw [decF_length, hw]
        refine or_w (r := !(m (decF ws body))) (fun _ k' hk' => ?_) fun w8 hE8 => ?_
        · rw [ld_aggT hT (rc_length hdl) _ _ _ B7]
          refine hmay _ w7 _ hdl fun w8 hE8 => ?_
          rw [un_not]
          exact hk' w8 hE8
        rw [Bool.false_or]
        refine wIf_i _ (fun hc => ?_) (fun hc => ?_)
        · have hc : m (decF ws body) = false := by simpa using hc
          exact out w8 g4 _ _ (E7.trans hE8) (B27.ex hE8 (by simp)) (B47.ex hE8 (by simp)) (zs_length ks) (hbad (by simp [readR, hop, hc]))
        · have hc : m (decF ws body) = true := by simpa using hc
          exact out w8 g3 _ _ (E7.trans hE8) (B27.ex hE8 (by simp)) (B7.ex hE8 (by simp)) hdl (hk _ (by simp [readR, hop, hc, heq]))
      · rw [decide_eq_true (by simpa using heq)]
        refine or_i (r := true) (fun h => by cases h) ?_
        rw [Bool.or_true, wIf_t]
        exact out w7 g4 _ _ E7 B27 B47 (zs_length ks) (hbad (by simp [readR, hop, heq]))
theorem codec_among {n a b : Int} {k : Value → World → Prop} (hk : k (.bool (decide (a ≤ n) && decide (n ≤ b))) w) : wCall P n_codec_among [.int .i64 n, .int .i64 a, .int .i64 b] w k := by
  refine call_codec_among _ _ _ ?_
  unfold F_codec_among
  simp only [bin_geq, bin_leq, and_p]
  exact hk
theorem rc_get {ks : List IntKind} {r : List Int} {j : Nat} (hr : r.length = ks.length) (hk : ks[j]? = some .i64) : (rc ks r)[j]? = some (.int .i64 (r.getD j 0)) := by
  have h1 := (List.getElem?_eq_some_iff.1 hk).1
  have h2 := (List.getElem?_eq_some_iff.1 hk).2
  unfold rc
  rw [List.getElem?_eq_getElem (by simp; omega), List.getElem_zipWith, h2, List.getD_eq_getElem?_getD, List.getElem?_eq_getElem (by omega)]
  rfl
/-- May a record be? Its j-th number is among two. -/
def mayB (j : Nat) (a b : Int) (r : List Int) : Bool := decide (a ≤ r.getD j 0) && decide (r.getD j 0 ≤ b)
theorem may_field {TX : TypeId} {ks : List IntKind} {j i : Nat} {a b : Int} {r : List Int} {k : Value → World → Prop} (hr : r.length = ks.length) (hkj : ks[j]? = some .i64) (hf : fldT P TX i = some j) (hk : ∀ w', Ex [] w w' → k (.bool (mayB j a b r)) w') :
    wBox P TX (.agg ⟨rc ks r⟩) w fun t1 w => wFieldA P TX t1 i w fun t3 w => wLoad P T_int t3 w fun t4 w => wCall P n_codec_among [t4, .int .i64 a, .int .i64 b] w fun t5 w => k t5 w := by
  refine box_i (vs := rc ks r) rfl fun w1 g1 hg1 hE1 B1 => ?_
  rw [fieldA_i hf, Nat.zero_add, ld_one o_T_int ((B1.cell j).trans (rc_get hr hkj))]
  exact codec_among (hk w1 hE1)
def G_each (TL TE TF : TypeId) (a0 a1 a2 : Value) (w : World) (k : Value → World → Prop) : Prop :=
  wJ0 (fun k1 =>
    wLen P .len #[TL] [a0] w fun t8 w =>
    wL1 (.int .i64 0) w (fun _ v9 w k2 =>
      wBin P .lss T_int v9 t8 w fun t10 w =>
      wIf t10 (
        wIndexA P TL a0 v9 w fun t11 w =>
        wLoad P TE t11 w fun t12 w =>
        wAlloc P TE w fun t6 w =>
        wStore P TE t6 t12 w fun w =>
        wLoad P TF a1 w fun t13 w =>
        wLoad P TE t6 w fun t14 w =>
        wCallV P t13 [t14] w fun t15 w =>
        wUn P .not t15 w fun t16 w =>
        wIf t16 (
          k (.bool false) w) (
          wBin P .add T_int v9 (.int .i64 1) w fun t17 w =>
          k2 t17 w)) (
        k1 w))) fun _ w =>
  wLen P .len #[TL] [a0] w fun t19 w =>
  wLoad P T_int a2 w fun t20 w =>
  wBin P .leq T_int t19 t20 w fun t21 w =>
  k t21 w
theorem rcs_elem {ks : List IntKind} {rs : List (List Int)} (hlen : lenR ks rs) {i : Nat} (h : i < rs.length) : ((rcs ks rs).drop (i * ks.length)).take ks.length = rc ks rs[i] := by
  have htl : lenR ks (rs.take i) := fun r hr => hlen r (List.mem_of_mem_take hr)
  have e : rcs ks rs = rcs ks (rs.take i) ++ (rc ks rs[i] ++ rcs ks (rs.drop (i + 1))) := by
    conv => lhs; rw [← List.take_append_drop i rs, List.drop_eq_getElem_cons h, rcs_append, rcs_cons]
  rw [e, List.drop_left' (by rw [rcs_length htl, List.length_take, Nat.min_eq_left (by omega)]), List.take_left' (rc_length (hlen _ (List.getElem_mem h)))]
theorem each_i {TL TE TF : TypeId} {ks : List IntKind} {v fv : Value} {g2 g3 : Nat} {most : Int} {rs : List (List Int)} {p : List Int → Bool} {k : Value → World → Prop} (E : ElT TL TE ks) (hoF : oneT P TF = true) (S : SlG w ks.length v (rcs ks rs)) (hlen : lenR ks rs) (hn : rs.length ≤ 1000000)
    (B3 : Blk w g3 TF [fv]) (B2 : Blk w g2 T_int [.int .i64 most]) (hp : ∀ r ∈ rs, ∀ (w1 : World) (k1 : Value → World → Prop), (∀ w', Ex [] w1 w' → k1 (.bool (p r)) w') → wCallV P fv [.agg ⟨rc ks r⟩] w1 k1)
    (hk : ∀ w', Ex [] w w' → k (.bool (rs.all p && decide ((rs.length : Int) ≤ most))) w') : G_each TL TE TF v (ptr g3) (ptr g2) w k := by
  unfold G_each
  refine j0_of (fun w' => Ex [] w w' ∧ rs.all p = true) (fun k1 hk1 => ?_) ?_
  · rw [S.len_i E.u E.pos (rcs_length hlen)]
    refine loop_up rs.length (fun i x w' => x = .int .i64 (i : Int) ∧ Ex [] w w' ∧ (rs.take i).all p = true) ⟨rfl, Ex.refl _ _, by simp⟩ ?_
    rintro i J x w1 k2 hi ⟨rfl, hE1, hall⟩ hk2
    rw [bin_lss]
    refine wIf_d (fun hlt => ?_) (fun hge => ?_)
    · have hlt : i < rs.length := by omega
      have hrl := hlen _ (List.getElem_mem hlt)
      refine (S.ex0 hE1).ix E.s E.pos (rcs_length hlen) (by omega) (by omega) fun b o hcs => ?_
      rw [Int.toNat_natCast, rcs_elem hlen hlt] at hcs
      rw [ld_agg E.g hcs (rc_length hrl)]
      refine alloc_i E.z (vs := rc ks (zs ks)) rfl fun w2 g6 hg6 hE2 B6 => ?_
      refine st_all E.g (rc_length hrl) (rc_isC _ _) B6 (rc_length (zs_length ks)) fun w3 hE3 B63 => ?_
      have l1 := hE1.le
      have E3 : Ex [] w1 w3 := hE2.new hE3 (by omega)
      rw [ld_one hoF (((B3.ex hE1 (by simp)).ex E3 (by simp)).cell 0), ld_aggT E.g (rc_length hrl) _ _ _ B63]
      refine hp _ (List.getElem_mem hlt) w3 _ fun w4 hE4 => ?_
      rw [un_not]
      have E4 := (hE1.trans E3).trans hE4
      refine wIf_i _ (fun hc => ?_) (fun hc => ?_)
      · have hc : p rs[i] = false := by simpa using hc
        have := hk w4 E4
        have hf : rs.all p = false := by
          rw [List.all_eq_false]
          exact ⟨rs[i], List.getElem_mem hlt, by simp [hc]⟩
        rw [hf, Bool.false_and] at this
        exact this
      · have hc : p rs[i] = true := by simpa using hc
        rw [bin_add (by omega)]
        refine hk2 _ _ (by omega) ⟨by simp, E4, ?_⟩
        rw [takeR hlt, List.all_append, hall]
        simp [hc]
    · obtain rfl : i = rs.length := by omega
      rw [List.take_length] at hall
      exact hk1 w1 ⟨hE1, hall⟩
  · rintro J w1 ⟨hE1, hall⟩
    rw [(S.ex0 hE1).len_i E.u E.pos (rcs_length hlen), ld_one o_T_int ((B2.ex hE1 (by simp)).cell 0), bin_leq]
    have := hk w1 hE1
    rw [hall, Bool.true_and] at this
    exact this
def LInode1 : List (IntKind × Nat × Nat) := [(.u32, 2, 0), (.u32, 4, 1), (.i64, 1, 2), (.i64, 4, 3), (.u32, 4, 4)]
def LInode2 : List (IntKind × Nat × Nat) := [(.i64, 4, 6), (.i64, 4, 7)]
theorem ok_LInode1 : fldOk T_codec_Inode 0 LInode1 := by unfold LInode1 fldOk; repeat' first | exact trivial | (refine ⟨by kernel_rfl, by (unfold widOk; decide), ?_⟩; unfold fldOk)
theorem ok_LInode2 : fldOk T_codec_Inode 13 LInode2 := by unfold LInode2 fldOk; repeat' first | exact trivial | (refine ⟨by kernel_rfl, by (unfold widOk; decide), ?_⟩; unfold fldOk)
def kInode : List IntKind := [.u32, .u32, .i64, .i64, .u32, .i64, .i64, .i64, .i64, .i64, .i64, .i64, .i64, .i64, .i64]
def wInode : List Nat := [2, 4, 1, 4, 4, 4, 4, 4, 4, 4, 4, 4, 4, 4, 4]
end
end Go.Dn
end
section
/-! Texts of functions, printed by mkg.py. -/
set_option maxRecDepth 100000
set_option linter.unusedVariables false
namespace Go.Dn
open Go Go.Proofs
def F_cmp_Compare_uint64 (a0 a1 : Value) (w : World) (k : Value → World → Prop) : Prop :=
  wCall P n_cmp_isNaN_uint64 [a0] w fun t8 w =>
  wCall P n_cmp_isNaN_uint64 [a1] w fun t10 w =>
  wIf t8 (
    wIf t10 (
      k (.int .i64 0) w) (
      k (.int .i64 (-1)) w)) (
    wIf t10 (
      k (.int .i64 1) w) (
      wBin P .lss T_uint64 a0 a1 w fun t16 w =>
      wIf t16 (
        k (.int .i64 (-1)) w) (
        wBin P .gtr T_uint64 a0 a1 w fun t19 w =>
        wIf t19 (
          k (.int .i64 1) w) (
          k (.int .i64 0) w))))

theorem call_cmp_Compare_uint64 (a0 a1 : Value) {w : World} {k : Value → World → Prop} (h : F_cmp_Compare_uint64 a0 a1 w k) : wCall P n_cmp_Compare_uint64 [a0, a1] w k :=
  call_of_den mixedP Try.func161 (by kernel_rfl) .z (by kernel_rfl) (Eq.mp (by kernel_rfl) h)

def F_cmp_isNaN_uint64 (a0 : Value) (w : World) (k : Value → World → Prop) : Prop :=
  wBin P .neq T_uint64 a0 a0 w fun t5 w =>
  k t5 w

theorem call_cmp_isNaN_uint64 (a0 : Value) {w : World} {k : Value → World → Prop} (h : F_cmp_isNaN_uint64 a0 w k) : wCall P n_cmp_isNaN_uint64 [a0] w k :=
  call_of_den mixedP Try.func242 (by kernel_rfl) .z (by kernel_rfl) (Eq.mp (by kernel_rfl) h)

end Go.Dn
end
section
/-! usage.Order, in general. -/
set_option maxRecDepth 10000
set_option linter.unusedVariables false
set_option linter.unusedSimpArgs false
namespace Go.Dn
open Go
def wage (now : Int) (u : U) : Int := if u.age ≤ now then 1 + (now - u.age) else 1
def gain (room now : Int) (u : U) : Int := (room - u.live) * wage now u
def cost (room : Int) (u : U) : Int := room + u.live
/-- Is the segment i better to be cleaned than j? -/
def btr (room now : Int) (us : List U) (i j : Nat) : Bool := decide (gain room now (us.getD j default) * cost room (us.getD i default) < gain room now (us.getD i default) * cost room (us.getD j default))
structure UOk (room now : Int) (us : List U) : Prop where
  r1 : 1 ≤ room
  r2 : room ≤ 4096
  n1 : 0 ≤ now
  n2 : now < 4294967296
  all : ∀ u ∈ us, 0 ≤ u.live ∧ u.live ≤ room ∧ 0 ≤ u.age ∧ u.age < 4294967296
theorem wage_rng {room now : Int} {us : List U} (H : UOk room now us) {u : U} (hu : u ∈ us) : 1 ≤ wage now u ∧ wage now u ≤ 4294967296 := by
  have := H.all u hu
  have := H.n1
  have := H.n2
  unfold wage
  split <;> omega
theorem gain_rng {room now : Int} {us : List U} (H : UOk room now us) {u : U} (hu : u ∈ us) : 0 ≤ gain room now u ∧ gain room now u ≤ 17592186044416 := by
  have h1 := H.all u hu
  have h2 := wage_rng H hu
  have h3 := H.r2
  unfold gain
  refine ⟨Int.mul_nonneg (by omega) (by omega), ?_⟩
  have := Int.mul_le_mul (show room - u.live ≤ 4096 by omega) h2.2 (by omega) (by omega)
  omega
theorem cost_rng {room now : Int} {us : List U} (H : UOk room now us) {u : U} (hu : u ∈ us) : 1 ≤ cost room u ∧ cost room u ≤ 8192 := by
  have h1 := H.all u hu
  have h3 := H.r2
  have h4 := H.r1
  unfold cost
  omega
theorem gc_rng {room now : Int} {us : List U} (H : UOk room now us) {u v : U} (hu : u ∈ us) (hv : v ∈ us) : 0 ≤ gain room now u * cost room v ∧ gain room now u * cost room v ≤ 144115188075855872 := by
  have h1 := gain_rng H hu
  have h2 := cost_rng H hv
  refine ⟨Int.mul_nonneg h1.1 (by omega), ?_⟩
  have := Int.mul_le_mul h1.2 h2.2 (by omega) (by omega)
  omega
section
variable {w : World} {K : Value → World → Prop}
theorem cmp_Compare {a b : Int} {k : Value → World → Prop} (hk : k (.int .i64 (if a < b then -1 else if b < a then 1 else 0)) w) : wCall P n_cmp_Compare_uint64 [.int .u64 a, .int .u64 b] w k := by
  refine call_cmp_Compare_uint64 _ _ ?_
  unfold F_cmp_Compare_uint64
  refine call_cmp_isNaN_uint64 _ ?_
  unfold F_cmp_isNaN_uint64
  rw [bin_neq, decide_eq_false (by simp)]
  refine call_cmp_isNaN_uint64 _ ?_
  unfold F_cmp_isNaN_uint64
  rw [bin_neq, decide_eq_false (by simp)]
  dsimp only
  rw [wIf_f, wIf_f, bin_lss]
  refine wIf_d (fun h => ?_) (fun h => ?_)
  · rw [if_pos h] at hk; exact hk
  · rw [if_neg h] at hk
    rw [bin_gtr]
    refine wIf_d (fun h => ?_) (fun h => ?_)
    · rw [if_pos h] at hk; exact hk
    · rw [if_neg h] at hk; exact hk
theorem fl_elem {us : List U} {i : Nat} (hi : i < us.length) : ((fl us).drop (i * 3)).take 3 = us[i].cells := by
  have e : fl us = fl (us.take i) ++ (us[i].cells ++ fl (us.drop (i + 1))) := by
    conv => lhs; rw [← List.take_append_drop i us, List.drop_eq_getElem_cons hi, fl_append]
    rfl
  rw [e, List.drop_left' (by rw [fl_length, List.length_take, Nat.min_eq_left (by omega)])]
  rfl
theorem usage_worth {h d t2 t3 i : Nat} {room now : Int} {us : List U} {u : U} {k : Value → World → Prop} (H : Tab w h d room us) (hu : us[i]? = some u) (hok : UOk room now us) (hn : us.length ≤ 1000)
    (B2 : Blk w t2 T_pusage_Table [ptr h]) (B3 : Blk w t3 T_uint32 [.int .u32 now]) (hk : ∀ w', Ex [] w w' → k (.tuple #[.int .u64 (gain room now u), .int .u64 (cost room u)]) w') :
    wCall P n_usage_Table_Order_c2 [.int .i64 (i : Int), ptr t2, ptr t3] w k := by
  refine call_usage_Table_Order_c2 _ _ _ ?_
  unfold F_usage_Table_Order_c2
  obtain ⟨c, hc, hcu⟩ := H.uses
  obtain ⟨hi, hui⟩ := List.getElem?_eq_some_iff.1 hu
  have hum : u ∈ us := List.mem_of_getElem? hu
  have hb := hok.all u hum
  have hw := wage_rng hok hum
  have hg := gain_rng hok hum
  have hr1 := hok.r1
  have hr2 := hok.r2
  have hn1 := hok.n1
  have hn2 := hok.n2
  rw [ld_one o_T_pusage_Table (B2.cell 0 : _ = some (ptr h)), nil_ptr, fA_T_usage_Table_1, ld_one o_T_Lcodec_Use hcu]
  refine (H.slg hc).ix s_T_Lcodec_Use (by omega) (fl_length us) (by omega) (by omega) fun b o hcs => ?_
  rw [Int.toNat_natCast, fl_elem hi, hui] at hcs
  rw [ld_agg g_T_codec_Use hcs rfl]
  refine alloc_i z_T_codec_Use (vs := [.int .i64 0, .int .i64 0, .int .u32 0]) rfl fun w1 g1 hg1 hE1 B1 => ?_
  refine st_all g_T_codec_Use (vs := u.cells) rfl (by intro v hv; simp [U.cells] at hv; rcases hv with rfl | rfl | rfl <;> rfl) B1 rfl fun w2 hE2 Bu => ?_
  have E2 : Ex [] w w2 := hE1.new hE2 (by omega)
  have d0 : w2.cell? ⟨g1, 0 + 0, none⟩ = some (.int .i64 u.live) := Bu.cell 0
  have d2 : w2.cell? ⟨g1, 0 + 2, none⟩ = some (.int .u32 u.age) := Bu.cell 2
  have b3 : w2.cell? ⟨t3, 0, none⟩ = some (.int .u32 now) := (B3.ex E2 (by simp)).cell 0
  refine j1_of (fun v w' => w' = w2 ∧ v = .int .u64 (wage now u)) (fun k1 hk1 => ?_) ?_
  · rw [fA_T_codec_Use_2, ld_one o_T_uint32 d2, ld_one o_T_uint32 b3, bin_leq]
    refine wIf_d (fun hle => ?_) (fun hgt => ?_)
    · rw [ld_one o_T_uint32 b3, fA_T_codec_Use_2, ld_one o_T_uint32 d2, bin_subw, conv_i i_T_uint32 i_T_uint64, bin_addw]
      have e1 : IntKind.wrap .u32 (now - u.age) = now - u.age := IntWalk.u32_in _ (by omega)
      rw [e1, IntWalk.u64_in (now - u.age) (by omega), IntWalk.u64_in _ (by omega)]
      refine hk1 _ w2 ⟨rfl, ?_⟩
      unfold wage
      rw [if_pos hle]
    · refine hk1 _ w2 ⟨rfl, ?_⟩
      unfold wage
      rw [if_neg hgt]
  rintro J v w' ⟨rfl, rfl⟩
  refine draw_i fun w3 hE3 _ => ?_
  have E3 := E2.trans hE3
  have H3 := H.ex0 E3
  have hroom : w3.cell? ⟨h, 0 + 0, none⟩ = some (.int .i64 room) := H3.room
  have d0' := hE3
  have d0 : w3.cell? ⟨g1, 0 + 0, none⟩ = some (.int .i64 u.live) := (Bu.ex hE3 (by simp)).cell 0
  have b2 : w3.cell? ⟨t2, 0, none⟩ = some (ptr h) := (B2.ex E3 (by simp)).cell 0
  rw [ld_one o_T_pusage_Table b2, nil_ptr, fA_T_usage_Table_0, ld_one o_T_int hroom, fA_T_codec_Use_0, ld_one o_T_int d0, bin_sub (by omega), conv_i i_T_int i_T_uint64, IntWalk.u64_in (room - u.live) (by omega), bin_mulw]
  rw [ld_one o_T_pusage_Table b2, nil_ptr, fA_T_usage_Table_0, ld_one o_T_int hroom, fA_T_codec_Use_0, ld_one o_T_int d0, bin_add (by omega), conv_i i_T_int i_T_uint64, IntWalk.u64_in (room + u.live) (by omega)]
  have e : IntKind.wrap .u64 ((room - u.live) * wage now u) = gain room now u := IntWalk.u64_in _ (by unfold gain at hg; omega)
  rw [e]
  exact hk w3 E3
end
theorem btr_swo {room now : Int} {us : List U} (hok : UOk room now us) : Swo (fun i => i < us.length) (btr room now us) := by
  have hm : ∀ i, i < us.length → us.getD i default ∈ us := fun i hi => by
    rw [List.getD_eq_getElem?_getD, List.getElem?_eq_getElem hi]
    exact List.getElem_mem hi
  refine ⟨fun i j hi hj h => ?_, fun i j l hi hj hl h1 h2 => ?_⟩
  · unfold btr at h ⊢
    rw [decide_eq_true_eq] at h
    rw [decide_eq_false_iff_not]
    omega
  · unfold btr at h1 h2 ⊢
    rw [decide_eq_false_iff_not] at h1 h2 ⊢
    have ci := cost_rng hok (hm i hi)
    have cj := cost_rng hok (hm j hj)
    have cl := cost_rng hok (hm l hl)
    generalize gain room now (us.getD i default) = gi at *
    generalize gain room now (us.getD j default) = gj at *
    generalize gain room now (us.getD l default) = gl at *
    generalize cost room (us.getD i default) = a at *
    generalize cost room (us.getD j default) = b at *
    generalize cost room (us.getD l default) = d at *
    -- gi * b ≤ gj * a, gj * d ≤ gl * b
    have h1 : gi * b ≤ gj * a := by omega
    have h2 : gj * d ≤ gl * b := by omega
    intro h3
    have s1 : gi * b * d ≤ gj * a * d := Int.mul_le_mul_of_nonneg_right h1 (by omega)
    have s2 : gj * d * a ≤ gl * b * a := Int.mul_le_mul_of_nonneg_right h2 (by omega)
    have s3 : gl * a * b < gi * d * b := Int.mul_lt_mul_of_pos_right h3 (by omega)
    have e1 : gi * b * d = gi * d * b := Int.mul_right_comm _ _ _
    have e2 : gj * a * d = gj * d * a := Int.mul_right_comm _ _ _
    have e3 : gl * b * a = gl * a * b := Int.mul_right_comm _ _ _
    omega
end Go.Dn
end
section
/-! usage.Order, in general: the list. -/
set_option maxRecDepth 10000
set_option linter.unusedVariables false
set_option linter.unusedSimpArgs false
namespace Go.Dn
open Go
theorem idx_lt (p : U → Bool) (us : List U) (n : Nat) : ∀ i ∈ idx p us n, i < n := by
  intro i hi
  unfold idx at hi
  rw [List.mem_filter, List.mem_range] at hi
  exact hi.1
theorem idx_sorted (p : U → Bool) (us : List U) (n : Nat) : (idx p us n).Pairwise (· < ·) := by
  unfold idx
  exact List.Pairwise.filter _ List.pairwise_lt_range
section
variable {w : World} {K : Value → World → Prop}
/-- The closure that compares two segments. -/
theorem cmp_worth {h d t2 t3 t6 g : Nat} {room now : Int} {us : List U} (hok : UOk room now us) (hn : us.length ≤ 1000) (h1 : g ≠ h) (h2 : g ≠ d) (h3 : g ≠ t2) (h4 : g ≠ t3) (h6 : g ≠ t6) :
    Cmp (.func (.func n_usage_Table_Order_c3) ⟨[]⟩ ⟨[ptr t6]⟩) g (fun i => i < us.length) (btr room now us) (fun w => Tab w h d room us ∧ Blk w t2 T_pusage_Table [ptr h] ∧ Blk w t3 T_uint32 [.int .u32 now] ∧ Blk w t6 T_func_int___uint64__uint64_ [.func (.func n_usage_Table_Order_c2) ⟨[]⟩ ⟨[ptr t2, ptr t3]⟩]) := by
  refine ⟨fun x y hx hy w k ⟨H, B2, B3, B6⟩ hk => ?_, fun w w' ⟨H, B2, B3, B6⟩ hE => ⟨H.ex hE (by simp; omega) (by simp; omega), B2.ex hE (by simp; omega), B3.ex hE (by simp; omega), B6.ex hE (by simp; omega)⟩⟩
  rw [callv_eq]
  refine call_usage_Table_Order_c3 _ _ _ ?_
  unfold F_usage_Table_Order_c3
  have hxg : us[x]? = some us[x] := List.getElem?_eq_getElem hx
  have hyg : us[y]? = some us[y] := List.getElem?_eq_getElem hy
  have hxd : us.getD x default = us[x] := by rw [List.getD_eq_getElem?_getD, hxg]; rfl
  have hyd : us.getD y default = us[y] := by rw [List.getD_eq_getElem?_getD, hyg]; rfl
  have hxm : us[x] ∈ us := List.getElem_mem hx
  have hym : us[y] ∈ us := List.getElem_mem hy
  rw [ld_one o_T_func_int___uint64__uint64_ (B6.cell 0 : _ = some _), callv_eq]
  refine usage_worth H hxg hok hn B2 B3 fun w1 hE1 => ?_
  rw [ext_0, ext_1, ld_one o_T_func_int___uint64__uint64_ ((B6.ex hE1 (by simp)).cell 0 : _ = some _), callv_eq]
  refine usage_worth (H.ex0 hE1) hyg hok hn (B2.ex hE1 (by simp)) (B3.ex hE1 (by simp)) fun w2 hE2 => ?_
  have r1 := gc_rng hok hym hxm
  have r2 := gc_rng hok hxm hym
  rw [ext_0, ext_1, bin_mulw, bin_mulw, IntWalk.u64_in _ (by omega), IntWalk.u64_in _ (by omega)]
  refine cmp_Compare ?_
  refine hk w2 _ (hE1.trans hE2) ?_
  unfold btr
  rw [hxd, hyd, decide_eq_true_eq]
  by_cases hc : gain room now us[y] * cost room us[x] < gain room now us[x] * cost room us[y]
  · rw [if_pos hc]
    exact ⟨fun _ => hc, fun _ => by omega⟩
  · rw [if_neg hc]
    refine ⟨fun hlt => ?_, fun hlt => absurd hlt hc⟩
    split at hlt <;> omega
theorem usage_Order {h d : Nat} {room now : Int} {us : List U} {k : Value → World → Prop} (H : Tab w h d room us) (hok : UOk room now us) (hn : us.length ≤ 1000)
    (hk : ∀ v w' M, Ex [] w w' → SlG w' 1 v (ivs M) → M.Perm (idx (fun u => decide (u.state = 1)) us us.length) → M.Pairwise (RR (btr room now us)) → k v w') : wCall P n_usage_Table_Order [ptr h, .int .u32 now] w k := by
  refine call_usage_Table_Order _ _ ?_
  unfold F_usage_Table_Order
  refine box_i (vs := [ptr h]) rfl fun w1 g1 hg1 hE1 B1 => ?_
  refine box_i (vs := [.int .u32 now]) rfl fun w2 g2 hg2 hE2 B2 => ?_
  have B12 := B1.ex hE2 (by simp)
  rw [ld_one o_T_pusage_Table (v := ptr h) (by rw [B12.cell]; rfl)]
  have H2 := (H.ex0 hE1).ex0 hE2
  refine usage_which (p := fun u => decide (u.state = 1)) H2 hn (fun u _ w1 k1 h1 => ?_) fun v w3 hE3 hO => ?_
  · rw [callv_0]; exact usage_dirty h1
  · have hsrt := idx_sorted (fun u => decide (u.state = 1)) us us.length
    have hlt := idx_lt (fun u => decide (u.state = 1)) us us.length
    have hll := idx_le (fun u => decide (u.state = 1)) us us.length
    generalize idx (fun u => decide (u.state = 1)) us us.length = L at *
    rw [func_eq]
    have l1 := hE1.le
    have l2 := hE2.le
    have l3 := hE3.le
    have lt1 := B12.lt
    have lt2 := B2.lt
    refine alloc_i z_T_func_int___uint64__uint64_ rfl fun w4 g4 hg4 hE4 B4 => ?_
    refine st_one o_T_func_int___uint64__uint64_ rfl B4 (by simp) fun w5 hE5 B5 => ?_
    have B5 : Blk w5 g4 T_func_int___uint64__uint64_ [.func (.func n_usage_Table_Order_c2) ⟨[]⟩ ⟨[ptr g1, ptr g2]⟩] := B5
    rw [func_eq]
    have E35 : Ex [] w3 w5 := hE4.new hE5 (by omega)
    have E25 : Ex [] w2 w5 := hE3.trans E35
    have E5 := (hE1.trans hE2).trans E25
    have hO5 := hO.ex0 E35
    by_cases hL1 : L.length ≤ 1
    · refine slices_sort1 hO5.slg (by rw [ivs_length]; exact hL1) ?_
      refine hk v w5 L E5 hO5.slg (List.Perm.refl _) ?_
      match L, hL1 with
      | [], _ => exact List.Pairwise.nil
      | [x], _ => exact List.pairwise_singleton _ _
    · refine call_slices_SortStableFunc_int _ _ ?_
      unfold F_slices_SortStableFunc_int
      rw [hO5.slg.len_i u_T_Lint (by omega) (n := L.length) (by rw [ivs_length]; omega)]
      have hnb := hO.newb
      obtain ⟨n, hl, hcase⟩ := hO5
      rw [ivs_length] at hl
      rcases hcase with ⟨rfl, rfl⟩ | ⟨g, cap, cur, rfl, hb, hh, hnc, h2, h3, htk⟩
      · exact absurd (show L.length ≤ 1 by omega) hL1
      · have hnL : n = L.length := by omega
        subst hnL
        have hg := hnb g (by simp [Value.ownBlock])
        have HI : IR w5 g L (cur.toList.drop (L.length * 1)) := by
          show Blk w5 g T_int (ivs L ++ cur.toList.drop (L.length * 1))
          rw [← htk, List.take_append_drop]
          exact hh
        have H5 := H2.ex0 E25
        obtain ⟨ct, hbt, _⟩ := H2.tb
        obtain ⟨rs, hrs⟩ := H2.ub
        have lth := hbt.lt
        have ltd := hrs.lt
        refine slices_stable (c := cap) (cmp_worth (t2 := g1) (t3 := g2) (t6 := g4) (g := g) hok hn (by omega) (by omega) (by omega) (by omega) (by omega)) (btr_swo hok) ⟨H5, B12.ex E25 (by simp), B2.ex E25 (by simp), B5⟩ HI rfl (by omega) hlt hsrt fun w6 M hE6 H6 hp hs => ?_
        have E6 : Ex [] w w6 := E5.new hE6 (by omega)
        refine hk _ w6 M E6 ?_ hp hs
        refine SlG.of_cs (fun i x hx => ?_) (by rw [ivs_length, hp.length_eq, Nat.mul_one]) hnc
        rw [Nat.zero_add]
        exact (Blk.cell H6 i).trans (by rw [List.getElem?_append_left (List.getElem?_eq_some_iff.1 hx).1]; exact hx)
end
end Go.Dn
end
section
/-! The reference's Better; two lists of numbers. -/
set_option maxRecDepth 10000
set_option linter.unusedVariables false
set_option linter.unusedSimpArgs false
namespace Go.Dn
open Go
section
variable {w : World} {K : Value → World → Prop}
theorem ints_same {u v : Value} {M : List Nat} {k : Value → World → Prop} (Su : SlG w 1 u (ivs M)) (Sv : SlG w 1 v (ivs M)) (hn : M.length ≤ 1000000) (hk : ∀ w', Ex [] w w' → k (.bool true) w') : wCall P n_law09_ints [u, v] w k := by
  refine call_law09_ints _ _ ?_
  unfold F_law09_ints
  have hl : (ivs M).length = M.length * 1 := by rw [ivs_length, Nat.mul_one]
  rw [Su.len_i u_T_Lint (by omega) hl, Sv.len_i u_T_Lint (by omega) hl, bin_neq, decide_eq_false (by simp), wIf_f, Su.len_i u_T_Lint (by omega) hl]
  refine loop_up M.length (fun i y w' => y = .int .i64 (i : Int) ∧ Ex [] w w') ⟨rfl, Ex.refl _ _⟩ ?_
  rintro i J y wa k2 hi ⟨rfl, hEa⟩ hk2
  rw [bin_lss]
  refine wIf_d (fun hlt => ?_) (fun hge => hk wa hEa)
  have hlt : i < M.length := by omega
  refine draw_i fun wb hEb _ => ?_
  have Eb := hEa.trans hEb
  have hx : (ivs M)[((i : Nat) : Int).toNat]? = some (.int .i64 ((M[i] : Nat) : Int)) := by rw [Int.toNat_natCast]; exact ivs_get (List.getElem?_eq_getElem hlt)
  refine (Su.ex0 Eb).ix1 s_T_Lint (by omega) hx fun a ha => ?_
  rw [ld_one o_T_int ha]
  refine (Sv.ex0 Eb).ix1 s_T_Lint (by omega) hx fun b hb => ?_
  rw [ld_one o_T_int hb, bin_neq, decide_eq_false (by simp), wIf_f, bin_add (by omega)]
  exact hk2 _ _ (by omega) ⟨by simp, Eb⟩
theorem ref09_Better {v : Value} {i j : Nat} {room now : Int} {us : List U} {k : Value → World → Prop} (S : SlG w 3 v (fl us)) (hok : UOk room now us) (hn : us.length ≤ 1000) (hi : i < us.length) (hj : j < us.length)
    (hk : ∀ w', Ex [] w w' → k (.bool (btr room now us i j)) w') : wCall P n_ref09_Better [.agg ⟨[.int .i64 room, v]⟩, .int .i64 (i : Int), .int .i64 (j : Int), .int .u32 now] w k := by
  refine call_ref09_Better _ _ _ _ ?_
  unfold F_ref09_Better
  have hvc : isC v = true := by
    obtain ⟨A, n, c, rfl, _⟩ := S
    rfl
  refine box_i (vs := [.int .i64 room, v]) rfl fun w1 g1 hg1 hE1 B1 => ?_
  have c0 : w1.cell? ⟨g1, 0 + 0, none⟩ = some (.int .i64 room) := B1.cell 0
  have c1 : w1.cell? ⟨g1, 0 + 1, none⟩ = some v := B1.cell 1
  have hx : us.getD i default = us[i] := by rw [List.getD_eq_getElem?_getD, List.getElem?_eq_getElem hi]; rfl
  have hy : us.getD j default = us[j] := by rw [List.getD_eq_getElem?_getD, List.getElem?_eq_getElem hj]; rfl
  have hxm : us[i] ∈ us := List.getElem_mem hi
  have hym : us[j] ∈ us := List.getElem_mem hj
  have fi := fl_elem hi
  have fj := fl_elem hj
  generalize us[i] = x at *
  generalize us[j] = y at *
  have S1 := S.ex0 hE1
  rw [fA_T_ref09_Table_1, ld_one o_T_Lref05_Use c1]
  refine S1.ix s_T_Lref05_Use (by omega) (fl_length us) (by omega) (by omega) fun b o hcs => ?_
  rw [Int.toNat_natCast, fi] at hcs
  rw [ld_agg g_T_ref05_Use hcs rfl]
  refine alloc_i z_T_ref05_Use (vs := [.int .i64 0, .int .i64 0, .int .u32 0]) rfl fun w2 g2 hg2 hE2 B2 => ?_
  refine st_all g_T_ref05_Use (vs := x.cells) rfl (by intro v hv; simp [U.cells] at hv; rcases hv with rfl | rfl | rfl <;> rfl) B2 rfl fun w3 hE3 Bx => ?_
  have E13 : Ex [] w1 w3 := hE2.new hE3 (by omega)
  have c1' : w3.cell? ⟨g1, 0 + 1, none⟩ = some v := (B1.ex E13 (by simp)).cell 1
  rw [fA_T_ref09_Table_1, ld_one o_T_Lref05_Use c1']
  refine (S1.ex0 E13).ix s_T_Lref05_Use (by omega) (fl_length us) (by omega) (by omega) fun b o hcs => ?_
  rw [Int.toNat_natCast, fj] at hcs
  rw [ld_agg g_T_ref05_Use hcs rfl]
  refine alloc_i z_T_ref05_Use (vs := [.int .i64 0, .int .i64 0, .int .u32 0]) rfl fun w4 g4 hg4 hE4 B4 => ?_
  refine st_all g_T_ref05_Use (vs := y.cells) rfl (by intro v hv; simp [U.cells] at hv; rcases hv with rfl | rfl | rfl <;> rfl) B4 rfl fun w5 hE5 By => ?_
  have E35 : Ex [] w3 w5 := hE4.new hE5 (by omega)
  have Bx5 := Bx.ex E35 (by simp)
  have c0 : w5.cell? ⟨g1, 0 + 0, none⟩ = some (.int .i64 room) := ((B1.ex E13 (by simp)).ex E35 (by simp)).cell 0
  have x0 : w5.cell? ⟨g2, 0 + 0, none⟩ = some (.int .i64 x.live) := Bx5.cell 0
  have x2 : w5.cell? ⟨g2, 0 + 2, none⟩ = some (.int .u32 x.age) := Bx5.cell 2
  have y0 : w5.cell? ⟨g4, 0 + 0, none⟩ = some (.int .i64 y.live) := By.cell 0
  have y2 : w5.cell? ⟨g4, 0 + 2, none⟩ = some (.int .u32 y.age) := By.cell 2
  have hbx := hok.all x hxm
  have hby := hok.all y hym
  have hr1 := hok.r1
  have hr2 := hok.r2
  have hn1 := hok.n1
  have hn2 := hok.n2
  have age : ∀ (u : U) (g : Nat), (0 ≤ u.age ∧ u.age < 4294967296) → w5.cell? ⟨g, 0 + 2, none⟩ = some (.int .u32 u.age) → ∀ (k1 : Value → World → Prop), k1 (.int .u64 (wage now u)) w5 →
      (wFieldA P T_ref05_Use (ptr g) 2 w5 fun t23 w => wLoad P T_uint32 t23 w fun t24 w => wBin P .leq T_uint32 t24 (.int .u32 now) w fun t26 w =>
        wIf t26 (wConv P T_uint32 T_uint64 (.int .u32 now) w fun t28 w => wFieldA P T_ref05_Use (ptr g) 2 w fun t29 w => wLoad P T_uint32 t29 w fun t30 w => wConv P T_uint32 T_uint64 t30 w fun t31 w => wBin P .sub T_uint64 t28 t31 w fun t32 w => wBin P .add T_uint64 t32 (.int .u64 1) w fun t33 w => k1 t33 w) (k1 (.int .u64 1) w)) := by
    intro u g hu hc k1 hk1
    rw [fA_T_ref05_Use_2, ld_one o_T_uint32 hc, bin_leq]
    refine wIf_d (fun hle => ?_) (fun hgt => ?_)
    · rw [conv_i i_T_uint32 i_T_uint64, IntWalk.u64_in now (by omega), fA_T_ref05_Use_2, ld_one o_T_uint32 hc, conv_i i_T_uint32 i_T_uint64, IntWalk.u64_in u.age (by omega), bin_subw, IntWalk.u64_in (now - u.age) (by omega), bin_addw, IntWalk.u64_in _ (by omega)]
      unfold wage at hk1
      rw [if_pos hle] at hk1
      rw [Int.add_comm]
      exact hk1
    · unfold wage at hk1
      rw [if_neg hgt] at hk1
      exact hk1
  refine j1_of (fun v w' => w5 = w' ∧ v = .int .u64 (wage now x)) (fun k1 hk1 => age x g2 ⟨hbx.2.2.1, hbx.2.2.2⟩ x2 k1 (hk1 _ _ ⟨rfl, rfl⟩)) ?_
  rintro J vx w' ⟨rfl, rfl⟩
  refine j1_of (fun v w' => w5 = w' ∧ v = .int .u64 (wage now y)) (fun k1 hk1 => age y g4 ⟨hby.2.2.1, hby.2.2.2⟩ y2 k1 (hk1 _ _ ⟨rfl, rfl⟩)) ?_
  rintro J2 vy w' ⟨rfl, rfl⟩
  have hwx := wage_rng hok hxm
  have hwy := wage_rng hok hym
  have gx := gain_rng hok hxm
  have gy := gain_rng hok hym
  have r1 := gc_rng hok hxm hym
  have r2 := gc_rng hok hym hxm
  have ex : IntKind.wrap .u64 ((room - x.live) * wage now x) = gain room now x := IntWalk.u64_in _ (by unfold gain at gx; omega)
  have ey : IntKind.wrap .u64 ((room - y.live) * wage now y) = gain room now y := IntWalk.u64_in _ (by unfold gain at gy; omega)
  have cx : (room + x.live) = cost room x := rfl
  have cy : (room + y.live) = cost room y := rfl
  rw [fA_T_ref09_Table_0, ld_one o_T_int c0, fA_T_ref05_Use_0, ld_one o_T_int x0, bin_sub (by omega), conv_i i_T_int i_T_uint64, IntWalk.u64_in (room - x.live) (by omega), bin_mulw, ex]
  rw [fA_T_ref09_Table_0, ld_one o_T_int c0, fA_T_ref05_Use_0, ld_one o_T_int y0, bin_add (by omega), conv_i i_T_int i_T_uint64, IntWalk.u64_in (room + y.live) (by omega), cy, bin_mulw, IntWalk.u64_in _ (by omega)]
  rw [fA_T_ref09_Table_0, ld_one o_T_int c0, fA_T_ref05_Use_0, ld_one o_T_int y0, bin_sub (by omega), conv_i i_T_int i_T_uint64, IntWalk.u64_in (room - y.live) (by omega), bin_mulw, ey]
  rw [fA_T_ref09_Table_0, ld_one o_T_int c0, fA_T_ref05_Use_0, ld_one o_T_int x0, bin_add (by omega), conv_i i_T_int i_T_uint64, IntWalk.u64_in (room + x.live) (by omega), cx, bin_mulw, IntWalk.u64_in (gain room now y * cost room x) (by omega), bin_gtr]
  have := hk w5 ((hE1.trans E13).trans E35)
  unfold btr at this
  rw [hx, hy] at this
  exact this
end
end Go.Dn
end
section
/-! The reference's Order: by selection. -/
set_option maxRecDepth 10000
set_option linter.unusedVariables false
set_option linter.unusedSimpArgs false
namespace Go.Dn
open Go
def isD (us : List U) (i : Nat) : Bool := match us[i]? with | some u => decide (u.state = 1) | none => false
theorem mem_idx {us : List U} {i : Nat} : i ∈ idx (fun u => decide (u.state = 1)) us us.length ↔ i < us.length ∧ isD us i = true := by
  unfold idx isD
  rw [List.mem_filter, List.mem_range]
  exact Iff.rfl
def marks (M : List Nat) (n : Nat) : List Value := (List.range n).map fun i => .bool (decide (i ∈ M))
theorem marks_get (M : List Nat) {n i : Nat} (h : i < n) : (marks M n)[i]? = some (.bool (decide (i ∈ M))) := by simp [marks, h]
theorem marks_len (M : List Nat) (n : Nat) : (marks M n).length = n := by simp [marks]
theorem marks_set (M : List Nat) {n i : Nat} (h : i < n) : (marks M n).set i (.bool true) = marks (M ++ [i]) n := by
  apply List.ext_getElem?
  intro j
  rw [List.getElem?_set]
  by_cases hj : j < n
  · rw [marks_get _ hj, marks_get _ hj, marks_len]
    by_cases hij : i = j
    · subst hij; rw [if_pos rfl, if_pos h]; simp
    · rw [if_neg hij]
      have : decide (j ∈ M ++ [i]) = decide (j ∈ M) := by rw [decide_eq_decide]; simp; omega
      rw [this]
  · rw [if_neg (by omega), List.getElem?_eq_none (by rw [marks_len]; omega), List.getElem?_eq_none (by rw [marks_len]; omega)]
theorem marks_0 : ∀ n, marks [] n = (List.replicate n [Value.bool false]).flatten := by
  intro n
  apply List.ext_getElem?
  intro j
  by_cases hj : j < n
  · rw [marks_get _ hj]
    simp [List.flatten_replicate_singleton, hj]
  · rw [List.getElem?_eq_none (by rw [marks_len]; omega), List.getElem?_eq_none (by simp; omega)]
section
variable {w : World} {K : Value → World → Prop}
theorem make_bool {n : Nat} (hn : n ≤ 1000000) (hk : ∀ w' g, g = w.heap.size → Ex [] w w' → Blk w' g T_bool (marks [] n) → K (.slice (some ⟨g, 0, none⟩) n n) w') : wMake P T_Lbool (.int .i64 (n : Int)) (.int .i64 (n : Int)) w K := by
  have hi : (P.info? T_bool).map (fun i => (i.zero, i.size, i.bytes)) = some (some (.bool false), 1, 1) := by kernel_rfl
  cases hI : P.info? T_bool with
  | none => rw [hI] at hi; cases hi
  | some i =>
    rw [hI] at hi
    simp only [Option.map_some, Option.some.injEq, Prod.mk.injEq] at hi
    refine make_i (n := n) (bytes := 1) (zs := [.bool false]) u_T_Lbool hI hi.1 rfl (by simp) hi.2.1 hi.2.2 (by simp; omega) (by omega) fun w1 g1 hg1 hE1 B1 => hk w1 g1 hg1 hE1 ?_
    rw [marks_0]; exact B1
theorem ref09_Order {v : Value} {room now : Int} {us : List U} {k : Value → World → Prop} (S : SlG w 3 v (fl us)) (hok : UOk room now us) (hn : us.length ≤ 1000)
    (hk : ∀ v' w' M, Ex [] w w' → SlG w' 1 v' (ivs M) → M.Perm (idx (fun u => decide (u.state = 1)) us us.length) → M.Pairwise (RR (btr room now us)) → k v' w') : wCall P n_ref09_Order [.agg ⟨[.int .i64 room, v]⟩, .int .u32 now] w k := by
  refine call_ref09_Order _ _ ?_
  unfold F_ref09_Order
  have Sw := btr_swo hok
  have hnd : (idx (fun u => decide (u.state = 1)) us us.length).Nodup := (idx_sorted _ us us.length).imp fun h => by omega
  refine box_i (vs := [.int .i64 room, v]) rfl fun w1 g1 hg1 hE1 B1 => ?_
  have c1 : w1.cell? ⟨g1, 0 + 1, none⟩ = some v := B1.cell 1
  rw [fA_T_ref09_Table_1, ld_one o_T_Lref05_Use c1, (S.ex0 hE1).len_i u_T_Lref05_Use (by omega) (fl_length us)]
  refine make_bool (by omega) fun w2 gu hgu hE2 Bu => ?_
  have l1 := hE1.le
  have l2 := hE2.le
  have B12 := B1.ex hE2 (by simp)
  have lt1 := B12.lt
  have ltg := B1.lt
  have ltu := Bu.lt
  have E2 := hE1.trans hE2
  refine loop_m1 (n := (idx (fun u => decide (u.state = 1)) us us.length).length) (fun n x w' => ∃ M R, n = R.length ∧ Ex [gu] w2 w' ∧ Own w' w2.heap.size T_int 1 x (ivs M) ∧ Blk w' gu T_bool (marks M us.length) ∧ (M ++ R).Perm (idx (fun u => decide (u.state = 1)) us us.length) ∧ M.Pairwise (RR (btr room now us)) ∧ ∀ m ∈ M, ∀ r ∈ R, RR (btr room now us) m r)
    ⟨[], _, rfl, Ex.refl _ _, Own.nil _ _ _ _, Bu, List.Perm.refl _, List.Pairwise.nil, by simp⟩ ?_
  rintro n J x w3 k1 ⟨M, R, rfl, hE3, hO3, Bu3, hperm, hM, hMR⟩ hk1
  have l3 := hE3.le
  have E3 : Ex [] w w3 := E2.new hE3 (by omega)
  have B13 := B12.ex hE3 (by simp; omega)
  have hndMR : (M ++ R).Nodup := hperm.nodup_iff.2 hnd
  have hRmem : ∀ i, i ∈ R ↔ (i < us.length ∧ isD us i = true ∧ i ∉ M) := by
    intro i
    have h1 : i ∈ M ++ R ↔ i < us.length ∧ isD us i = true := hperm.mem_iff.trans mem_idx
    rw [List.mem_append] at h1
    rw [List.nodup_append] at hndMR
    constructor
    · intro hi
      have := h1.1 (.inr hi)
      exact ⟨this.1, this.2, fun hm => hndMR.2.2 i hm i hi rfl⟩
    · rintro ⟨a, b, c⟩
      exact (h1.2 ⟨a, b⟩).resolve_left c
  have hMlt : ∀ m ∈ M, m < us.length := fun m hm => (mem_idx.1 (hperm.mem_iff.1 (List.mem_append_left _ hm))).1
  refine j1_of (fun b w' => Ex [] w3 w' ∧ ((b = .int .i64 (-1) ∧ R = []) ∨ ∃ q : Nat, b = .int .i64 (q : Int) ∧ q ∈ R ∧ ∀ c ∈ R, c = q ∨ RR (btr room now us) q c)) (fun k2 hk2 => ?_) ?_
  · refine loop_up2 us.length (fun i b y w' => y = .int .i64 (i : Int) ∧ Ex [] w3 w' ∧ ((b = .int .i64 (-1) ∧ ∀ c ∈ R, ¬ c < i) ∨ ∃ q : Nat, b = .int .i64 (q : Int) ∧ q ∈ R ∧ q < i ∧ ∀ c ∈ R, c < i → c = q ∨ RR (btr room now us) q c)) ⟨rfl, Ex.refl _ _, .inl ⟨rfl, fun c _ h => by omega⟩⟩ ?_
    rintro i J2 b y wa k3 hi ⟨rfl, hEa, hb⟩ hk3
    have E3a := E3.trans hEa
    have c1 : wa.cell? ⟨g1, 0 + 1, none⟩ = some v := (B13.ex hEa (by simp)).cell 1
    have Sa := S.ex0 E3a
    rw [fA_T_ref09_Table_1, ld_one o_T_Lref05_Use c1, Sa.len_i u_T_Lref05_Use (by omega) (fl_length us), bin_lss]
    refine wIf_d (fun hlt => ?_) (fun hge => ?_)
    · have hlt : i < us.length := by omega
      have hug : us[i]? = some us[i] := List.getElem?_eq_getElem hlt
      have hid : isD us i = decide (us[i].state = 1) := by unfold isD; rw [hug]
      have fe := fl_elem hlt
      rw [fA_T_ref09_Table_1, ld_one o_T_Lref05_Use c1]
      refine Sa.ix s_T_Lref05_Use (by omega) (fl_length us) (by omega) (by omega) fun bb o hcs => ?_
      rw [Int.toNat_natCast, fe] at hcs
      have d1 : wa.cell? ⟨bb, o + 1, none⟩ = some (.int .i64 us[i].state) := hcs 1 _ rfl
      rw [fA_T_ref05_Use_1, ld_one o_T_int d1, bin_eql, ← hid]
      have hBua := Bu3.ex hEa (by simp)
      refine and_i (r := !decide (i ∈ M)) (fun _ k' hk' => ?_) ?_
      · rw [indexS_i s_T_Lbool (by omega) (by omega), show 0 + (i : Int).toNat * 1 = i by omega, ld_one o_T_bool ((hBua.cell i).trans (marks_get M hlt)), un_not]
        exact hk'
      have hcand : (isD us i && !decide (i ∈ M)) = decide (i ∈ R) := by
        rw [Bool.eq_iff_iff, decide_eq_true_eq, hRmem, Bool.and_eq_true]
        simp [hlt]
      rw [hcand]
      rcases hb with ⟨rfl, hnone⟩ | ⟨q, rfl, hqR, hqi, hq⟩
      · refine and_w (r := true) (fun _ k' hk' => ?_) fun wb hEb => ?_
        · rw [bin_lss]
          refine or_w (r := true) (fun h => by cases h) fun wc hEc => ?_
          exact hk' wc hEc
        have hEab := hEa.trans hEb
        rw [Bool.and_true]
        refine wIf_d (fun hin => ?_) (fun hout => ?_)
        · rw [bin_add (by omega)]
          refine hk3 _ _ _ (by omega) ⟨by simp, hEab, .inr ⟨i, rfl, hin, by omega, fun c hc hci => ?_⟩⟩
          have := hnone c hc
          exact .inl (by omega)
        · rw [bin_add (by omega)]
          refine hk3 _ _ _ (by omega) ⟨by simp, hEab, .inl ⟨rfl, fun c hc hci => ?_⟩⟩
          have := hnone c hc
          have : c = i := by omega
          subst this
          exact hout hc
      · have hqlt : q < us.length := by omega
        refine and_w (r := btr room now us i q) (fun hin k' hk' => ?_) fun wb hEb => ?_
        · rw [bin_lss, decide_eq_false (by omega)]
          refine or_w (r := btr room now us i q) (fun _ k2 hk2 => ?_) fun wc hEc => by rw [Bool.false_or]; exact hk' wc hEc
          rw [ld_aggT g_T_ref09_Table rfl _ _ _ (B13.ex hEa (by simp))]
          exact ref09_Better Sa hok hn hlt hqlt fun wc hEc => hk2 wc hEc
        have hEab := hEa.trans hEb
        refine wIf_i _ (fun hc => ?_) (fun hc => ?_)
        · rw [Bool.and_eq_true, decide_eq_true_eq] at hc
          rw [bin_add (by omega)]
          refine hk3 _ _ _ (by omega) ⟨by simp, hEab, .inr ⟨i, rfl, hc.1, by omega, fun c hcR hci => ?_⟩⟩
          rcases Nat.lt_or_ge c i with h1 | h1
          · have hiq : RR (btr room now us) i q := .inl hc.2
            rcases hq c hcR h1 with rfl | h
            · exact .inr hiq
            · exact .inr (RR.trans Sw hlt hqlt ((hRmem c).1 hcR).1 hiq h)
          · exact .inl (by omega)
        · rw [bin_add (by omega)]
          refine hk3 _ _ _ (by omega) ⟨by simp, hEab, .inr ⟨q, rfl, hqR, by omega, fun c hcR hci => ?_⟩⟩
          rcases Nat.lt_or_ge c i with h1 | h1
          · exact hq c hcR h1
          · have : c = i := by omega
            subst this
            rw [decide_eq_true hcR, Bool.true_and] at hc
            exact .inr (.inr ⟨hc, hqi⟩)
    · obtain rfl : i = us.length := by omega
      refine hk2 _ wa ⟨hEa, ?_⟩
      rcases hb with ⟨rfl, hnone⟩ | ⟨q, rfl, hqR, hqi, hq⟩
      · refine .inl ⟨rfl, ?_⟩
        match hR : R with
        | [] => rfl
        | c :: R' => exact absurd ((hRmem c).1 (by simp)).1 (hnone c (by simp))
      · exact .inr ⟨q, rfl, hqR, fun c hc => hq c hc ((hRmem c).1 hc).1⟩
  · rintro J2 b wa ⟨hEa, hb⟩
    rcases hb with ⟨rfl, rfl⟩ | ⟨q, rfl, hqR, hq⟩
    · rw [bin_lss, wIf_dt (by omega)]
      rw [List.append_nil] at hperm
      exact hk _ wa M (E3.trans hEa) (hO3.ex0 hEa).slg hperm hM
    · rw [bin_lss, wIf_df (by omega)]
      have hqlt := ((hRmem q).1 hqR).1
      rw [indexS_i s_T_Lbool (by omega) (by omega), show 0 + (q : Int).toNat * 1 = q by omega]
      refine st_one o_T_bool rfl (Bu3.ex hEa (by simp)) (by rw [marks_len]; exact hqlt) fun wb hEb Bb => ?_
      rw [marks_set M hqlt] at Bb
      have hla := hEa.le
      have hlb := hEb.le
      have hO4 : Own wb w2.heap.size T_int 1 x (ivs M) := (hO3.ex0 hEa).ex hEb fun g hg hm => by
        have := hO3.newb g (by rw [hg]; simp)
        simp at hm
        omega
      have hMl : M.length ≤ us.length := by
        have h1 := hperm.length_eq
        have h2 := idx_le (fun u => decide (u.state = 1)) us us.length
        rw [List.length_append] at h1
        omega
      refine push_int hO4 rfl (by omega) (by omega) fun v' wc hO5 hEc _ => ?_
      have hnb := fun y hy => hO4.newb y hy
      have Bc := Bb.ex hEc fun hm => by have := hnb _ hm; omega
      refine hk1 (R.erase q).length _ _ (by rw [List.length_erase_of_mem hqR]; have := List.length_pos_of_mem hqR; omega) ⟨M ++ [q], R.erase q, rfl, ?_, hO5, Bc, ?_, ?_, ?_⟩
      · exact ((hE3.trans (hEa.mono (by simp))).trans hEb).step hEc fun y hy => .inr (hnb y hy).1
      · refine List.Perm.trans ?_ hperm
        rw [List.append_assoc]
        exact List.Perm.append_left _ (List.perm_cons_erase hqR).symm
      · rw [List.pairwise_append]
        exact ⟨hM, List.pairwise_singleton _ _, fun m hm y hy => by rw [List.mem_singleton] at hy; subst hy; exact hMR m hm _ hqR⟩
      · intro m hm r hr
        have hrR := List.mem_of_mem_erase hr
        rcases List.mem_append.1 hm with hm | hm
        · exact hMR m hm r hrR
        · rw [List.mem_singleton] at hm
          subst hm
          refine (hq r hrR).resolve_left fun e => ?_
          subst e
          rw [List.nodup_append] at hndMR
          exact absurd hr (hndMR.2.1.not_mem_erase)
end
end Go.Dn
end
section
/-! 'x & 3' of an int. -/
set_option maxRecDepth 10000
set_option linter.unusedVariables false
set_option linter.unusedSimpArgs false
namespace Go.Dn
open Go
theorem and3_i (n : Int) : ∃ s : Nat, s ≤ 3 ∧ ∀ (t : TypeId) (w : World) (K : Value → World → Prop), wBin P .and t (.int .i64 n) (.int .i64 3) w K = K (.int .i64 (s : Int)) w := by
  refine ⟨(BitVec.ofInt 64 n).toNat &&& 3, Nat.and_le_right, fun t w K => ?_⟩
  have hle : (BitVec.ofInt 64 n).toNat &&& 3 ≤ 3 := Nat.and_le_right
  refine bin_int ?_
  have e3 : (BitVec.ofInt 64 3).toNat = 3 := by decide
  have hx : (BitVec.ofInt 64 n &&& BitVec.ofInt 64 3).toNat = (BitVec.ofInt 64 n).toNat &&& 3 := by rw [BitVec.toNat_and, e3]
  have hw : IntKind.wrap .i64 (((BitVec.ofInt 64 n &&& BitVec.ofInt 64 3).toNat : Nat) : Int) = (((BitVec.ofInt 64 n).toNat &&& 3 : Nat) : Int) := by
    rw [hx]
    exact IntWalk.i64_in _ (by omega)
  simp only [binOp, ne_eq, not_true_eq_false, if_false, Op.intBits]
  exact congrArg (fun z => (pure (Value.int .i64 z) : Sem Value)) hw
end Go.Dn
end
section
/-! Law 09: UsageOrders. -/
set_option maxRecDepth 10000
set_option linter.unusedVariables false
set_option linter.unusedSimpArgs false
namespace Go.Dn
open Go
noncomputable def and3 (n : Int) : Int := ((and3_i n).choose : Nat)
theorem and3_rng (n : Int) : 0 ≤ and3 n ∧ and3 n ≤ 3 := by
  have := (and3_i n).choose_spec.1
  unfold and3
  omega
theorem bin_and3 (n : Int) (t : TypeId) (w : World) (K : Value → World → Prop) : wBin P .and t (.int .i64 n) (.int .i64 3) w K = K (.int .i64 (and3 n)) w := (and3_i n).choose_spec.2 t w K
noncomputable def nrm (R : Int) (u : U) : U := ⟨max 0 (min u.live R), and3 u.state, u.age⟩
section
variable {w : World} {K : Value → World → Prop}
theorem own_off {b1 b2 s1 s2 : Nat} {e1 e2 : TypeId} {v1 v2 : Value} {xs1 xs2 : List Value} (h1 : Own w b1 e1 s1 v1 xs1) (h2 : Own w b2 e2 s2 v2 xs2) (he : e1 ≠ e2) : ∀ g, v1.ownBlock = some g → g ∉ v2.ownBlock.toList := by
  intro g hg hm
  rcases h1.slb with ⟨rfl, _⟩ | ⟨b, A, C, n, c, rfl, hB, _⟩
  · simp [Value.ownBlock] at hg
  · rcases h2.slb with ⟨rfl, _⟩ | ⟨b', A', C', n', c', rfl, hB', _⟩
    · simp [Value.ownBlock] at hm
    · simp only [Value.ownBlock, Option.some.injEq] at hg
      simp only [Value.ownBlock, Option.toList_some, List.mem_singleton] at hm
      subst hg
      subst hm
      exact hB.ne hB' he rfl
theorem push_ruse {base : Nat} {v : Value} {us : List U} {u : U} {K : Value → World → Prop} (ho : Own w base T_ref05_Use 3 v (fl us)) (hb : us.length ≤ 100000) (hba : base ≤ w.heap.size)
    (hk : ∀ v' w', Own w' base T_ref05_Use 3 v' (fl (us ++ [u])) → Ex v.ownBlock.toList w w' → (v'.ownBlock = v.ownBlock ∨ ∃ g, v'.ownBlock = some g ∧ w.heap.size ≤ g) → K v' w') :
    wBuildS P T_Lref05_Use 1 [(0, .agg ⟨u.cells⟩)] w fun t w => wBuiltin P .append #[T_Lref05_Use, T_Lref05_Use] [v, t] w K := by
  refine buildS_1 u_T_Lref05_Use (sizeOf_agg g_T_ref05_Use) z_T_ref05_Use (by omega) rfl rfl rfl fun w1 g1 hg1 hE1 B1 => ?_
  have hle := hE1.le
  refine app_T_Lref05_Use (n := us.length) (m := 1) (ho.ex0 hE1) (SlG.of_cs B1.all rfl (Nat.le_refl _)) (fl_length us) rfl (U.cells_c u) (by omega) (by omega) fun v' w2 hO hE hv => ?_
  refine hk v' w2 (by rw [fl_append]; simpa [fl] using hO) (hE1.nil.trans hE) ?_
  rcases hv with h | h
  · exact .inl h
  · exact .inr ⟨_, h, by omega⟩
theorem law09_UsageOrders {room now : Int} {v : Value} {us0 : List U} {k : Value → World → Prop} (S0 : SlG w 3 v (fl us0)) (hage : ∀ u ∈ us0, 0 ≤ u.age ∧ u.age < 4294967296) (hnow : 0 ≤ now ∧ now < 4294967296) (hk : ∀ w', Ex [] w w' → k (.bool true) w') : wCall P n_law09_UsageOrders [.int .i64 room, v, .int .u32 now] w k := by
  refine call_law09_UsageOrders _ _ _ ?_
  unfold F_law09_UsageOrders
  refine law09_awake fun w1 hE1 => ?_
  rw [un_not, show (!true) = false from rfl, wIf_f]
  have S1 := S0.ex0 hE1
  refine j1_of (fun v1 w' => w1 = w' ∧ ∃ us : List U, us.length ≤ 40 ∧ (∀ u ∈ us, 0 ≤ u.age ∧ u.age < 4294967296) ∧ SlG w1 3 v1 (fl us)) (fun k' hk' => ?_) ?_
  · rw [S1.len_i u_T_Lref05_Use (by omega) (fl_length us0), bin_gtr]
    refine wIf_d (fun hlt => ?_) (fun hge => ?_)
    · refine S1.hi s_T_Lref05_Use (by omega) (fl_length us0) (by omega) (by omega) fun v' _ S' => ?_
      refine hk' _ _ ⟨rfl, us0.take 40, by simp; omega, fun u hu => hage u (List.mem_of_mem_take hu), ?_⟩
      rw [show (40 : Int).toNat * 3 = 40 * 3 from rfl, fl_take] at S'
      exact S'
    · exact hk' _ _ ⟨rfl, us0, by omega, hage, S1⟩
  rintro J v1 w' ⟨rfl, us, hn, hag, S⟩
  refine ref09_New fun w2 d2 hd2 hE2 B2 => ?_
  generalize hR : max 1 (min room 4096) = R
  have hR1 : 1 ≤ R ∧ R ≤ 4096 := by omega
  refine alloc_i z_T_ref09_Table rfl fun w3 g3 hg3 hE3 B3 => ?_
  refine st_agg g_T_ref09_Table rfl (by simp [isC]) B3 (by simp) fun w4 hE4 B4 => ?_
  have B4 : Blk w4 g3 T_ref09_Table [.int .i64 R, .slice (some ⟨d2, 0, none⟩) 1 1] := B4
  rw [fA_T_ref09_Table_1]
  refine st_one o_T_Lref05_Use rfl B4 (by simp) fun w5 hE5 B5 => ?_
  have B5 : Blk w5 g3 T_ref09_Table [.int .i64 R, .slice none 0 0] := B5
  have E25 : Ex [] w2 w5 := (hE3.new hE4 (by omega)).new hE5 (by omega)
  have E5 : Ex [] w w5 := (hE1.trans hE2).trans E25
  have S5 := (S.ex0 hE2).ex0 E25
  have lt5 := B5.lt
  refine j1_of (fun a w' => Ex [g3] w5 w' ∧ Own w' w5.heap.size T_codec_Use 3 a (fl (us.map (nrm R))) ∧ ∃ b, Own w' w5.heap.size T_ref05_Use 3 b (fl (us.map (nrm R))) ∧ Blk w' g3 T_ref09_Table [.int .i64 R, b]) (fun k' hk' => ?_) ?_
  · rw [S5.len_i u_T_Lref05_Use (by omega) (fl_length us)]
    have lg3 : w1.heap.size ≤ g3 := by have := hE2.le; omega
    refine loop_up2 us.length (fun i a y w' => y = .int .i64 (i : Int) ∧ Ex [g3] w5 w' ∧ Own w' w5.heap.size T_codec_Use 3 a (fl ((us.take i).map (nrm R))) ∧ ∃ b, Own w' w5.heap.size T_ref05_Use 3 b (fl ((us.take i).map (nrm R))) ∧ Blk w' g3 T_ref09_Table [.int .i64 R, b])
      ⟨rfl, Ex.refl _ _, Own.nil _ _ _ _, .slice none 0 0, Own.nil _ _ _ _, B5⟩ ?_
    rintro i J2 a y wa k2 hi ⟨rfl, hEa, hOa, b, hOb, Ba⟩ hk2
    rw [bin_lss]
    refine wIf_d (fun hlt => ?_) (fun hge => ?_)
    · have hlt : i < us.length := by omega
      have hu := List.getElem?_eq_getElem hlt
      have htk : (us.take (i + 1)).map (nrm R) = (us.take i).map (nrm R) ++ [nrm R us[i]] := by rw [List.take_succ_eq_append_getElem hlt, List.map_append]; rfl
      have htl : ((us.take i).map (nrm R)).length ≤ 100000 := by rw [List.length_map, List.length_take]; omega
      have E1a : Ex [] w1 wa := (hE2.trans E25).step hEa (by simp; omega)
      refine (S.ex0 E1a).ix s_T_Lref05_Use (by omega) (fl_length us) (by omega) (by omega) fun bb o hcs => ?_
      rw [Int.toNat_natCast, fl_cell hu] at hcs
      generalize us[i] = u at *
      rw [ld_agg g_T_ref05_Use hcs rfl]
      refine alloc_i z_T_ref05_Use rfl fun wb g hg hEb Bb => ?_
      refine st_agg g_T_ref05_Use rfl (U.cells_c _) Bb (by simp) fun wc hEc Bc => ?_
      have Bc : Blk wc g T_ref05_Use u.cells := Bc
      have Eac : Ex [] wa wc := hEb.new hEc (by omega)
      have lea := hEa.le
      have leb := hEb.le
      have lec := Eac.le
      have ltg := Bc.lt
      have Bac := Ba.ex Eac (by simp)
      have d0 : wc.cell? ⟨g, 0 + 0, none⟩ = some (.int .i64 u.live) := Bc.cell 0
      have r0 : wc.cell? ⟨g3, 0 + 0, none⟩ = some (.int .i64 R) := Bac.cell 0
      rw [fA_T_ref05_Use_0, ld_one o_T_int d0, fA_T_ref09_Table_0, ld_one o_T_int r0, min_i, max_i, fA_T_ref05_Use_0]
      refine st_one o_T_int rfl Bc (by simp [U.cells]) fun wd hEd Bd => ?_
      have Bd : Blk wd g T_ref05_Use [.int .i64 (max 0 (min u.live R)), .int .i64 u.state, .int .u32 u.age] := Bd
      have d1 : wd.cell? ⟨g, 0 + 1, none⟩ = some (.int .i64 u.state) := Bd.cell 1
      rw [fA_T_ref05_Use_1, ld_one o_T_int d1, bin_and3, fA_T_ref05_Use_1]
      refine st_one o_T_int rfl Bd (by simp) fun we hEe Be => ?_
      have Be : Blk we g T_ref05_Use (nrm R u).cells := Be
      have Eae : Ex [] wa we := (Eac.new hEd (by omega)).new hEe (by omega)
      have lee := Eae.le
      have Bae := Ba.ex Eae (by simp)
      have r1 : we.cell? ⟨g3, 0 + 1, none⟩ = some b := Bae.cell 1
      rw [fA_T_ref09_Table_1, ld_one o_T_Lref05_Use r1, ld_agg g_T_ref05_Use Be.all rfl]
      have hOae := hOa.ex0 Eae
      have hObe := hOb.ex0 Eae
      have hnb := fun y hy => hOb.newb y hy
      refine push_ruse hObe htl (by omega) fun b' wf hOf hEf hWf => ?_
      have lef := hEf.le
      have hOaf := hOae.ex hEf (own_off hOae hObe (by decide))
      have Bgf := Be.ex hEf fun hm => by have := hnb _ hm; omega
      have B3f := Bae.ex hEf fun hm => by have := hnb _ hm; omega
      rw [fA_T_ref09_Table_1]
      refine st_one o_T_Lref05_Use (by obtain ⟨m', hl', hv'⟩ := hOf; rcases hv' with ⟨rfl, _⟩ | ⟨g', cap, cur, rfl, _⟩ <;> rfl) B3f (by simp) fun wg hEg Bg => ?_
      have Bg : Blk wg g3 T_ref09_Table [.int .i64 R, b'] := Bg
      have leg := hEg.le
      have offg : ∀ {v : Value} {e : TypeId} {xs : List Value} {ww : World}, Own ww w5.heap.size e 3 v xs → ∀ gg, v.ownBlock = some gg → gg ∉ [g3] := fun h gg hgg hm => by
        have := h.newb gg (by rw [hgg]; simp)
        simp at hm
        omega
      have hOag := hOaf.ex hEg (offg hOaf)
      have hObg := hOf.ex hEg (offg hOf)
      have Bgg := Bgf.ex hEg (by simp; omega)
      have e0 : wg.cell? ⟨g, 0 + 0, none⟩ = some (.int .i64 (nrm R u).live) := Bgg.cell 0
      have e1 : wg.cell? ⟨g, 0 + 1, none⟩ = some (.int .i64 (nrm R u).state) := Bgg.cell 1
      have e2 : wg.cell? ⟨g, 0 + 2, none⟩ = some (.int .u32 (nrm R u).age) := Bgg.cell 2
      rw [fA_T_ref05_Use_0, ld_one o_T_int e0, fA_T_ref05_Use_1, ld_one o_T_int e1, fA_T_ref05_Use_2, ld_one o_T_uint32 e2]
      generalize nrm R u = nu at *
      rw [bl_T_codec_Use (cs := nu.cells) (by
        rw [fill_cons (off := 0) (size := 1) rfl rfl rfl (by simp), fill_cons (off := 1) (size := 1) rfl rfl rfl (by simp [splice]), fill_cons (off := 2) (size := 1) rfl rfl rfl (by simp [splice])]
        rfl)]
      have hna := fun y hy => hOag.newb y hy
      refine push_use hOag htl (by omega) fun a' wh hOh hEh => ?_
      rw [bin_add (by omega)]
      refine hk2 _ _ _ (by omega) ⟨by simp, ?_, by rw [htk]; exact hOh, b', ?_, ?_⟩
      · exact (((hEa.trans (Eae.mono (by simp))).step hEf fun y hy => .inr (hnb y hy).1).trans hEg).step hEh fun y hy => .inr (hna y hy).1
      · rw [htk]
        exact hObg.ex hEh (own_off hObg hOag (by decide))
      · exact Bg.ex hEh fun hm => by have := hna _ hm; omega
    · obtain rfl : i = us.length := by omega
      rw [List.take_length] at hOa hOb
      exact hk' _ _ ⟨hEa, hOa, b, hOb, Ba⟩
  rintro J5 a w6 ⟨hE6, hOa, b, hOb, B6⟩
  have E6 : Ex [] w w6 := E5.step hE6 (by have := E25.le; have := hE3.le; have := hE2.le; have := hE1.le; simp; omega)
  have hml : (us.map (nrm R)).length = us.length := List.length_map ..
  have hok : UOk R now (us.map (nrm R)) := by
    refine ⟨hR1.1, hR1.2, hnow.1, hnow.2, fun u hu => ?_⟩
    obtain ⟨u0, hu0, rfl⟩ := List.mem_map.1 hu
    have := hag u0 hu0
    simp only [nrm]
    omega
  have hst : ∀ u ∈ us.map (nrm R), 0 ≤ u.state ∧ u.state ≤ 3 := fun u hu => by
    obtain ⟨u0, hu0, rfl⟩ := List.mem_map.1 hu
    exact and3_rng u0.state
  generalize us.map (nrm R) = ns at *
  refine usage_Load hOa.slg (by omega) (fun hno w7 hE7 => ?_) fun hyes w7 h d hh hd hE7 T7 => ?_
  · rw [hR] at hno
    have hnil : ns = [] := by
      cases ns with
      | nil => rfl
      | cons u ns =>
        exfalso
        refine hno ⟨by simp, by omega, fun u hu => ?_⟩
        have h1 := hok.all u hu
        have h2 := hst u hu
        exact ⟨h1.1, h1.2.1, h2.1, h2.2⟩
    subst hnil
    rw [ext_0, ext_1, (hOa.ex0 hE7).slg.len_i u_T_Lcodec_Use (by omega) (n := 0) rfl, bin_eql, wIf_dt (by omega), bin_eql]
    refine and_i (r := true) (fun _ k' hk' => ?_) ?_
    · rw [nil_eq_nil u_T_pusage_Table]; exact hk'
    · exact hk w7 (E6.trans hE7)
  · rw [hR] at T7
    have hne := hyes.1
    have hpos := List.length_pos_iff.2 hne
    rw [ext_0, ext_1, (hOa.ex0 hE7).slg.len_i u_T_Lcodec_Use (by omega) (fl_length ns), bin_eql, wIf_df (by omega), bin_neq, decide_eq_false (by simp)]
    have B7 := B6.ex hE7 (by simp)
    have Sb7 := (hOb.ex0 hE7).slg
    refine or_w (r := false) (fun _ k' hk' => ?_) fun w8 hE8 => ?_
    · rw [ld_agg g_T_ref09_Table B7.all rfl]
      refine law09_is T7 Sb7 (fun u hu => by have := hok.all u hu; have := hok.r2; omega) (by omega) fun w8 hE8 => ?_
      rw [un_not]
      exact hk' w8 hE8
    rw [Bool.or_false, wIf_f]
    have T8 := T7.ex0 hE8
    have B8 := B7.ex hE8 (by simp)
    have Sb8 := Sb7.ex0 hE8
    refine usage_Order T8 hok (by omega) fun l w9 M hE9 Sl hp hs => ?_
    have B9 := B8.ex hE9 (by simp)
    have Sb9 := Sb8.ex0 hE9
    have hlt : ∀ i ∈ M, i < ns.length := fun i hi => idx_lt _ _ _ i (hp.mem_iff.1 hi)
    have hMl : M.length ≤ 40 := by have h1 := hp.length_eq; have h2 := idx_le (fun u => decide (u.state = 1)) ns ns.length; omega
    have hil : (ivs M).length = M.length * 1 := by rw [ivs_length, Nat.mul_one]
    have Sw := btr_swo hok
    refine j0_of (fun w' => Ex [] w9 w') (fun k4 hk4 => ?_) ?_
    · refine loop_up M.length (fun i y w' => y = .int .i64 ((i : Int) + 1) ∧ Ex [] w9 w') ⟨rfl, Ex.refl _ _⟩ ?_
      rintro i J9 y wa k5 hi ⟨rfl, hEa⟩ hk5
      rw [(Sl.ex0 hEa).len_i u_T_Lint (by omega) hil, bin_lss]
      refine wIf_d (fun hl => ?_) (fun hge => hk4 wa hEa)
      have hi1 : i + 1 < M.length := by omega
      have hg1 : M[i + 1]? = some M[i + 1] := List.getElem?_eq_getElem hi1
      have hg0 : M[i]? = some M[i] := List.getElem?_eq_getElem (by omega)
      have hrr := pw_get hs (show i < i + 1 by omega) hg0 hg1
      have hm1 := hlt _ (List.getElem_mem hi1)
      have hm0 := hlt _ (List.getElem_mem (show i < M.length by omega))
      generalize M[i + 1] = q at *
      generalize M[i] = p at *
      refine draw_i fun wb hEb _ => ?_
      have Eb := hEa.trans hEb
      have e1 : (ivs M)[((i : Int) + 1).toNat]? = some (.int .i64 (q : Int)) := by rw [show ((i : Int) + 1).toNat = i + 1 by omega]; exact ivs_get hg1
      have e0 : (ivs M)[((i : Int) + 1 - 1).toNat]? = some (.int .i64 (p : Int)) := by rw [show ((i : Int) + 1 - 1).toNat = i by omega]; exact ivs_get hg0
      have Slb := Sl.ex0 Eb
      rw [ld_agg g_T_ref09_Table (B9.ex Eb (by simp)).all rfl]
      refine Slb.ix1 s_T_Lint (by omega) e1 fun ad had => ?_
      rw [ld_one o_T_int had, bin_sub (by omega)]
      refine Slb.ix1 s_T_Lint (by omega) e0 fun ad2 had2 => ?_
      rw [ld_one o_T_int had2]
      refine ref09_Better (Sb9.ex0 Eb) hok (by omega) hm1 hm0 fun wc hEc => ?_
      have hqp : btr R now ns q p = false := by
        cases h : btr R now ns q p with
        | false => rfl
        | true => exact (RR.asymm Sw hm0 hm1 hrr (.inl h)).elim
      rw [hqp]
      refine or_w (r := false) (fun _ k' hk' => ?_) fun wd hEd => ?_
      · have Ec := Eb.trans hEc
        have Slc := Sl.ex0 Ec
        rw [ld_agg g_T_ref09_Table (B9.ex Ec (by simp)).all rfl, bin_sub (by omega)]
        refine Slc.ix1 s_T_Lint (by omega) e0 fun ad3 had3 => ?_
        rw [ld_one o_T_int had3]
        refine Slc.ix1 s_T_Lint (by omega) e1 fun ad4 had4 => ?_
        rw [ld_one o_T_int had4]
        refine ref09_Better (Sb9.ex0 Ec) hok (by omega) hm0 hm1 fun wd hEd => ?_
        rw [un_not]
        refine and_w (r := decide (((q : Nat) : Int) < (p : Int))) (fun _ k2 hk2 => ?_) fun we hEe => ?_
        · have Sld := Slc.ex0 hEd
          rw [bin_sub (by omega)]
          refine Sld.ix1 s_T_Lint (by omega) e0 fun ad5 had5 => ?_
          rw [ld_one o_T_int had5]
          refine Sld.ix1 s_T_Lint (by omega) e1 fun ad6 had6 => ?_
          rw [ld_one o_T_int had6, bin_gtr]
          exact hk2 _ (Ex.refl _ _)
        · have : (!btr R now ns p q && decide (((q : Nat) : Int) < (p : Int))) = false := by
            rcases hrr with h | ⟨_, h⟩
            · rw [h]; rfl
            · rw [decide_eq_false (by omega), Bool.and_false]
          rw [this]
          exact hk' we (hEd.trans hEe)
      · rw [Bool.or_false, wIf_f, bin_add (by omega)]
        exact hk5 _ _ (by omega) ⟨by congr 1, (Eb.trans hEc).trans hEd⟩
    · rintro J9 wa hEa
      rw [ld_agg g_T_ref09_Table (B9.ex hEa (by simp)).all rfl]
      refine ref09_Order (Sb9.ex0 hEa) hok (by omega) fun l2 wb M2 hEb Sl2 hp2 hs2 => ?_
      have hMM : M = M2 := sorted_unique Sw (hp.trans hp2.symm) hlt hs hs2
      subst hMM
      refine ints_same ((Sl.ex0 hEa).ex0 hEb) Sl2 (by omega) fun wc hEc => ?_
      exact hk wc (((((E6.trans hE7).trans hE8).trans hE9).trans hEa).trans (hEb.trans hEc))
end
end Go.Dn
end
section
/-! What an argument reads: structs, arrays and slices of whole numbers and truths, in one another. -/
set_option maxRecDepth 10000
set_option linter.unusedVariables false
set_option linter.unusedSimpArgs false
namespace Go.Dn
open Go Go.ChangeShapes Go.WideShapes Go.Deep
def ArgP {H : Type} (enc : TypeId × Value → H) (P : Program) (w : World) (base : Nat) (held : Bool) (t : TypeId) (n : Nat) (R : List Value → Prop) : Prop :=
  ∀ (fuel : Nat) (cs : List Value) (x : DataW H × List MemPlace), DataW.trod enc P w base (fun _ => true) held fuel t cs = some x → cs.length = n ∧ R cs
section
variable {H : Type} {enc : TypeId × Value → H} {P : Program} {w : World} {base : Nat} {held : Bool} {t : TypeId}
theorem argp_int {k : IntKind} (ht : P.underlying t = some (.int k)) : ArgP enc P w base held t 1 fun cs => ∃ n, cs = [.int k n] ∧ (Lit.int k n).wf = true := by
  intro fuel cs x h
  obtain ⟨n, rfl, _, hw⟩ := DataW.trod_int ht h
  exact ⟨rfl, n, rfl, hw⟩
theorem argp_bool (ht : P.underlying t = some .bool) : ArgP enc P w base held t 1 fun cs => ∃ b, cs = [.bool b] := by
  intro fuel cs x h
  obtain ⟨b, rfl, _⟩ := DataW.trod_bool ht h
  exact ⟨rfl, b, rfl⟩
theorem ArgP.imp {n : Nat} {R R' : List Value → Prop} (h : ArgP enc P w base held t n R) (hR : ∀ cs, cs.length = n → R cs → R' cs) : ArgP enc P w base held t n R' :=
  fun fuel cs x hx => let ⟨h1, h2⟩ := h fuel cs x hx; ⟨h1, hR cs h1 h2⟩
/-- A struct's cells, field by field. -/
def RL : List (TypeId × Nat × (List Value → Prop)) → List Value → Prop
  | [], cs => cs = []
  | (_, n, R) :: L, cs => ∃ a b, cs = a ++ b ∧ a.length = n ∧ R a ∧ RL L b
def AL {H : Type} (enc : TypeId × Value → H) (P : Program) (w : World) (base : Nat) (held : Bool) : List (TypeId × Nat × (List Value → Prop)) → Prop
  | [] => True
  | (ty, n, R) :: L => ArgP enc P w base held ty n R ∧ AL enc P w base held L
def offL : Nat → List (TypeId × Nat × (List Value → Prop)) → List (Nat × TypeId × Nat)
  | _, [] => []
  | o, (ty, n, _) :: L => (o, ty, n) :: offL (o + n) L
theorem rl_of {fuel : Nat} {cs : List Value} : ∀ (fs : List Field) (L : List (TypeId × Nat × (List Value → Prop))) (o : Nat), fs.map (fun f => (f.offset, f.type, P.cellsOf f.type)) = offL o L → AL enc P w base held L → cs.length = o + (L.map (·.2.1)).sum →
    (∀ (i : Nat) (f : Field), fs[i]? = some f → ∃ x, DataW.trod enc P w base (fun _ => true) held fuel f.type ((cs.drop f.offset).take (P.cellsOf f.type)) = some x) → RL L (cs.drop o)
  | [], [], o, _, _, hl, _ => by simp at hl; simp [RL, List.drop_of_length_le (show cs.length ≤ o by omega)]
  | f :: fs, (ty, n, R) :: L, o, hm, hA, hl, hf => by
    simp only [List.map_cons, offL, List.cons.injEq, Prod.mk.injEq] at hm
    obtain ⟨⟨h1, h2, h3⟩, hm⟩ := hm
    obtain ⟨x, hx⟩ := hf 0 f rfl
    rw [h1, h2] at hx
    rw [h2] at h3
    rw [h3] at hx
    obtain ⟨hln, hR⟩ := hA.1 _ _ _ hx
    refine ⟨(cs.drop o).take n, (cs.drop o).drop n, (List.take_append_drop n (cs.drop o)).symm, hln, hR, ?_⟩
    rw [List.drop_drop]
    exact rl_of fs L (o + n) hm hA.2 (by simp at hl ⊢; omega) fun i g hg => hf (i + 1) g (by simpa using hg)
  | [], _ :: _, _, h, _, _, _ => by simp [offL] at h
  | _ :: _, [], _, h, _, _, _ => by simp [offL] at h
theorem argp_struct {L : List (TypeId × Nat × (List Value → Prop))} (ht : P.underlying t = some (.struct (P.fieldsOf t))) (hm : (P.fieldsOf t).toList.map (fun f => (f.offset, f.type, P.cellsOf f.type)) = offL 0 L) (hC : P.cellsOf t = (L.map (·.2.1)).sum)
    (hA : AL enc P w base held L) : ArgP enc P w base held t (L.map (·.2.1)).sum (RL L) := by
  intro fuel cs x h
  obtain ⟨xs, n, _, _, hlen, hxl, hf⟩ := DataW.trod_struct ht h
  refine ⟨by rw [hlen, hC], ?_⟩
  have := rl_of (fuel := n) (cs := cs) _ L 0 hm hA (by rw [hlen, hC]; omega) fun i f hi => by
    have hi' : (P.fieldsOf t)[i]? = some f := by rw [← Array.getElem?_toList]; exact hi
    have hlt : i < (P.fieldsOf t).size := (Array.getElem?_eq_some_iff.1 hi').1
    exact ⟨xs[i], (hf i f hi').trans (List.getElem?_eq_getElem (by omega))⟩
  simpa using this
theorem argp_array {e : TypeId} {m n : Nat} {R : List Value → Prop} (ht : P.underlying t = some (.array m e)) (hC : P.cellsOf t = m * n) (hCe : P.cellsOf e = n) (hE : ArgP enc P w base held e n R) :
    ArgP enc P w base held t (m * n) fun cs => ∃ xss : List (List Value), cs = xss.flatten ∧ xss.length = m ∧ ∀ xs ∈ xss, xs.length = n ∧ R xs := by
  intro fuel cs x h
  obtain ⟨ys, k, _, _, hlen, hyl, hf⟩ := DataW.trod_array ht h
  rw [hC] at hlen
  rw [hCe] at hf
  refine ⟨hlen, (List.range m).map fun i => (cs.drop (i * n)).take n, ?_, by simp, ?_⟩
  · have key : ∀ j, j ≤ m → ((List.range j).map fun i => (cs.drop (i * n)).take n).flatten = cs.take (j * n) := by
      intro j
      induction j with
      | zero => intro _; simp
      | succ j ih =>
        intro hj
        rw [List.range_succ, List.map_append, List.flatten_append, ih (by omega), Nat.succ_mul, List.take_add]
        simp
    rw [key m (Nat.le_refl _), List.take_of_length_le (by omega)]
  · intro xs hx
    obtain ⟨i, hi, rfl⟩ := List.mem_map.1 hx
    rw [List.mem_range] at hi
    have := hf i hi
    rw [List.getElem?_eq_getElem (by omega)] at this
    exact hE _ _ _ this
theorem list_of' {α : Type} {Q : Nat → α → Prop} : ∀ n, (∀ i, i < n → ∃ u, Q i u) → ∃ l : List α, l.length = n ∧ ∀ i u, l[i]? = some u → Q i u
  | 0, _ => ⟨[], rfl, by simp⟩
  | n + 1, h => by
    obtain ⟨l, hl, hq⟩ := list_of' n fun i hi => h i (by omega)
    obtain ⟨u, hu⟩ := h n (by omega)
    refine ⟨l ++ [u], by simp [hl], fun i x hx => ?_⟩
    rw [List.getElem?_append] at hx
    split at hx
    · exact hq i x hx
    · rename_i hge
      have : i = l.length := by
        have := (List.getElem?_eq_some_iff.1 hx).1
        simp at this; omega
      subst this
      simp at hx
      subst hx
      rw [hl]; exact hu
theorem flatten_get {n : Nat} : ∀ (xss : List (List Value)) (i : Nat), (∀ xs ∈ xss, xs.length = n) → 0 < n → ∀ v, xss.flatten[i]? = some v → ∃ xs, xss[i / n]? = some xs ∧ xs[i % n]? = some v
  | [], i, _, _, v, h => by simp at h
  | x :: xss, i, hl, hn, v, h => by
    have hx := hl x (List.mem_cons_self ..)
    rw [List.flatten_cons, List.getElem?_append] at h
    split at h
    · rename_i hlt
      rw [hx] at hlt
      rw [Nat.div_eq_of_lt hlt, Nat.mod_eq_of_lt hlt]
      exact ⟨x, rfl, h⟩
    · rename_i hge
      rw [hx] at hge h
      obtain ⟨xs, h1, h2⟩ := flatten_get xss (i - n) (fun y hy => hl y (List.mem_cons_of_mem _ hy)) hn v h
      have e1 : i / n = (i - n) / n + 1 := by
        rw [Nat.div_eq_sub_div hn (by omega)]
      have e2 : i % n = (i - n) % n := by rw [Nat.mod_eq_sub_mod (by omega)]
      rw [e1, e2]
      exact ⟨xs, by simpa using h1, h2⟩
theorem flatten_len {n : Nat} : ∀ (xss : List (List Value)), (∀ xs ∈ xss, xs.length = n) → xss.flatten.length = xss.length * n
  | [], _ => by simp
  | x :: xss, h => by
    rw [List.flatten_cons, List.length_append, h x (List.mem_cons_self ..), flatten_len xss fun y hy => h y (List.mem_cons_of_mem _ hy), List.length_cons, Nat.succ_mul]
    omega
theorem argp_slice {e : TypeId} {n : Nat} {R : List Value → Prop} (ht : P.underlying t = some (.slice e)) (hn : 0 < n) (hCe : P.cellsOf e = n) (hE : ArgP enc P w base held e n R) :
    ArgP enc P w base held t 1 fun cs => ∃ v xss, cs = [v] ∧ SlG w n v (List.flatten xss) ∧ ∀ xs ∈ xss, xs.length = n ∧ R xs := by
  intro fuel cs x h
  rcases open_slice ht h with h0 | ⟨a, len, cap, m, k, D, Pl, hcs, hb, hl, hm, hmm, hx, hi⟩
  · exact ⟨by rw [h0.1]; rfl, .slice none 0 0, [], h0.1, SlG.nil w n, by simp⟩
  · refine ⟨by rw [hcs]; rfl, .slice (some a) len cap, ?_⟩
    simp only [if_true] at hmm
    subst hmm
    rw [hCe] at hi
    have key : ∀ i, i < len → ∃ cs' : List Value, (cs'.length = n ∧ R cs') ∧ ∀ j, j < n → w.cell? ((a.add (i * n)).add j) = cs'[j]? := by
      intro i hlt
      obtain ⟨cs', hc, htr⟩ := hi i (by omega)
      obtain ⟨_, hcl, hat⟩ := World.cells?_some hc
      exact ⟨cs', hE _ _ _ htr, hat⟩
    obtain ⟨xss, hxl, hxs⟩ := list_of' len key
    have hall : ∀ xs ∈ xss, xs.length = n ∧ R xs := fun xs hx => by
      obtain ⟨i, hi⟩ := List.mem_iff_getElem?.1 hx
      exact (hxs i xs hi).1
    have hfl := flatten_len xss fun xs hx => (hall xs hx).1
    refine ⟨xss, hcs, ⟨some a, len, m, rfl, by rw [hfl, hxl], hl, fun hne => ?_⟩, hall⟩
    obtain ⟨b, o, s⟩ := a
    have hs : s = none := by
      have h0 : 0 < xss.length := by omega
      obtain ⟨y, hy⟩ : ∃ y, w.cell? (((⟨b, o, s⟩ : Addr).add (0 * n)).add 0) = some y := by
        have hq := hxs 0 xss[0] (List.getElem?_eq_getElem h0)
        exact ⟨_, (hq.2 0 hn).trans (List.getElem?_eq_getElem (by rw [hq.1.1]; exact hn))⟩
      clear hi hxs key hall
      cases s with
      | none => rfl
      | some x =>
        exfalso
        rw [Nat.zero_mul] at hy
        unfold World.cell? Addr.add at hy
        repeat' split at hy
        all_goals simp_all
    subst hs
    refine ⟨b, o, rfl, fun i v hv => ?_⟩
    obtain ⟨xs, h1, h2⟩ := flatten_get xss i (fun xs hx => (hall xs hx).1) hn v hv
    have hq := hxs _ _ h1
    have hc := hq.2 (i % n) (Nat.mod_lt _ hn)
    rw [h2] at hc
    rw [← hc, add_pl, add_pl]
    congr 2
    have := Nat.div_add_mod i n
    rw [Nat.mul_comm] at this
    omega
end
end Go.Dn
end
section
/-! The inode's pass; Write and Read of inodes, headers, slots, uses, records. -/
set_option maxRecDepth 10000
set_option linter.unusedVariables false
set_option linter.unusedSimpArgs false
namespace Go.Dn
open Go
def im (l : List Int) : List Value := l.map (Value.int .i64)
theorem rc_rep (n : Nat) (l : List Int) (h : l.length = n) : rc (List.replicate n .i64) l = im l := by
  subst h
  unfold rc im
  induction l with
  | nil => rfl
  | cons x l ih => simp only [List.length_cons, List.replicate_succ, List.zipWith_cons_cons, List.map_cons, ih]
theorem inR_split : ∀ (k1 k2 : List IntKind) (v1 v2 : List Int), v1.length = k1.length → inR (k1 ++ k2) (v1 ++ v2) → inR k1 v1 ∧ inR k2 v2
  | [], _, [], _, _, h => ⟨trivial, h⟩
  | k :: k1, k2, v :: v1, v2, hl, h => by
    obtain ⟨h1, h2⟩ := inR_split k1 k2 v1 v2 (by simpa using hl) h.2
    exact ⟨⟨h.1, h1⟩, h2⟩
  | [], _, _ :: _, _, hl, _ => by simp at hl
  | _ :: _, _, [], _, hl, _ => by simp at hl
theorem inR_rep : ∀ (n : Nat) (l : List Int), l.length = n → inR (List.replicate n .i64) l → ∀ x ∈ l, inR1 .i64 x
  | 0, [], _, _ => by simp
  | n + 1, v :: l, hl, h => by
    intro x hx
    rcases List.mem_cons.1 hx with rfl | hx
    · exact h.1
    · exact inR_rep n l (by simpa using hl) h.2 x hx
  | 0, _ :: _, hl, _ => by simp at hl
  | _ + 1, [], hl, _ => by simp at hl
theorem rc_append (k1 k2 : List IntKind) (v1 v2 : List Int) (h : v1.length = k1.length) : rc (k1 ++ k2) (v1 ++ v2) = rc k1 v1 ++ rc k2 v2 := by
  unfold rc
  rw [List.zipWith_append h.symm]
def P_inode (f a1 : Value) (w : World) (k : Value → World → Prop) : Prop :=
  passT f a1 T_codec_Inode LInode1 w fun w =>
  wJ0 (fun k1 =>
    wL1 (.int .i64 0) w (fun _ v45 w k2 =>
      wBin P .lss T_int v45 (.int .i64 8) w fun t46 w =>
      wIf t46 (
        wDraw w fun w =>
        wNil P a1 w fun t51 w =>
        wFieldA P T_codec_Inode t51 5 w fun t52 w =>
        wIndexA P T_A8int t52 v45 w fun t53 w =>
        wFunc P (.method (mname .i64)) [f] [] w fun t54 w =>
        wNil P t54 w fun _ w =>
        wInvoke P f (mname .i64) [(.int .i64 ((4 : Nat) : Int)), t53] w fun _ w =>
        wBin P .add T_int v45 (.int .i64 1) w fun t58 w =>
        k2 t58 w) (
        k1 w))) fun _ w =>
  passT f a1 T_codec_Inode LInode2 w fun w => k (.tuple #[]) w
theorem pass_Inode : PassC n_codec_passInode kInode wInode := by
  intro f F w s fp b t A C vs k H B hb hl hr hsz hk
  refine call_codec_passInode _ _ ?_
  show P_inode f (.pointer (some ⟨b, A.length, none⟩)) w k
  unfold P_inode
  have hkI : kInode = kindsOf LInode1 ++ (List.replicate 8 .i64 ++ kindsOf LInode2) := rfl
  have hwI : wInode = widsOf LInode1 ++ (List.replicate 8 4 ++ widsOf LInode2) := rfl
  have hl15 : vs.length = 15 := hl
  obtain ⟨v1, v2, v3, rfl, h1, h2, h3⟩ : ∃ v1 v2 v3, vs = v1 ++ (v2 ++ v3) ∧ v1.length = 5 ∧ v2.length = 8 ∧ v3.length = 2 := by
    refine ⟨vs.take 5, (vs.drop 5).take 8, (vs.drop 5).drop 8, ?_, by rw [List.length_take]; omega, by rw [List.length_take, List.length_drop]; omega, by rw [List.length_drop, List.length_drop]; omega⟩
    rw [List.take_append_drop, List.take_append_drop]
  rw [hkI] at B hr hk
  rw [hwI] at hk
  obtain ⟨hr1, hr23⟩ := inR_split _ _ _ _ h1 hr
  obtain ⟨hr2, hr3⟩ := inR_split _ _ _ _ (by simpa using h2) hr23
  rw [rc_append _ _ _ _ h1, rc_append _ _ _ _ (by simpa using h2), rc_rep 8 v2 h2] at B
  rw [runS_append _ _ _ _ _ _ (show (widsOf LInode1).length = v1.length from h1.symm), runS_append _ _ _ _ _ _ (show (List.replicate 8 4).length = v2.length from by rw [h2]; rfl),
    runV_append _ _ _ _ _ _ _ (show (widsOf LInode1).length = v1.length from h1.symm), runV_append _ _ _ _ _ _ _ (show (List.replicate 8 4).length = v2.length from by rw [h2]; rfl)] at hk
  refine passT_i F LInode1 0 A (im v2 ++ rc (kindsOf LInode2) v3 ++ C) v1 s fp w H (by simpa using B) hb rfl h1 hr1 ok_LInode1 (by have : (widsOf LInode1).sum = 15 := rfl; omega) fun w1 fp1 hE1 H1 hfp1 B1 => ?_
  generalize hs1 : runS F.stp s (widsOf LInode1) v1 = s1 at *
  generalize hx1 : runV F.stp F.val s (widsOf LInode1) v1 = x1 at *
  have hx1l : x1.length = 5 := by rw [← hx1, runV_length _ _ _ _ _ (show (widsOf LInode1).length = v1.length from h1.symm), h1]
  have hsz1 : F.sz s1 = F.sz s + 15 := by rw [← hs1, F_sz F _ _ _ (show (widsOf LInode1).length = v1.length from h1.symm)]; rfl
  have hbl : b < w.heap.size := B.lt
  have l1 := hE1.le
  have hfpE : ∀ {fpa : List Nat}, (∀ x ∈ fpa, x ∈ fp ∨ w.heap.size ≤ x) → b ∉ fpa := fun h hm => (h b hm).elim hb fun h => by omega
  have hstepE : ∀ {wa wb : World} {fpa : List Nat}, (∀ x ∈ fpa, x ∈ fp ∨ w.heap.size ≤ x) → Ex (b :: fp) w wa → Ex (b :: fpa) wa wb → Ex (b :: fp) w wb := fun h hE hE' => hE.step hE' fun x hx => by
    rcases List.mem_cons.1 hx with rfl | hx
    · exact .inl (by simp)
    · exact (h x hx).imp (by simp +contextual) id
  refine j0_of (fun w' => ∃ fp', Ex (b :: fp) w w' ∧ F.S w' (runS F.stp s1 (List.replicate 8 4) v2) fp' ∧ (∀ x ∈ fp', x ∈ fp ∨ w.heap.size ≤ x) ∧ Blk w' b t (A ++ rc (kindsOf LInode1) x1 ++ im (runV F.stp F.val s1 (List.replicate 8 4) v2) ++ (rc (kindsOf LInode2) v3 ++ C))) (fun k1 hk1 => ?_) ?_
  · refine loop_up 8 (fun i x w' => x = .int .i64 (i : Int) ∧ ∃ fp' m0 m1, v2 = m0 ++ m1 ∧ m0.length = i ∧ Ex (b :: fp) w w' ∧ F.S w' (runS F.stp s1 (List.replicate i 4) m0) fp' ∧ (∀ x ∈ fp', x ∈ fp ∨ w.heap.size ≤ x) ∧ Blk w' b t (A ++ rc (kindsOf LInode1) x1 ++ im (runV F.stp F.val s1 (List.replicate i 4) m0) ++ (im m1 ++ rc (kindsOf LInode2) v3 ++ C)))
      ⟨rfl, fp1, [], v2, rfl, rfl, hE1, H1, hfp1, by simpa [runV, im] using B1⟩ ?_
    rintro i J x w2 k2 hi ⟨rfl, fp2, m0, m1, hv2, hm0, hE2, H2, hfp2, B2⟩ hk2
    have l2 := hE2.le
    rw [bin_lss]
    refine wIf_d (fun hlt => ?_) (fun hge => ?_)
    · cases m1 with
      | nil => have := congrArg List.length hv2; simp at this; omega
      | cons n m1 =>
        have hrn : inR1 .i64 n := inR_rep 8 v2 h2 hr2 n (by rw [hv2]; simp)
        have hvl : (runV F.stp F.val s1 (List.replicate i 4) m0).length = i := by rw [runV_length _ _ _ _ _ (by simp [hm0]), hm0]
        have hszi : F.sz (runS F.stp s1 (List.replicate i 4) m0) = F.sz s + 15 + i * 4 := by rw [F_sz F _ _ _ (by simp [hm0]), hsz1]; simp
        refine draw_i fun w3 hE3 _ => ?_
        have l3 := hE3.le
        rw [nil_ptr, fA_T_codec_Inode_5, indexA_i a_T_A8int (by omega) (by omega)]
        refine F.asked hrn ?_
        have hA : (A ++ rc (kindsOf LInode1) x1 ++ im (runV F.stp F.val s1 (List.replicate i 4) m0)).length = A.length + 5 + (i : Int).toNat * 1 := by
          simp only [List.length_append, im, List.length_map, hvl]
          rw [rc_length (show x1.length = (kindsOf LInode1).length from hx1l)]
          simp [kindsOf, LInode1]
        have e : A ++ rc (kindsOf LInode1) x1 ++ im (runV F.stp F.val s1 (List.replicate i 4) m0) ++ (im (n :: m1) ++ rc (kindsOf LInode2) v3 ++ C) = (A ++ rc (kindsOf LInode1) x1 ++ im (runV F.stp F.val s1 (List.replicate i 4) m0)) ++ .int .i64 n :: (im m1 ++ rc (kindsOf LInode2) v3 ++ C) := by simp [im]
        rw [e] at B2
        refine F.go (F.ex H2 hE3 (by simp)) (B2.ex hE3 (by simp)) (hfpE hfp2) (get_mid hA) hrn (by unfold widOk; decide) (by omega) fun w4 fp4 hE4 H4 hfp4 B4 => ?_
        have hfp4' : ∀ x ∈ fp4, x ∈ fp ∨ w.heap.size ≤ x := fun x hx => (hfp4 x hx).elim (hfp2 x) fun h => .inr (by omega)
        rw [set_mid hA] at B4
        rw [bin_add (by omega)]
        refine hk2 _ _ (by omega) ⟨by simp, fp4, m0 ++ [n], m1, by simp [hv2], by simp [hm0], hstepE hfp2 (hE2.trans hE3.nil) hE4, ?_, hfp4', ?_⟩
        · rw [List.replicate_succ', runS_append _ _ _ _ _ _ (by simp [hm0])]
          exact H4
        · rw [List.replicate_succ', runV_append _ _ _ _ _ _ _ (by simp [hm0])]
          have : im (runV F.stp F.val s1 (List.replicate i 4) m0 ++ runV F.stp F.val (runS F.stp s1 (List.replicate i 4) m0) [4] [n]) = im (runV F.stp F.val s1 (List.replicate i 4) m0) ++ [.int .i64 (F.val (runS F.stp s1 (List.replicate i 4) m0) 4 n)] := by simp [im, runV]
          rw [this]
          simpa using B4
    · obtain rfl : i = 8 := by omega
      have hm1 : m1 = [] := List.eq_nil_of_length_eq_zero (by have := congrArg List.length hv2; simp at this; omega)
      subst hm1
      rw [List.append_nil] at hv2
      subst hv2
      exact hk1 w2 ⟨fp2, hE2, H2, hfp2, by simpa [im] using B2⟩
  rintro J w2 ⟨fp2, hE2, H2, hfp2, B2⟩
  have l2 := hE2.le
  generalize hs2 : runS F.stp s1 (List.replicate 8 4) v2 = s2 at *
  generalize hx2 : runV F.stp F.val s1 (List.replicate 8 4) v2 = x2 at *
  have hx2l : x2.length = 8 := by rw [← hx2, runV_length _ _ _ _ _ (by rw [h2]; rfl), h2]
  have hsz2 : F.sz s2 = F.sz s + 15 + 32 := by rw [← hs2, F_sz F _ _ _ (by rw [h2]; rfl), hsz1]; rfl
  refine passT_i F LInode2 13 (A ++ rc (kindsOf LInode1) x1 ++ im x2) C v3 s2 fp2 w2 H2 (by simpa using B2) (hfpE hfp2) ?_ h3 hr3 ok_LInode2 (by have : (widsOf LInode2).sum = 8 := rfl; omega) fun w3 fp3 hE3 H3 hfp3 B3 => ?_
  · simp only [List.length_append, im, List.length_map, hx2l]
    rw [rc_length (show x1.length = (kindsOf LInode1).length from hx1l)]
    simp [kindsOf, LInode1]
  · refine hk w3 fp3 (hstepE hfp2 hE2 hE3) H3 (fun x hx => (hfp3 x hx).elim (hfp2 x) fun h => .inr (by omega)) ?_
    rw [rc_append _ _ _ _ hx1l, rc_append _ _ _ _ (by simpa using hx2l), rc_rep 8 x2 hx2l]
    simpa using B3
end Go.Dn
end
section
/-! What arguments of the reference's types read. -/
set_option maxRecDepth 10000
set_option linter.unusedVariables false
set_option linter.unusedSimpArgs false
namespace Go.Dn
open Go Go.ChangeShapes Go.WideShapes Go.Deep
def ints (l : List (TypeId × IntKind)) : List (TypeId × Nat × (List Value → Prop)) := l.map fun x => (x.1, 1, fun cs => ∃ n, cs = [.int x.2 n] ∧ (Lit.int x.2 n).wf = true)
theorem wf_inR1 {k : IntKind} {n : Int} (hk : k = .u64 ∨ k = .i64 ∨ k = .u32) (h : (Lit.int k n).wf = true) : inR1 k n := by
  have h : (decide (k.min ≤ n) && decide (n ≤ k.max)) = true := h
  simp only [Bool.and_eq_true, decide_eq_true_eq] at h
  rcases hk with rfl | rfl | rfl
  · have h1 : (0 : Int) ≤ n := h.1
    have h2 : n ≤ 18446744073709551615 := h.2
    exact ⟨h1, by omega⟩
  · have h1 : (-9223372036854775808 : Int) ≤ n := h.1
    have h2 : n ≤ 9223372036854775807 := h.2
    exact ⟨h1, h2⟩
  · have h1 : (0 : Int) ≤ n := h.1
    have h2 : n ≤ 4294967295 := h.2
    exact ⟨h1, by omega⟩
theorem rl_ints : ∀ (l : List (TypeId × IntKind)) (cs : List Value), (∀ x ∈ l, x.2 = .u64 ∨ x.2 = .i64 ∨ x.2 = .u32) → RL (ints l) cs → ∃ r, cs = rc (l.map (·.2)) r ∧ r.length = l.length ∧ inR (l.map (·.2)) r
  | [], cs, _, h => ⟨[], h, rfl, trivial⟩
  | x :: l, cs, hk, h => by
    obtain ⟨a, b, rfl, _, ⟨n, rfl, hw⟩, hb⟩ := h
    obtain ⟨r, rfl, hl, hin⟩ := rl_ints l b (fun y hy => hk y (List.mem_cons_of_mem _ hy)) hb
    exact ⟨n :: r, rfl, by simp [hl], wf_inR1 (hk x (List.mem_cons_self ..)) hw, hin⟩
theorem rl_append : ∀ (L1 L2 : List (TypeId × Nat × (List Value → Prop))) (cs : List Value), RL (L1 ++ L2) cs → ∃ a b, cs = a ++ b ∧ RL L1 a ∧ RL L2 b
  | [], L2, cs, h => ⟨[], cs, rfl, rfl, h⟩
  | x :: L1, L2, cs, h => by
    obtain ⟨a, b, rfl, h1, h2, h3⟩ := h
    obtain ⟨c, d, rfl, h4, h5⟩ := rl_append L1 L2 b h3
    exact ⟨a ++ c, d, by simp, ⟨a, c, rfl, h1, h2, h4⟩, h5⟩
section
variable {H : Type} {enc : TypeId × Value → H} {w : World} {base : Nat} {held : Bool}
theorem al_ints : ∀ (l : List (TypeId × IntKind)), (∀ x ∈ l, P.underlying x.1 = some (.int x.2)) → AL enc P w base held (ints l)
  | [], _ => trivial
  | x :: l, h => ⟨argp_int (h x (List.mem_cons_self ..)), al_ints l fun y hy => h y (List.mem_cons_of_mem _ hy)⟩
theorem al_append : ∀ (L1 L2 : List (TypeId × Nat × (List Value → Prop))), AL enc P w base held L1 → AL enc P w base held L2 → AL enc P w base held (L1 ++ L2)
  | [], L2, _, h => h
  | x :: L1, L2, h, h' => ⟨h.1, al_append L1 L2 h.2 h'⟩
theorem ints_sum (l : List (TypeId × IntKind)) : ((ints l).map (·.2.1)).sum = l.length := by
  induction l with
  | nil => rfl
  | cons x l ih => simp only [ints, List.map_cons, List.sum_cons, List.length_cons] at ih ⊢; omega
/-- A record among the arguments. -/
theorem argp_rec {t : TypeId} (l : List (TypeId × IntKind)) (ht : P.underlying t = some (.struct (P.fieldsOf t))) (hm : (P.fieldsOf t).toList.map (fun f => (f.offset, f.type, P.cellsOf f.type)) = offL 0 (ints l)) (hC : P.cellsOf t = l.length) (hu : ∀ x ∈ l, P.underlying x.1 = some (.int x.2))
    (hk : ∀ x ∈ l, x.2 = .u64 ∨ x.2 = .i64 ∨ x.2 = .u32) : ArgP enc P w base held t l.length fun cs => ∃ r, cs = rc (l.map (·.2)) r ∧ r.length = l.length ∧ inR (l.map (·.2)) r := by
  have hs := ints_sum l
  have := argp_struct (enc := enc) (w := w) (base := base) (held := held) ht hm (by rw [hC, hs]) (al_ints l hu)
  rw [hs] at this
  exact this.imp fun cs _ h => rl_ints l cs hk h
theorem args_rcs {ks : List IntKind} {n : Nat} (hn : n = ks.length) : ∀ (xss : List (List Value)), (∀ xs ∈ xss, xs.length = n ∧ ∃ r, xs = rc ks r ∧ r.length = n ∧ inR ks r) → ∃ rs, xss.flatten = rcs ks rs ∧ lenR ks rs ∧ ∀ r ∈ rs, inR ks r
  | [], _ => ⟨[], rfl, by intro r hr; simp at hr, by simp⟩
  | x :: xss, h => by
    obtain ⟨_, r, rfl, hl, hin⟩ := h x (List.mem_cons_self ..)
    obtain ⟨rs, he, hlr, hir⟩ := args_rcs hn xss fun y hy => h y (List.mem_cons_of_mem _ hy)
    refine ⟨r :: rs, by rw [List.flatten_cons, he, rcs_cons], fun q hq => ?_, fun q hq => ?_⟩
    · rcases List.mem_cons.1 hq with rfl | hq
      · rw [hl, hn]
      · exact hlr q hq
    · rcases List.mem_cons.1 hq with rfl | hq
      · exact hin
      · exact hir q hq
theorem arg_list {t e : TypeId} {n : Nat} {ks : List IntKind} (hn : n = ks.length) (hn0 : 0 < n) (hu : P.underlying t = some (.slice e)) (hC : P.cellsOf e = n) (hE : ArgP enc P w base held e n fun cs => ∃ r, cs = rc ks r ∧ r.length = n ∧ inR ks r)
    {v : Value} {d : DataW H} {p : List MemPlace} (hc : v.cells = #[v]) (h : DataW.Trod enc P w base (fun _ => true) held t v d p) : ∃ rs, SlG w n v (rcs ks rs) ∧ lenR ks rs ∧ ∀ r ∈ rs, inR ks r := by
  obtain ⟨fuel, hf⟩ := h
  rw [hc] at hf
  obtain ⟨_, v', xss, he, hS, hall⟩ := argp_slice hu hn0 hC hE _ _ _ hf
  simp at he
  subst he
  obtain ⟨rs, hfl, h1, h2⟩ := args_rcs hn xss hall
  rw [hfl] at hS
  exact ⟨rs, hS, h1, h2⟩
theorem p_Use : ArgP enc P w base held T_ref05_Use 3 fun cs => ∃ r, cs = rc kUse r ∧ r.length = 3 ∧ inR kUse r :=
  argp_rec [(T_int, .i64), (T_int, .i64), (T_uint32, .u32)] (by kernel_rfl) (by kernel_rfl) (by kernel_rfl) (by simp only [List.mem_cons, List.not_mem_nil, or_false]; rintro x (rfl | rfl | rfl) <;> first | exact i_T_int | exact i_T_uint32) (by decide)
theorem p_Slot : ArgP enc P w base held T_ref05_Slot 4 fun cs => ∃ r, cs = rc kSlot r ∧ r.length = 4 ∧ inR kSlot r :=
  argp_rec [(T_int, .i64), (T_uint32, .u32), (T_int, .i64), (T_int, .i64)] (by kernel_rfl) (by kernel_rfl) (by kernel_rfl) (by simp only [List.mem_cons, List.not_mem_nil, or_false]; rintro x (rfl | rfl | rfl | rfl) <;> first | exact i_T_int | exact i_T_uint32) (by decide)
theorem p_Record : ArgP enc P w base held T_ref05_Record 4 fun cs => ∃ r, cs = rc kRecord r ∧ r.length = 4 ∧ inR kRecord r :=
  argp_rec [(T_uint32, .u32), (T_uint32, .u32), (T_int, .i64), (T_int, .i64)] (by kernel_rfl) (by kernel_rfl) (by kernel_rfl) (by simp only [List.mem_cons, List.not_mem_nil, or_false]; rintro x (rfl | rfl | rfl | rfl) <;> first | exact i_T_int | exact i_T_uint32) (by decide)
theorem arg_Uses {v : Value} {d : DataW H} {p : List MemPlace} (hc : v.cells = #[v]) (h : DataW.Trod enc P w base (fun _ => true) held T_Lref05_Use v d p) : ∃ rs, SlG w 3 v (rcs kUse rs) ∧ lenR kUse rs ∧ ∀ r ∈ rs, inR kUse r :=
  arg_list (n := 3) rfl (by omega) u_T_Lref05_Use (by kernel_rfl) p_Use hc h
theorem arg_Slots {v : Value} {d : DataW H} {p : List MemPlace} (hc : v.cells = #[v]) (h : DataW.Trod enc P w base (fun _ => true) held T_Lref05_Slot v d p) : ∃ rs, SlG w 4 v (rcs kSlot rs) ∧ lenR kSlot rs ∧ ∀ r ∈ rs, inR kSlot r :=
  arg_list (n := 4) rfl (by omega) u_T_Lref05_Slot (by kernel_rfl) p_Slot hc h
theorem arg_Records {v : Value} {d : DataW H} {p : List MemPlace} (hc : v.cells = #[v]) (h : DataW.Trod enc P w base (fun _ => true) held T_Lref05_Record v d p) : ∃ rs, SlG w 4 v (rcs kRecord rs) ∧ lenR kRecord rs ∧ ∀ r ∈ rs, inR kRecord r :=
  arg_list (n := 4) rfl (by omega) u_T_Lref05_Record (by kernel_rfl) p_Record hc h
theorem p_u8 : ArgP enc P w base held T_uint8 1 fun cs => ∃ b : Nat, cs = bvs [b] ∧ b < 256 :=
  (argp_int i_T_uint8).imp fun cs _ ⟨n, hn, hw⟩ => by
    have hw : (decide (IntKind.u8.min ≤ n) && decide (n ≤ IntKind.u8.max)) = true := hw
    simp only [Bool.and_eq_true, decide_eq_true_eq] at hw
    have h1 : (0 : Int) ≤ n := hw.1
    have h2 : n ≤ 255 := hw.2
    refine ⟨n.toNat, ?_, by omega⟩
    rw [hn]
    simp only [bvs, List.map_cons, List.map_nil]
    congr 2
    omega
theorem args_bvs : ∀ (xss : List (List Value)), (∀ xs ∈ xss, xs.length = 1 ∧ ∃ b : Nat, xs = bvs [b] ∧ b < 256) → ∃ bs, xss.flatten = bvs bs ∧ ∀ b ∈ bs, b < 256
  | [], _ => ⟨[], rfl, by simp⟩
  | x :: xss, h => by
    obtain ⟨_, b, rfl, hb⟩ := h x (List.mem_cons_self ..)
    obtain ⟨bs, he, hall⟩ := args_bvs xss fun y hy => h y (List.mem_cons_of_mem _ hy)
    refine ⟨b :: bs, by rw [List.flatten_cons, he]; rfl, fun q hq => ?_⟩
    rcases List.mem_cons.1 hq with rfl | hq
    · exact hb
    · exact hall q hq
theorem arg_bytes {v : Value} {d : DataW H} {p : List MemPlace} (hc : v.cells = #[v]) (h : DataW.Trod enc P w base (fun _ => true) held T_Luint8 v d p) : ∃ bs, SlG w 1 v (bvs bs) ∧ ∀ b ∈ bs, b < 256 := by
  obtain ⟨fuel, hf⟩ := h
  rw [hc] at hf
  obtain ⟨_, v', xss, he, hS, hall⟩ := argp_slice u_T_Luint8 (by omega) (by kernel_rfl) p_u8 _ _ _ hf
  simp at he
  subst he
  obtain ⟨bs, hfl, h1⟩ := args_bvs xss hall
  rw [hfl] at hS
  exact ⟨bs, hS, h1⟩
end
end Go.Dn
end
section
/-! A list of uses among the arguments, with the range of their ages. -/
set_option maxRecDepth 10000
set_option linter.unusedVariables false
set_option linter.unusedSimpArgs false
namespace Go.Dn
open Go Go.ChangeShapes Go.WideShapes Go.Deep
theorem fl_of_rcs : ∀ (rs : List (List Int)), lenR kUse rs → (∀ r ∈ rs, inR kUse r) → ∃ us : List U, rcs kUse rs = fl us ∧ ∀ u ∈ us, 0 ≤ u.age ∧ u.age < 4294967296
  | [], _, _ => ⟨[], rfl, by simp⟩
  | r :: rs, hl, hi => by
    obtain ⟨us, he, ha⟩ := fl_of_rcs rs (fun q hq => hl q (List.mem_cons_of_mem _ hq)) fun q hq => hi q (List.mem_cons_of_mem _ hq)
    have h1 := hl r (List.mem_cons_self ..)
    have h2 := hi r (List.mem_cons_self ..)
    match r, h1, h2 with
    | [a, b, c], _, ⟨_, _, h3, _⟩ =>
      refine ⟨⟨a, b, c⟩ :: us, by rw [rcs_cons, he]; rfl, fun u hu => ?_⟩
      rcases List.mem_cons.1 hu with rfl | hu
      · exact h3
      · exact ha u hu
theorem argU2 {H : Type} {enc : TypeId × Value → H} {w : World} {base : Nat} {held : Bool} {v : Value} {d : DataW H} {p : List MemPlace} (hc : v.cells = #[v]) (h : DataW.Trod enc P w base (fun _ => true) held T_Lref05_Use v d p) : ∃ us, SlG w 3 v (fl us) ∧ ∀ u ∈ us, 0 ≤ u.age ∧ u.age < 4294967296 := by
  obtain ⟨rs, hS, h1, h2⟩ := arg_Uses hc h
  obtain ⟨us, he, ha⟩ := fl_of_rcs rs h1 h2
  rw [he] at hS
  exact ⟨us, hS, ha⟩
theorem u32_rng {n : Int} (h : (Lit.int .u32 n).wf = true) : 0 ≤ n ∧ n < 4294967296 := wf_inR1 (.inr (.inr rfl)) h
end Go.Dn
end
