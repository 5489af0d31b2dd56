import Derived.Test.YtflnhihdbhjlnaaCpass2
import Derived.Test.YtflnhihdbhjlnaaCseal3
/-! Records and lists of records as sealed sectors, and back. -/
set_option maxRecDepth 10000
set_option linter.unusedVariables false
set_option linter.unusedSimpArgs false
namespace Go.Dn
open Go
def writeR (kind : Nat) (ws : List Nat) (m : List Int → Bool) (r : List Int) : Option (List Nat) := if m r = true ∧ okNs ws r = true then sealMk kind (encF ws r) else none
def writeL (kind : Nat) (ws : List Nat) (m : List (List Int) → Bool) (rs : List (List Int)) : Option (List Nat) := if m rs = true ∧ okR ws rs = true then sealMk kind (encR ws rs) else none
def recsOf (ws : List Nat) (body : List Nat) : Option (List (List Int)) := if body.length % ws.sum = 0 then some (decR ws body (body.length / ws.sum)) else none
def readR (kind : Nat) (ws : List Nat) (m : List Int → Bool) (s : List Nat) : Option (List Int) :=
  match sealOp s with
  | some (k, body) => if k = kind ∧ body.length = ws.sum ∧ m (decF ws body) = true then some (decF ws body) else none
  | none => none
def readL (kind : Nat) (ws : List Nat) (m : List (List Int) → Bool) (s : List Nat) : Option (List (List Int)) :=
  match sealOp s with
  | some (k, body) => if k = kind then (match recsOf ws body with | some rs => if m rs = true then some rs else none | none => none) else none
  | none => none
/-- What a writing function hands back. -/
def wrV (o : Option (List Nat)) : Value := .tuple #[sv (o.getD zeroS), .int .i64 (if o.isSome then 0 else 1)]
def G_write (TX : TypeId) (a0 a1 a2 a3 : Value) (w : World) (k : Value → World → Prop) : Prop :=
  wBox P TX a1 w fun t5 w =>
  wAlloc P T_api_Sector w fun t8 w =>
  wBuild P T_codec_writer [] w fun t11 w =>
  wBox P T_codec_writer t11 w fun t12 w =>
  wLoad P TX t5 w fun t14 w =>
  wCallV P a3 [t14] w fun t15 w =>
  wUn P .not t15 w fun t16 w =>
  wIf t16 (
    wBuild P T_api_Sector [] w fun t17 w =>
    wStore P T_api_Sector t8 t17 w fun w =>
    wRes P T_api_Sector t8 w fun r8 =>
    k (.tuple #[r8, (.int .i64 1)]) w) (
    wIface P T_pcodec_writer t12 w fun t20 w =>
    wCallV P a2 [t20, t5] w fun _ w =>
    wNil P t12 w fun t23 w =>
    wFieldA P T_codec_writer t23 1 w fun t24 w =>
    wLoad P T_bool t24 w fun t25 w =>
    wIf t25 (
      wBuild P T_api_Sector [] w fun t26 w =>
      wStore P T_api_Sector t8 t26 w fun w =>
      wRes P T_api_Sector t8 w fun r8 =>
      k (.tuple #[r8, (.int .i64 1)]) w) (
      wNil P t12 w fun t29 w =>
      wFieldA P T_codec_writer t29 0 w fun t30 w =>
      wLoad P T_Luint8 t30 w fun t31 w =>
      wCall P n_seal_Make [a0, t31] w fun t32 w =>
      wExtract P t32 0 w fun t33 w =>
      wExtract P t32 1 w fun t34 w =>
      wStore P T_api_Sector t8 t33 w fun w =>
      wRes P T_api_Sector t8 w fun r8 =>
      k (.tuple #[r8, t34]) w))
theorem u_pwriter : P.underlying T_pcodec_writer = some (.pointer T_codec_writer) := by kernel_rfl
theorem u_preader : P.underlying T_pcodec_reader = some (.pointer T_codec_reader) := by kernel_rfl
theorem sealMk_len {kind : Nat} {body s : List Nat} (h : sealMk kind body = some s) : s.length = 128 := by
  unfold sealMk at h
  split at h
  · cases h
  · injection h with h
    rw [← h]
    exact sealS_length (by omega)
section
variable {w : World}
/-- A thing is written: m, may it be; what its pass leaves in the writer. -/
theorem write_i {TX : TypeId} {kind : Nat} {x a2 a3 : Value} {xs : List Value} {m : Bool} {st : List Nat × Bool} {k : Value → World → Prop} (hkd : kind < 256) (hxc : x.cells = ⟨xs⟩) (hld : ∀ (w' : World) (g : Nat) (K : Value → World → Prop), Blk w' g TX xs → wLoad P TX (ptr g) w' K = K x w')
    (hst : st.1.length ≤ 1000000)
    (hmay : ∀ w1, Ex [] w w1 → ∀ k1 : Value → World → Prop, (∀ w', Ex [] w1 w' → k1 (.bool m) w') → wCallV P a3 [x] w1 k1)
    (hpass : ∀ w1 g h, Ex [] w w1 → Blk w1 g TX xs → WrS h w1 ([], false) [h] → w.heap.size ≤ g → w.heap.size ≤ h → g ≠ h → ∀ k1 : Value → World → Prop,
      (∀ w' fp', Ex [g, h] w1 w' → WrS h w' st fp' → (∀ y ∈ fp', y = h ∨ w1.heap.size ≤ y) → k1 (.tuple #[]) w') → wCallV P a2 [.iface T_pcodec_writer (ptr h), ptr g] w1 k1)
    (hk : ∀ w', Ex [] w w' → k (wrV (if m = true ∧ st.2 = false then sealMk kind st.1 else none)) w') : G_write TX (.int .u8 (kind : Int)) x a2 a3 w k := by
  unfold G_write
  refine box_i hxc fun w1 g1 hg1 hE1 B1 => ?_
  refine alloc_i z_T_api_Sector (vs := List.replicate 128 (.int .u8 0)) rfl fun w2 g2 hg2 hE2 B2 => ?_
  rw [bl_T_codec_writer (cs := [.slice none 0 0, .bool false]) fill_nil]
  refine box_i (vs := [.slice none 0 0, .bool false]) rfl fun w3 g3 hg3 hE3 B3 => ?_
  have l1 := hE1.le
  have l2 := hE2.le
  have l3 := hE3.le
  have lt1 := B1.lt
  have lt2 := B2.lt
  have B1' := (B1.ex hE2 (by simp)).ex hE3 (by simp)
  have B2' := B2.ex hE3 (by simp)
  have E3 : Ex [] w w3 := (hE1.trans hE2).trans hE3
  rw [hld _ _ _ B1']
  refine hmay w3 E3 _ fun w4 hE4 => ?_
  have l4 := hE4.le
  rw [un_not]
  have none_ : ∀ w5, Ex [] w w5 → Blk w5 g2 T_api_Sector (List.replicate 128 (.int .u8 0)) → (m = true ∧ st.2 = false → False) →
      (wBuild P T_api_Sector [] w5 fun t17 w => wStore P T_api_Sector (ptr g2) t17 w fun w => wRes P T_api_Sector (ptr g2) w fun r8 => k (.tuple #[r8, (.int .i64 1)]) w) := by
    intro w5 hE5 B5 hn
    rw [bl_zero_sector]
    refine st_sector g_T_api_Sector zeroS_length B5 List.length_replicate fun w6 hE6 B6 => ?_
    refine res_sector g_T_api_Sector zeroS_length B6 ?_
    have := hk w6 (hE5.new hE6 (by omega))
    rw [if_neg hn] at this
    exact this
  cases hm : m with
  | false =>
    rw [show (!false) = true from rfl, wIf_t]
    exact none_ w4 (E3.trans hE4) (B2'.ex hE4 (by simp)) (by simp [hm])
  | true =>
    rw [show (!true) = false from rfl, wIf_f, iface_i u_pwriter]
    have hWr : WrS g3 w3 ([], false) [g3] := ⟨.slice none 0 0, B3, Own.nil _ _ _ _, by simp, rfl⟩
    refine hpass w4 g1 g3 (E3.trans hE4) (B1'.ex hE4 (by simp)) (hWr.ex hE4 (by simp)) (by omega) (by omega) (by omega) _ fun w5 fp5 hE5 H5 hfp5 => ?_
    have hg2fp : g2 ∉ [g1, g3] := by simp; omega
    have B25 := (B2'.ex hE4 (by simp)).ex hE5 hg2fp
    have E5 : Ex [] w w5 := (E3.trans hE4).step hE5 (by intro y hy; simp at hy; omega)
    obtain ⟨v, hB, hO, hl, hfp⟩ := H5
    simp only [nil_ptr, fA_T_codec_writer_0, fA_T_codec_writer_1, Nat.zero_add]
    rw [ld_one o_T_bool (hB.cell 1)]
    cases hb : st.2 with
    | true =>
      rw [wIf_t]
      exact none_ w5 E5 B25 (by simp [hb])
    | false =>
      rw [wIf_f, ld_one o_T_Luint8 (hB.cell 0)]
      have fin : ∀ s e w6, s.length = 128 → Ex [] w5 w6 → wrV (sealMk kind st.1) = .tuple #[sv s, .int .i64 e] →
          (wExtract P (.tuple #[sv s, .int .i64 e]) 0 w6 fun t33 w => wExtract P (.tuple #[sv s, .int .i64 e]) 1 w fun t34 w => wStore P T_api_Sector (ptr g2) t33 w fun w => wRes P T_api_Sector (ptr g2) w fun r8 => k (.tuple #[r8, t34]) w) := by
        intro s e w6 hs hE6 hv
        rw [ext_0, ext_1]
        refine st_sector g_T_api_Sector hs (B25.ex hE6 (by simp)) List.length_replicate fun w7 hE7 B7 => ?_
        refine res_sector g_T_api_Sector hs B7 ?_
        have := hk w7 ((E5.trans hE6).new hE7 (by omega))
        rw [if_pos ⟨hm, hb⟩, hv] at this
        exact this
      refine seal_Make hO.slg hkd hl (by omega) (fun hc w6 hE6 => fin zeroS 1 w6 zeroS_length hE6 ?_) (fun h0 hl2 w6 hE6 => fin _ 0 w6 (sealS_length hl2) hE6 ?_)
      · unfold wrV sealMk
        rw [if_pos hc]
        rfl
      · unfold wrV sealMk
        rw [if_neg (by omega)]
        rfl
theorem ld_aggT {TX : TypeId} {n : Nat} {xs : List Value} (hT : aggT P TX n = true) (hl : xs.length = n) (w' : World) (g : Nat) (K : Value → World → Prop) (B : Blk w' g TX xs) : wLoad P TX (ptr g) w' K = K (.agg ⟨xs⟩) w' := ld_agg hT B.all hl
theorem ld_oneT {TX : TypeId} {v : Value} (hT : oneT P TX = true) (w' : World) (g : Nat) (K : Value → World → Prop) (B : Blk w' g TX [v]) : wLoad P TX (ptr g) w' K = K v w' := ld_one hT (B.cell 0)
/-- A record is written. -/
theorem write_rec {TX : TypeId} {n np : FuncId} {ks : List IntKind} {ws : List Nat} {kind : Nat} {a3 : Value} {r : List Int} {m : List Int → Bool} {k : Value → World → Prop} (hW : ∀ {a0 a1 a2 a3 : Value} {w : World} {k : Value → World → Prop}, G_write TX a0 a1 a2 a3 w k → wCall P n [a0, a1, a2, a3] w k)
    (hT : aggT P TX ks.length = true) (hP : PassC np ks ws) (hw : ws.length = ks.length) (hws : ws.sum ≤ 1000) (hr : r.length = ks.length) (hin : inR ks r) (hkd : kind < 256)
    (hmay : ∀ (w1 : World) (k1 : Value → World → Prop), (∀ w', Ex [] w1 w' → k1 (.bool (m r)) w') → wCallV P a3 [.agg ⟨rc ks r⟩] w1 k1)
    (hk : ∀ w', Ex [] w w' → k (wrV (writeR kind ws m r)) w') : wCall P n [.int .u8 (kind : Int), .agg ⟨rc ks r⟩, .func (.func np) #[] #[], a3] w k := by
  refine hW (write_i (st := runS wstp ([], false) ws r) hkd rfl (ld_aggT hT (rc_length hr)) ?_ (fun w1 _ k1 hk1 => hmay w1 k1 hk1) (fun w1 g h hE B H hg hh hgh k1 hk1 => ?_) fun w' hE => ?_)
  · rw [runS_w_len ws r _ (by rw [hw, hr])]; simp; omega
  · rw [callv_0]
    refine hP (wform h) (A := []) (C := []) H (by simpa using B) (by simpa using hgh) hr hin (show ([] : List Nat).length ≤ 900000 by simp) fun w' fp' hE' H' hfp' _ => ?_
    exact hk1 w' fp' hE' H' fun y hy => by have := hfp' y hy; simpa using this
  · have := hk w' hE
    have e : writeR kind ws m r = (if m r = true ∧ (runS wstp ([], false) ws r).2 = false then sealMk kind (runS wstp ([], false) ws r).1 else none) := by
      unfold writeR
      rw [runS_w_bad]
      cases ho : okNs ws r with
      | false => simp
      | true => simp [runS_w_ok ws r _ ho]
    rw [← e]
    exact this
/-- A list of records is written. -/
theorem write_list {TL TE : TypeId} {n nl np nP : FuncId} {ks : List IntKind} {ws : List Nat} {kind : Nat} {v a3 : Value} {rs : List (List Int)} {m : List (List Int) → Bool} {k : Value → World → Prop} (hW : ∀ {a0 a1 a2 a3 : Value} {w : World} {k : Value → World → Prop}, G_write TL a0 a1 a2 a3 w k → wCall P n [a0, a1, a2, a3] w k)
    (E : ElT TL TE ks) (hL : ListC nl TL TE) (hP : PassC np ks ws) (hpL : ∀ {a0 a1 : Value} {w : World} {k : Value → World → Prop}, (wCall P nl [a0, a1, (.func (.func np) #[] #[])] w fun _ w => k (.tuple #[]) w) → wCall P nP [a0, a1] w k)
    (hw : ws.length = ks.length) (hws : ws.sum ≤ 100) (S : SlB w TE ks.length v (rcs ks rs)) (hlen : lenR ks rs) (hin : ∀ r ∈ rs, inR ks r) (hn : rs.length ≤ 1000) (hkd : kind < 256)
    (hmay : ∀ (w1 : World) (k1 : Value → World → Prop), SlB w1 TE ks.length v (rcs ks rs) → (∀ w', Ex [] w1 w' → k1 (.bool (m rs)) w') → wCallV P a3 [v] w1 k1)
    (hk : ∀ w', Ex [] w w' → k (wrV (writeL kind ws m rs)) w') : wCall P n [.int .u8 (kind : Int), v, .func (.func nP) #[] #[], a3] w k := by
  have hvc : v.cells = ⟨[v]⟩ := by
    rcases S with ⟨rfl, _⟩ | ⟨b, A, C, n, c, rfl, _⟩ <;> rfl
  have hmul : rs.length * ws.sum ≤ 1000 * 100 := Nat.mul_le_mul hn hws
  refine hW (write_i (st := runRS wstp ws ([], false) rs) hkd hvc (ld_oneT E.o) ?_ (fun w1 hE k1 hk1 => hmay w1 k1 (S.ex0 hE) hk1) (fun w1 g h hE B H hg hh hgh k1 hk1 => ?_) fun w' hE => ?_)
  · rw [runRS_w_len hw rs _ hlen]; simp; omega
  · rw [callv_0]
    refine hpL ?_
    refine list_wr E hL hP H B (lo := 0) rfl (by simpa using hgh) (S.ex0 hE) (fun g' hg' hm => ?_) hlen hw hin hn (by simp; omega) fun w' fp' hE' H' hfp' => ?_
    · have := S.bd g' hg'
      simp at hm
      omega
    · exact hk1 w' fp' (hE'.mono (by simp +contextual)) H' fun y hy => by have := hfp' y hy; simpa using this
  · have := hk w' hE
    have e : writeL kind ws m rs = (if m rs = true ∧ (runRS wstp ws ([], false) rs).2 = false then sealMk kind (runRS wstp ws ([], false) rs).1 else none) := by
      unfold writeL
      rw [runRS_w_bad]
      cases ho : okR ws rs with
      | false => simp
      | true => simp [runRS_w_ok ws rs _ ho]
    rw [← e]
    exact this
end
end Go.Dn
