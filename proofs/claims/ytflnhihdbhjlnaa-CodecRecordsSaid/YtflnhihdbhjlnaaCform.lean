import Derived.Test.YtflnhihdbhjlnaaCtl
import Derived.Test.YtflnhihdbhjlnaaGcodec
import Derived.Test.YtflnhihdbhjlnaaCseal2
import Derived.Test.YtflnhihdbhjlnaaMem7
import Derived.Test.YtflnhihdbhjlnaaPcodec
/-! Forms: the writer and the reader of package codec. -/
set_option maxRecDepth 10000
set_option linter.unusedVariables false
set_option linter.unusedSimpArgs false
namespace Go.Dn
open Go
attribute [local semireducible] wInvoke wNil wCall wNext in
theorem inv_eq {P : Program} {t : TypeId} {v r : Value} {m : String} {f : FuncId} {args : List Value} {w : World} {K : Value → World → Prop} (h : ∀ w, (method (P.types.size + Made.depth) t v m).run P w = .ok (f, r) w) :
    wInvoke P (.iface t v) m args w K = wCall P f (r :: args) w K := by
  unfold wInvoke wCall wNext callMethod
  simp only [program, Sem.run_bind, Sem.run, Result.andThen_ok, h]
  have e : (#[r] ++ ({ toList := args } : Array Value)) = { toList := r :: args } := by apply Array.toList_inj.1; simp
  rw [e]
attribute [local semireducible] wNil in
theorem nil_meth {P : Program} {t : TypeId} {v : Value} {m : String} {cap : List Value} {w : World} {K : Value → World → Prop} (h : ∀ w, (nilAhead (P.types.size + Made.depth) t v m).run P w = .ok (some false) w) :
    wNil P (.func (.method m) ⟨[.iface t v]⟩ ⟨cap⟩) w K = K (.func (.method m) ⟨[.iface t v]⟩ ⟨cap⟩) w := by
  refine pureW_eq (fun w' => ?_) w K
  simp only [nilS, List.getElem?_toArray, List.getElem?_cons_zero, program, Sem.run_bind, Sem.run, Result.andThen_ok, h]
  rfl
attribute [local semireducible] wFunc in
theorem func_meth {P : Program} (m : String) (first cap : List Value) {w : World} {K : Value → World → Prop} : wFunc P (.method m) first cap w K = K (.func (.method m) ⟨first⟩ ⟨cap⟩) w := rfl
attribute [local semireducible] wIface in
theorem iface_i {P : Program} {t d : TypeId} {v : Value} {w : World} {K : Value → World → Prop} (ht : P.underlying t = some (.pointer d)) : wIface P t v w K = K (.iface t v) w := by
  refine pureW_eq (fun w' => ?_) w K
  unfold Instr.makeInterface
  simp only [Sem.run_bind, und_run ht, Result.andThen_ok]
  rfl
/-- A thing that numbers are handed to, one behind the other. -/
structure Form (f : Value) where
  σ : Type
  S : World → σ → List Nat → Prop
  stp : σ → Nat → Int → σ
  val : σ → Nat → Int → Int
  more : σ → Bool
  sz : σ → Nat
  sz_stp : ∀ s wd n, sz (stp s wd n) = sz s + wd
  ex : ∀ {T w w' s fp}, S w s fp → Ex T w w' → (∀ x ∈ T, x ∉ fp) → S w' s fp
  bd : ∀ {w s fp}, S w s fp → ∀ x ∈ fp, x < w.heap.size
  /-- its methods may be asked for -/
  ask : ∀ (m : String), m ∈ ["drumlin/codec.wide", "drumlin/codec.int", "drumlin/codec.word"] → ∀ (w : World) (K : Value → World → Prop), K (.func (.method m) ⟨[f]⟩ ⟨[]⟩) w → wNil P (.func (.method m) ⟨[f]⟩ ⟨[]⟩) w K
  wide : ∀ {w s fp b o t cs wd n} {K : Value → World → Prop}, S w s fp → Blk w b t cs → b ∉ fp → cs[o]? = some (.int .u64 n) → 0 ≤ n → n < 18446744073709551616 → 1 ≤ wd → wd ≤ 8 → sz s ≤ 1000000 →
    (∀ w' fp', Ex (b :: fp) w w' → S w' (stp s wd n) fp' → (∀ x ∈ fp', x ∈ fp ∨ w.heap.size ≤ x) → Blk w' b t (cs.set o (.int .u64 (val s wd n))) → K (.tuple #[]) w') → wInvoke P f "drumlin/codec.wide" [.int .i64 (wd : Nat), .pointer (some ⟨b, o, none⟩)] w K
  int : ∀ {w s fp b o t cs wd n} {K : Value → World → Prop}, S w s fp → Blk w b t cs → b ∉ fp → cs[o]? = some (.int .i64 n) → -9223372036854775808 ≤ n → n ≤ 9223372036854775807 → 1 ≤ wd → wd ≤ 4 → sz s ≤ 1000000 →
    (∀ w' fp', Ex (b :: fp) w w' → S w' (stp s wd n) fp' → (∀ x ∈ fp', x ∈ fp ∨ w.heap.size ≤ x) → Blk w' b t (cs.set o (.int .i64 (val s wd n))) → K (.tuple #[]) w') → wInvoke P f "drumlin/codec.int" [.int .i64 (wd : Nat), .pointer (some ⟨b, o, none⟩)] w K
  word : ∀ {w s fp b o t cs wd n} {K : Value → World → Prop}, S w s fp → Blk w b t cs → b ∉ fp → cs[o]? = some (.int .u32 n) → 0 ≤ n → n < 4294967296 → 1 ≤ wd → wd ≤ 4 → sz s ≤ 1000000 →
    (∀ w' fp', Ex (b :: fp) w w' → S w' (stp s wd n) fp' → (∀ x ∈ fp', x ∈ fp ∨ w.heap.size ≤ x) → Blk w' b t (cs.set o (.int .u32 (val s wd n))) → K (.tuple #[]) w') → wInvoke P f "drumlin/codec.word" [.int .i64 (wd : Nat), .pointer (some ⟨b, o, none⟩)] w K
  moreC : ∀ {w s fp} {K : Value → World → Prop}, S w s fp → (∀ w', Ex [] w w' → K (.bool (more s)) w') → wInvoke P f "drumlin/codec.more" [] w K
/-! The writer. -/
def WrS (h : Nat) (w : World) (s : List Nat × Bool) (fp : List Nat) : Prop :=
  ∃ v, Blk w h T_codec_writer [v, .bool s.2] ∧ Own w 0 T_uint8 1 v (bvs s.1) ∧ (∀ b ∈ s.1, b < 256) ∧ fp = h :: v.ownBlock.toList
theorem WrS.ex {T : List Nat} {w w' : World} {h : Nat} {s : List Nat × Bool} {fp : List Nat} (H : WrS h w s fp) (hx : Ex T w w') (hT : ∀ x ∈ T, x ∉ fp) : WrS h w' s fp := by
  obtain ⟨v, hb, ho, hl, rfl⟩ := H
  refine ⟨v, hb.ex hx fun hm => hT _ hm (by simp), ho.ex hx fun g hg hm => hT _ hm (by simp [hg]), hl, rfl⟩
theorem WrS.bd {w : World} {h : Nat} {s : List Nat × Bool} {fp : List Nat} (H : WrS h w s fp) : ∀ x ∈ fp, x < w.heap.size := by
  obtain ⟨v, hb, ho, hl, rfl⟩ := H
  intro x hx
  rcases List.mem_cons.1 hx with rfl | hx
  · exact hb.lt
  · cases hv : v.ownBlock with
    | none => rw [hv] at hx; simp at hx
    | some g => rw [hv] at hx; simp at hx; subst hx; exact (ho.blk hv).2.1
theorem meth_writer_wide (a : Addr) (w : World) : (method (P.types.size + Made.depth) T_pcodec_writer (.pointer (some a)) "drumlin/codec.wide").run P w = .ok (n_codec_writer_wide, .pointer (some a)) w := by kernel_rfl
theorem meth_writer_int (a : Addr) (w : World) : (method (P.types.size + Made.depth) T_pcodec_writer (.pointer (some a)) "drumlin/codec.int").run P w = .ok (n_codec_writer_int, .pointer (some a)) w := by kernel_rfl
theorem meth_writer_word (a : Addr) (w : World) : (method (P.types.size + Made.depth) T_pcodec_writer (.pointer (some a)) "drumlin/codec.word").run P w = .ok (n_codec_writer_word, .pointer (some a)) w := by kernel_rfl
theorem meth_writer_more (a : Addr) (w : World) : (method (P.types.size + Made.depth) T_pcodec_writer (.pointer (some a)) "drumlin/codec.more").run P w = .ok (n_codec_writer_more, .pointer (some a)) w := by kernel_rfl
theorem ahead_writer_wide (a : Addr) (w : World) : (nilAhead (P.types.size + Made.depth) T_pcodec_writer (.pointer (some a)) "drumlin/codec.wide").run P w = .ok (some false) w := by kernel_rfl
theorem ahead_writer_int (a : Addr) (w : World) : (nilAhead (P.types.size + Made.depth) T_pcodec_writer (.pointer (some a)) "drumlin/codec.int").run P w = .ok (some false) w := by kernel_rfl
theorem ahead_writer_word (a : Addr) (w : World) : (nilAhead (P.types.size + Made.depth) T_pcodec_writer (.pointer (some a)) "drumlin/codec.word").run P w = .ok (some false) w := by kernel_rfl
theorem meth_reader_wide (a : Addr) (w : World) : (method (P.types.size + Made.depth) T_pcodec_reader (.pointer (some a)) "drumlin/codec.wide").run P w = .ok (n_codec_reader_wide, .pointer (some a)) w := by kernel_rfl
theorem meth_reader_int (a : Addr) (w : World) : (method (P.types.size + Made.depth) T_pcodec_reader (.pointer (some a)) "drumlin/codec.int").run P w = .ok (n_codec_reader_int, .pointer (some a)) w := by kernel_rfl
theorem meth_reader_word (a : Addr) (w : World) : (method (P.types.size + Made.depth) T_pcodec_reader (.pointer (some a)) "drumlin/codec.word").run P w = .ok (n_codec_reader_word, .pointer (some a)) w := by kernel_rfl
theorem meth_reader_more (a : Addr) (w : World) : (method (P.types.size + Made.depth) T_pcodec_reader (.pointer (some a)) "drumlin/codec.more").run P w = .ok (n_codec_reader_more, .pointer (some a)) w := by kernel_rfl
theorem ahead_reader_wide (a : Addr) (w : World) : (nilAhead (P.types.size + Made.depth) T_pcodec_reader (.pointer (some a)) "drumlin/codec.wide").run P w = .ok (some false) w := by kernel_rfl
theorem ahead_reader_int (a : Addr) (w : World) : (nilAhead (P.types.size + Made.depth) T_pcodec_reader (.pointer (some a)) "drumlin/codec.int").run P w = .ok (some false) w := by kernel_rfl
theorem ahead_reader_word (a : Addr) (w : World) : (nilAhead (P.types.size + Made.depth) T_pcodec_reader (.pointer (some a)) "drumlin/codec.word").run P w = .ok (some false) w := by kernel_rfl
section
variable {w : World} {K : Value → World → Prop}
theorem flat_u8 (n : Nat) : (List.replicate n [Value.int .u8 0]).flatten = bvs (List.replicate n 0) := by
  rw [rep_bvs]
  induction n with
  | zero => rfl
  | succ n ih => rw [List.replicate_succ, List.replicate_succ, List.flatten_cons, ih]; rfl
theorem make_u8 {n : Nat} (hn : n ≤ 1000000) (hk : ∀ w' g, g = w.heap.size → Ex [] w w' → Blk w' g T_uint8 (bvs (List.replicate n 0)) → K (.slice (some ⟨g, 0, none⟩) n n) w') : wMake P T_Luint8 (.int .i64 (n : Int)) (.int .i64 (n : Int)) w K := by
  have hi : (P.info? T_uint8).map (fun i => (i.zero, i.size, i.bytes)) = some (some (.int .u8 0), 1, 1) := by kernel_rfl
  cases hI : P.info? T_uint8 with
  | none => rw [hI] at hi; cases hi
  | some i =>
    rw [hI] at hi
    simp only [Option.map_some, Option.some.injEq, Prod.mk.injEq] at hi
    refine make_i (n := n) (bytes := 1) (zs := [.int .u8 0]) u_T_Luint8 hI hi.1 rfl (by simp) hi.2.1 hi.2.2 (by simp; omega) (by omega) fun w1 g1 hg1 hE1 B1 => hk w1 g1 hg1 hE1 ?_
    rw [flat_u8] at B1; exact B1
theorem codec_writer_wide {h b o wd : Nat} {s : List Nat × Bool} {fp : List Nat} {t : TypeId} {cs : List Value} {n : Int} {k : Value → World → Prop} (H : WrS h w s fp) (B : Blk w b t cs) (hb : b ∉ fp) (hn : cs[o]? = some (.int .u64 n)) (h0 : 0 ≤ n) (h1 : n < 18446744073709551616) (hw : 1 ≤ wd) (hw8 : wd ≤ 8)
    (hsz : s.1.length ≤ 1000000) (hk : ∀ w' fp', Ex fp w w' → WrS h w' (wstp s wd n) fp' → (∀ x ∈ fp', x ∈ fp ∨ w.heap.size ≤ x) → k (.tuple #[]) w') : wCall P n_codec_writer_wide [ptr h, .int .i64 (wd : Nat), .pointer (some ⟨b, o, none⟩)] w k := by
  refine call_codec_writer_wide _ _ _ ?_
  unfold F_codec_writer_wide
  obtain ⟨v, hB, hO, hl, rfl⟩ := H
  obtain ⟨x, rfl⟩ : ∃ x : Nat, n = x := ⟨n.toNat, by omega⟩
  refine make_u8 (by omega) fun w1 g1 hg1 hE1 B1 => ?_
  have hhb : h ≠ b := fun e => hb (by simp [e])
  have hg1h : g1 ≠ h := by have := hB.lt; omega
  refine j0_of (fun w' => Ex [h] w w' ∧ Blk w' h T_codec_writer [v, .bool (s.2 || !okN wd x)] ∧ Blk w' g1 T_uint8 (bvs (if x < 256 ^ wd then low x wd else List.replicate wd 0))) (fun k1 hk1 => ?_) ?_
  · simp only [nil_ptr]
    rw [ld_one o_T_uint64 (((B.ex hE1 (by simp)).cell o).trans hn)]
    refine num_Put (o := 0) (cs := bvs (List.replicate wd 0)) B1 (by simp [bvs]) (by omega) (by omega) (by omega) (fun hbad => ?_) (fun hok w2 hE2 B2 => ?_)
    · rw [bin_neq, wIf_dt (by omega)]
      simp only [fA_T_codec_writer_1]
      have hx : ¬ x < 256 ^ wd := fun hx => hbad ⟨by omega, by omega, by omega, by omega, by simpa using hx⟩
      have hB1 := hB.ex hE1 (by simp)
      refine st_one o_T_bool rfl hB1 (by simp) fun w3 hE3 B3 => ?_
      refine hk1 w3 ⟨hE1.nil.trans hE3, ?_, ?_⟩
      · have : okN wd x = false := by
          unfold okN
          rw [Int.toNat_natCast, decide_eq_false hx, Bool.and_false]
        rw [this]
        simpa using B3
      · rw [if_neg hx]
        exact B1.ex hE3 (by simp; omega)
    · rw [bin_neq, wIf_df (by omega)]
      have hx : x < 256 ^ wd := by have := hok.2.2.2.2; simpa using this
      refine hk1 w2 ⟨(hE1.new hE2 (by omega)).nil, ?_, ?_⟩
      · have : okN wd x = true := by
          unfold okN
          rw [Int.toNat_natCast, decide_eq_true hx]
          simp
        rw [this]
        simpa using (hB.ex hE1 (by simp)).ex hE2 (by simp; omega)
      · rw [if_pos hx]
        have e : splice (bvs (List.replicate wd 0)) (0 + (0 : Int).toNat) (bvs (low x ((wd : Nat) : Int).toNat)) = bvs (low x wd) := by
          rw [show (0 : Nat) + (0 : Int).toNat = 0 from rfl, Int.toNat_natCast, splice_front (n := wd) (by rw [bvs_length, low_length]) (by simp [bvs]), List.drop_of_length_le (by simp [bvs]), List.append_nil]
        rw [e] at B2
        exact B2
  · rintro J w2 ⟨hE2, hB2, hG2⟩
    generalize hys : (if x < 256 ^ wd then low x wd else List.replicate wd 0) = ys at hG2
    have hyl : ys.length = wd := by rw [← hys]; split <;> simp [low_length]
    have hyb : ∀ b ∈ ys, b < 256 := by
      rw [← hys]; split
      · exact low_lt _ _
      · intro b hb; rw [List.mem_replicate] at hb; omega
    have hvh : ∀ g, v.ownBlock = some g → g ∉ [h] := fun g hg => by have := hO.off hB (by decide) g hg; simpa using this
    have hO2 := hO.ex hE2 hvh
    simp only [nil_ptr, fA_T_codec_writer_0]
    rw [ld_one o_T_Luint8 (hB2.cell 0)]
    have hle := hE2.le
    refine app_T_Luint8 (n := s.1.length) (m := wd) hO2 (SlG.of_cs hG2.all (by rw [bvs_length, hyl]; omega) (Nat.le_refl _)) (by rw [bvs_length]; omega) (by rw [bvs_length, hyl]; omega) (bvs_isC _) (by omega) (Nat.zero_le _) fun v' w3 hO3 hE3 hv' => ?_
    rw [← bvs_append] at hO3
    have hne : h ∉ v.ownBlock.toList := by
      intro hm
      cases hv : v.ownBlock with
      | none => rw [hv] at hm; simp at hm
      | some g => rw [hv] at hm; simp at hm; exact hvh g hv (by simp [hm])
    have hB3 := hB2.ex hE3 hne
    refine st_one (x := v') o_T_Luint8 ?_ hB3 (by simp) fun w4 hE4 B4 => ?_
    · obtain ⟨A, c, hs'⟩ := hO3.slice (by omega) (n := (s.1 ++ ys).length) (by rw [bvs_length]; omega)
      rw [hs']; rfl
    have hv'h : ∀ g, v'.ownBlock = some g → g ∉ [h] := fun g hg => by have := hO3.off hB3 (by decide) g hg; simpa using this
    refine hk w4 (h :: v'.ownBlock.toList) ?_ ⟨v', ?_, ?_, ?_, rfl⟩ ?_
    · refine ((hE2.mono (by simp)).step hE3 fun y hy => .inl (by simp [hy])).trans (hE4.mono (by simp))
    · show Blk w4 h T_codec_writer [v', .bool (s.2 || !okN wd x)]
      simpa using B4
    · show Own w4 0 T_uint8 1 v' (bvs (s.1 ++ (if (x : Int).toNat < 256 ^ wd then low (x : Int).toNat wd else List.replicate wd 0)))
      rw [Int.toNat_natCast, hys]
      exact hO3.ex hE4 hv'h
    · intro b hb'
      have hb' : b ∈ s.1 ++ (if (x : Int).toNat < 256 ^ wd then low (x : Int).toNat wd else List.replicate wd 0) := hb'
      rw [Int.toNat_natCast, hys] at hb'
      rcases List.mem_append.1 hb' with hb' | hb'
      · exact hl b hb'
      · exact hyb b hb'
    · intro y hy
      rcases List.mem_cons.1 hy with rfl | hy
      · exact .inl (by simp)
      · rcases hv' with hv' | hv'
        · rw [hv'] at hy; exact .inl (by simp [hy])
        · rw [hv'] at hy; simp at hy; exact .inr (by omega)
end
end Go.Dn
