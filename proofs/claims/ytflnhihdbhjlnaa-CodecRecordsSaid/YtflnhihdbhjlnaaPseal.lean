import Derived.Test.YtflnhihdbhjlnaaPnum
/-! Sealed sectors, plain. -/
set_option linter.unusedVariables false
set_option linter.unusedSimpArgs false
namespace Go.Dn
def crcStep (c : Nat) : Nat := if c % 2 = 1 then (c / 2) ^^^ 3988292384 else c / 2
def crcSteps : Nat → Nat → Nat
  | 0, c => c
  | n + 1, c => crcStep (crcSteps n c)
def crcGo (c : Nat) (l : List Nat) : Nat := l.foldl (fun c b => crcSteps 8 (c ^^^ b)) c
def crc (l : List Nat) : Nat := 4294967295 - crcGo 4294967295 l
theorem crcStep_lt {c : Nat} (h : c < 4294967296) : crcStep c < 4294967296 := by
  unfold crcStep
  split
  · exact Nat.xor_lt_two_pow (n := 32) (by omega) (by decide)
  · omega
theorem crcSteps_lt {c : Nat} (h : c < 4294967296) : ∀ n, crcSteps n c < 4294967296
  | 0 => h
  | n + 1 => crcStep_lt (crcSteps_lt h n)
theorem crcGo_lt {l : List Nat} (hl : ∀ b ∈ l, b < 256) : ∀ {c : Nat}, c < 4294967296 → crcGo c l < 4294967296 := by
  induction l with
  | nil => exact fun h => h
  | cons b l ih =>
    intro c h
    have hb := hl b (List.mem_cons_self ..)
    exact ih (fun x hx => hl x (List.mem_cons_of_mem _ hx)) (crcSteps_lt (Nat.xor_lt_two_pow (n := 32) h (by omega)) 8)
theorem crcGo_snoc (c : Nat) (l : List Nat) (b : Nat) : crcGo c (l ++ [b]) = crcSteps 8 (crcGo c l ^^^ b) := by
  unfold crcGo; rw [List.foldl_append]; rfl
theorem crc_lt (l : List Nat) : crc l < 4294967296 := by unfold crc; omega
/-- A sealed sector's first 124 bytes. -/
def sealHead (kind : Nat) (body : List Nat) : List Nat := [215, 76, kind, body.length] ++ body ++ List.replicate (120 - body.length) 0
def sealS (kind : Nat) (body : List Nat) : List Nat := sealHead kind body ++ low (crc (sealHead kind body)) 4
theorem sealHead_length {kind : Nat} {body : List Nat} (h : body.length ≤ 120) : (sealHead kind body).length = 124 := by simp [sealHead]; omega
theorem sealS_length {kind : Nat} {body : List Nat} (h : body.length ≤ 120) : (sealS kind body).length = 128 := by simp [sealS, sealHead_length h, low_length]
theorem sealHead_lt {kind : Nat} {body : List Nat} (hk : kind < 256) (hl : body.length ≤ 120) (hb : ∀ b ∈ body, b < 256) : ∀ b ∈ sealHead kind body, b < 256 := by
  intro b hm
  simp only [sealHead, List.mem_append, List.mem_cons, List.mem_replicate, List.not_mem_nil, or_false] at hm
  rcases hm with (h | h) | h
  · omega
  · exact hb b h
  · omega
theorem sealS_lt {kind : Nat} {body : List Nat} (hk : kind < 256) (hl : body.length ≤ 120) (hb : ∀ b ∈ body, b < 256) : ∀ b ∈ sealS kind body, b < 256 := by
  intro b hm
  rcases List.mem_append.1 hm with h | h
  · exact sealHead_lt hk hl hb b h
  · exact low_lt _ _ b h
/-- What may be made: none where the kind is nought or the body too long. -/
def sealMk (kind : Nat) (body : List Nat) : Option (List Nat) := if kind = 0 ∨ 120 < body.length then none else some (sealS kind body)
/-- A sector's kind and body. -/
def bodyS (s : List Nat) : List Nat := (s.drop 4).take (s.getD 3 0)
def sealOp (s : List Nat) : Option (Nat × List Nat) :=
  if 120 < s.getD 3 0 then none
  else if sealMk (s.getD 2 0) (bodyS s) = some s then some (s.getD 2 0, bodyS s) else none
theorem sealOp_mk {kind : Nat} {body : List Nat} (hk : kind ≠ 0) (hl : body.length ≤ 120) : sealOp (sealS kind body) = some (kind, body) := by
  have h3 : (sealS kind body).getD 3 0 = body.length := rfl
  have h2 : (sealS kind body).getD 2 0 = kind := rfl
  have hb : bodyS (sealS kind body) = body := by
    unfold bodyS
    rw [h3]
    show ((body ++ List.replicate (120 - body.length) 0) ++ low _ 4).take body.length = body
    rw [List.append_assoc, List.take_left']
    rfl
  unfold sealOp
  rw [h3, if_neg (by omega), h2, hb]
  have : sealMk kind body = some (sealS kind body) := by
    unfold sealMk
    rw [if_neg (by omega)]
  rw [if_pos this]
theorem sealOp_some {s : List Nat} {kind : Nat} {body : List Nat} (h : sealOp s = some (kind, body)) : kind ≠ 0 ∧ body.length ≤ 120 ∧ s = sealS kind body := by
  unfold sealOp at h
  split at h
  · cases h
  · split at h
    · rename_i hm
      injection h with h
      injection h with h1 h2
      rw [h1, h2] at hm
      unfold sealMk at hm
      split at hm
      · cases hm
      · injection hm with hm
        rename_i hc
        exact ⟨fun h => hc (.inl h), by omega, hm.symm⟩
    · cases h
end Go.Dn
