/-
  RUNES, 2b: the plain law of one character's bytes.
-/
import Derived.Test.YtohmplfkieaecaaDoorR2
namespace Go.Proofs.YtohmplfkieaecaaDoor
open Go.RowKit Go.Lib Go.Ab
set_option linter.unusedSimpArgs false
set_option maxRecDepth 100000

def refN (b x1 x2 x3 : Int) : Int :=
  if b < 128 then b
  else if b < 224 then (b - 192) * 64 + x1 - 128
  else if b < 240 then (b - 224) * 4096 + (x1 - 128) * 64 + x2 - 128
  else (b - 240) * 262144 + (x1 - 128) * 4096 + (x2 - 128) * 64 + x3 - 128
/-- A byte of a text, -1 beyond its end. -/
def byteD (d : List UInt8) (i : Nat) : Int := if i < d.length then ((d.getD i 0).toNat : Int) else -1
theorem isD_iff (n : Int) : isD n = true ↔ 0 ≤ n ∧ n ≤ 1114111 ∧ (n < 55296 ∨ 57343 < n) := by
  simp only [isD, Bool.and_eq_true, Bool.or_eq_true, decide_eq_true_eq, and_assoc]
theorem byte_lt (b : UInt8) : b.toNat < 256 := b.toNat_lt

set_option maxHeartbeats 4000000 in
/-- Where a character begins, the reference's number is that character. -/
theorem refN_good (d : List UInt8) (hne : d ≠ []) (hv : ¬ ((decodeL d).1 = 65533 ∧ (decodeL d).2 = 1)) : refN (byteD d 0) (byteD d 1) (byteD d 2) (byteD d 3) = ((decodeL d).1 : Int) ∧ isD ((decodeL d).1 : Int) = true := by
  have hl : 0 < d.length := List.length_pos_iff.2 hne
  rw [isD_iff]
  rw [decodeL_N] at hv ⊢
  have g0 := byte_lt (d.getD 0 0)
  have g1 := byte_lt (d.getD 1 0)
  have g2 := byte_lt (d.getD 2 0)
  have g3 := byte_lt (d.getD 3 0)
  simp only [byteD]
  generalize (d.getD 0 0).toNat = b0 at *
  generalize (d.getD 1 0).toNat = b1 at *
  generalize (d.getD 2 0).toNat = b2 at *
  generalize (d.getD 3 0).toNat = b3 at *
  generalize d.length = n at *
  rw [if_pos hl]
  unfold decodeN at hv ⊢
  by_cases c1 : b0 < 128
  · simp only [c1, if_true] at hv ⊢
    unfold refN
    rw [if_pos (by omega)]
    omega
  rw [if_neg c1] at hv ⊢
  by_cases c2 : b0 / 32 = 6 ∧ (1 < n ∧ b1 / 64 = 2)
  · rw [if_pos c2] at hv ⊢
    by_cases c3 : b0 % 32 * 64 + b1 % 64 ≥ 128
    · rw [if_pos c3] at hv ⊢
      unfold refN
      rw [if_neg (by omega), if_pos (by omega), if_pos c2.2.1]
      simp only
      omega
    · rw [if_neg c3] at hv
      exact absurd ⟨rfl, rfl⟩ hv
  rw [if_neg c2] at hv ⊢
  by_cases c4 : b0 / 16 = 14 ∧ (1 < n ∧ b1 / 64 = 2) ∧ (2 < n ∧ b2 / 64 = 2)
  · rw [if_pos c4] at hv ⊢
    split at hv
    · rename_i c5
      rw [if_pos c5]
      unfold refN
      rw [if_neg (by omega), if_neg (by omega), if_pos (by omega), if_pos c4.2.1.1, if_pos c4.2.2.1]
      simp only
      omega
    · exact absurd ⟨rfl, rfl⟩ hv
  rw [if_neg c4] at hv ⊢
  by_cases c6 : b0 / 8 = 30 ∧ (1 < n ∧ b1 / 64 = 2) ∧ (2 < n ∧ b2 / 64 = 2) ∧ (3 < n ∧ b3 / 64 = 2)
  · rw [if_pos c6] at hv ⊢
    split at hv
    · rename_i c7
      rw [if_pos c7]
      unfold refN
      rw [if_neg (by omega), if_neg (by omega), if_neg (by omega), if_pos c6.2.1.1, if_pos c6.2.2.1.1, if_pos c6.2.2.2.1]
      simp only
      omega
    · exact absurd ⟨rfl, rfl⟩ hv
  · rw [if_neg c6] at hv
    exact absurd ⟨rfl, rfl⟩ hv

theorem ofN (x : Int) (h : 0 ≤ x ∧ x < 256) : ((x.toNat.toUInt8).toNat : Int) = x := by
  simp
  omega
set_option maxHeartbeats 4000000 in
/-- A character's bytes are read as it. -/
theorem dec_enc (c : Int) (hc : isD c = true) (t : List UInt8) : decodeL (encodeRune c ++ t) = (c.toNat, (encodeRune c).length) := by
  rw [isD_iff] at hc
  rw [decodeL_N]
  by_cases c1 : c < 128
  · simp only [encodeRune, encodeRuneZ_one (show 0 ≤ c by omega) (show c ≤ 127 by omega), List.map_cons, List.map_nil, List.cons_append, List.nil_append, List.length_cons, List.length_nil]
    have e := ofN c (by omega)
    simp only [List.getD_cons_zero]
    unfold decodeN
    rw [if_pos (by omega)]
    apply Prod.ext <;> simp only <;> omega
  by_cases c2 : c < 2048
  · simp only [encodeRune, encodeRuneZ_two (show 128 ≤ c by omega) (show c ≤ 2047 by omega), List.map_cons, List.map_nil, List.cons_append, List.nil_append, List.length_cons, List.length_nil, List.getD_cons_zero, List.getD_cons_succ]
    have e0 := ofN (192 + c / 64) (by omega)
    have e1 := ofN (128 + c % 64) (by omega)
    generalize (192 + c / 64).toNat.toUInt8.toNat = b0 at *
    generalize (128 + c % 64).toNat.toUInt8.toNat = b1 at *
    unfold decodeN
    rw [if_neg (by omega), if_pos (by omega), if_pos (by omega)]
    apply Prod.ext <;> simp only <;> omega
  by_cases c3 : c < 65536
  · simp only [encodeRune, encodeRuneZ_three (r := c) (by omega), List.map_cons, List.map_nil, List.cons_append, List.nil_append, List.length_cons, List.length_nil, List.getD_cons_zero, List.getD_cons_succ]
    have e0 := ofN (224 + c / 4096) (by omega)
    have e1 := ofN (128 + c / 64 % 64) (by omega)
    have e2 := ofN (128 + c % 64) (by omega)
    generalize (224 + c / 4096).toNat.toUInt8.toNat = b0 at *
    generalize (128 + c / 64 % 64).toNat.toUInt8.toNat = b1 at *
    generalize (128 + c % 64).toNat.toUInt8.toNat = b2 at *
    unfold decodeN
    rw [if_neg (by omega), if_neg (by omega), if_pos (by omega), if_pos (by omega)]
    apply Prod.ext <;> simp only <;> omega
  · simp only [encodeRune, encodeRuneZ_four (r := c) (by omega) (by omega), List.map_cons, List.map_nil, List.cons_append, List.nil_append, List.length_cons, List.length_nil, List.getD_cons_zero, List.getD_cons_succ]
    have e0 := ofN (240 + c / 262144) (by omega)
    have e1 := ofN (128 + c / 4096 % 64) (by omega)
    have e2 := ofN (128 + c / 64 % 64) (by omega)
    have e3 := ofN (128 + c % 64) (by omega)
    generalize (240 + c / 262144).toNat.toUInt8.toNat = b0 at *
    generalize (128 + c / 4096 % 64).toNat.toUInt8.toNat = b1 at *
    generalize (128 + c / 64 % 64).toNat.toUInt8.toNat = b2 at *
    generalize (128 + c % 64).toNat.toUInt8.toNat = b3 at *
    unfold decodeN
    rw [if_neg (by omega), if_neg (by omega), if_neg (by omega), if_pos (by omega), if_pos (by omega)]
    apply Prod.ext <;> simp only <;> omega
theorem enc_pos (c : Int) : 1 ≤ (encodeRune c).length ∧ (encodeRune c).length ≤ 4 := by
  have := encodeRuneZ_length c
  simpa [encodeRune] using this
theorem enc_two (c : Int) (h : 128 ≤ c) : 2 ≤ (encodeRune c).length := by
  unfold encodeRune encodeRuneZ
  repeat' split
  all_goals simp
  omega

/-- What the reference answers, from the bytes that stand there. -/
def refD (d : List UInt8) : Int × Int :=
  let n := refN (byteD d 0) (byteD d 1) (byteD d 2) (byteD d 3)
  if isD n then (if (encodeRune n).length ≤ d.length ∧ d.take (encodeRune n).length = encodeRune n then (n, (encodeRune n).length) else (0, 0)) else (0, 0)
theorem refD_eq (l : List UInt8) (a : Int) (h0 : 0 ≤ a) (h1 : a < l.length) : refD (l.drop a.toNat) = runeD l a := by
  have hne : l.drop a.toNat ≠ [] := by
    intro e
    have := congrArg List.length e
    rw [List.length_drop, List.length_nil] at this
    omega
  unfold runeD
  rw [if_neg (by omega)]
  generalize l.drop a.toNat = d at *
  unfold refD
  simp only
  by_cases hv : (decodeL d).1 = 65533 ∧ (decodeL d).2 = 1
  · rw [if_pos hv]
    by_cases hN : isD (refN (byteD d 0) (byteD d 1) (byteD d 2) (byteD d 3)) = true
    · rw [if_pos hN, if_neg]
      rintro ⟨k1, k2⟩
      have := dec_enc _ hN (d.drop (encodeRune (refN (byteD d 0) (byteD d 1) (byteD d 2) (byteD d 3))).length)
      have e : encodeRune (refN (byteD d 0) (byteD d 1) (byteD d 2) (byteD d 3)) ++ d.drop (encodeRune (refN (byteD d 0) (byteD d 1) (byteD d 2) (byteD d 3))).length = d := by
        conv => rhs; rw [← List.take_append_drop (encodeRune (refN (byteD d 0) (byteD d 1) (byteD d 2) (byteD d 3))).length d]
        rw [k2]
      rw [e] at this
      rw [this] at hv
      have h2 := enc_two (refN (byteD d 0) (byteD d 1) (byteD d 2) (byteD d 3)) (by have := hv.1; simp only at this; omega)
      have := hv.2
      simp only at this
      omega
    · rw [if_neg hN]
  · rw [if_neg hv]
    obtain ⟨g1, g2⟩ := refN_good d hne hv
    rw [g1, if_pos g2, encode_decode d hne hv]
    have hle := decodeL_le d hne
    rw [List.length_take, Nat.min_eq_left hle, if_pos ⟨hle, rfl⟩]
end Go.Proofs.YtohmplfkieaecaaDoor
