/- What a text is, in plain Lean: bytes that are UTF-8, none of whose runes is below 32 or 127. No program is named here. -/
import Derived.Lib.ValidLaws
set_option linter.unusedVariables false
set_option linter.unusedSimpArgs false
namespace Go.Proofs.YtdpmfghlhgfhfaaDoor
open Go.Lib

/-- No step of the decoder is a fault, and no rune is below 32 or 127. -/
def runesGo : Nat → List UInt8 → Bool
  | 0, _ => true
  | n + 1, l => if l = [] then true else if (decodeL l).1 = 65533 ∧ (decodeL l).2 = 1 then false else if (decodeL l).1 < 32 ∨ (decodeL l).1 = 127 then false else runesGo n (l.drop (decodeL l).2)
def runesOk (l : List UInt8) : Bool := runesGo l.length l
theorem runesGo_nil : ∀ n, runesGo n [] = true
  | 0 => rfl
  | _ + 1 => by simp [runesGo]
theorem runesGo_fuel : ∀ (n m : Nat) (l : List UInt8), l.length ≤ n → l.length ≤ m → runesGo n l = runesGo m l
  | 0, m, l, hn, _ => by
    have : l = [] := List.eq_nil_of_length_eq_zero (by omega)
    subst this
    rw [runesGo_nil, runesGo_nil]
  | n + 1, 0, l, _, hm => by
    have : l = [] := List.eq_nil_of_length_eq_zero (by omega)
    subst this
    rw [runesGo_nil, runesGo_nil]
  | n + 1, m + 1, l, hn, hm => by
    unfold runesGo
    by_cases hne : l = []
    · simp [hne]
    · have hw := decodeL_width l
      have hl : 0 < l.length := List.length_pos_iff.2 hne
      rw [if_neg hne, if_neg hne, runesGo_fuel n m (l.drop (decodeL l).2) (by rw [List.length_drop]; omega) (by rw [List.length_drop]; omega)]
theorem runesOk_step (l : List UInt8) (hne : l ≠ []) : runesOk l = if (decodeL l).1 = 65533 ∧ (decodeL l).2 = 1 then false else if (decodeL l).1 < 32 ∨ (decodeL l).1 = 127 then false else runesOk (l.drop (decodeL l).2) := by
  have hl : 0 < l.length := List.length_pos_iff.2 hne
  have hw := decodeL_width l
  obtain ⟨n, hn⟩ : ∃ n, l.length = n + 1 := ⟨l.length - 1, by omega⟩
  unfold runesOk
  rw [hn]
  show (if l = [] then true else _) = _
  rw [if_neg hne, runesGo_fuel n (l.drop (decodeL l).2).length _ (by rw [List.length_drop]; omega) (Nat.le_refl _)]
theorem runesOk_nil : runesOk [] = true := rfl
theorem runesOk_invalid : ∀ (n : Nat) (l : List UInt8), l.length ≤ n → validD l = false → runesOk l = false
  | 0, l, hn, h => by
    have : l = [] := List.eq_nil_of_length_eq_zero (by omega)
    subst this
    cases h
  | n + 1, l, hn, h => by
    by_cases hne : l = []
    · subst hne; cases h
    · have hl : 0 < l.length := List.length_pos_iff.2 hne
      have hw := decodeL_width l
      rw [validD_step l hne] at h
      rw [runesOk_step l hne]
      by_cases hb : (decodeL l).1 = 65533 ∧ (decodeL l).2 = 1
      · rw [if_pos hb]
      · rw [if_neg hb] at h ⊢
        split
        · rfl
        · exact runesOk_invalid n _ (by rw [List.length_drop]; omega) h
theorem validD_next (l : List UInt8) (hne : l ≠ []) (h : validD l = true) : ¬ ((decodeL l).1 = 65533 ∧ (decodeL l).2 = 1) ∧ validD (l.drop (decodeL l).2) = true := by
  rw [validD_step l hne] at h
  by_cases hb : (decodeL l).1 = 65533 ∧ (decodeL l).2 = 1
  · rw [if_pos hb] at h; cases h
  · rw [if_neg hb] at h; exact ⟨hb, h⟩
theorem decode_dropL (s : ByteArray) (pos : Nat) : Utf8.decode s pos = decodeL (s.data.toList.drop pos) := by
  rw [decode_N, decodeL_N, List.length_drop]
  simp only [getD_dropU, Nat.add_zero]

/-- May bytes be a text? -/
def tmay (s : ByteArray) : Bool := decide (1 ≤ s.size) && decide (s.size ≤ 64) && runesOk s.data.toList

/-- The size of a rune as the reference tells it: by its first byte and the ones behind it; 0: it is none. n: how many bytes there are. -/
def refSize (n b0 b1 b2 b3 : Nat) : Nat :=
  if b0 < 128 then 1
  else if 194 ≤ b0 ∧ b0 ≤ 223 ∧ (1 < n ∧ 128 ≤ b1 ∧ b1 ≤ 191) then 2
  else if 224 ≤ b0 ∧ b0 ≤ 239 ∧ (1 < n ∧ 128 ≤ b1 ∧ b1 ≤ 191) ∧ (2 < n ∧ 128 ≤ b2 ∧ b2 ≤ 191) then (if b0 = 224 ∧ b1 < 160 ∨ b0 = 237 ∧ 159 < b1 then 0 else 3)
  else if 240 ≤ b0 ∧ b0 ≤ 244 ∧ (1 < n ∧ 128 ≤ b1 ∧ b1 ≤ 191) ∧ (2 < n ∧ 128 ≤ b2 ∧ b2 ≤ 191) ∧ (3 < n ∧ 128 ≤ b3 ∧ b3 ≤ 191) then (if b0 = 240 ∧ b1 < 144 ∨ b0 = 244 ∧ 143 < b1 then 0 else 4)
  else 0
set_option maxRecDepth 100000 in
set_option maxHeartbeats 4000000 in
theorem refSize_decode (n b0 b1 b2 b3 : Nat) (h0 : b0 < 256) (h1 : b1 < 256) (h2 : b2 < 256) (h3 : b3 < 256) :
    (refSize n b0 b1 b2 b3 = 0 ∧ decodeN n b0 b1 b2 b3 = (65533, 1)) ∨
    (refSize n b0 b1 b2 b3 = (decodeN n b0 b1 b2 b3).2 ∧ 0 < (decodeN n b0 b1 b2 b3).2 ∧ ¬ ((decodeN n b0 b1 b2 b3).1 = 65533 ∧ (decodeN n b0 b1 b2 b3).2 = 1) ∧ (((decodeN n b0 b1 b2 b3).1 < 32 ∨ (decodeN n b0 b1 b2 b3).1 = 127) ↔ (b0 < 32 ∨ b0 = 127))) := by
  unfold refSize decodeN
  repeat' split
  all_goals first
    | (left; exact ⟨rfl, rfl⟩)
    | (right; refine ⟨rfl, by omega, by omega, by omega⟩)
    | (exfalso; omega)
/-- The size of the rune at the head of some bytes. -/
def headSize (l : List UInt8) : Nat := refSize l.length (l.getD 0 0).toNat (l.getD 1 0).toNat (l.getD 2 0).toNat (l.getD 3 0).toNat
theorem runesOk_ref (l : List UInt8) (hne : l ≠ []) : runesOk l = if headSize l = 0 then false else if (l.getD 0 0).toNat < 32 ∨ (l.getD 0 0).toNat = 127 then false else runesOk (l.drop (headSize l)) := by
  rw [runesOk_step l hne, decodeL_N]
  unfold headSize
  rcases refSize_decode l.length (l.getD 0 0).toNat (l.getD 1 0).toNat (l.getD 2 0).toNat (l.getD 3 0).toNat (UInt8.toNat_lt _) (UInt8.toNat_lt _) (UInt8.toNat_lt _) (UInt8.toNat_lt _) with ⟨e, d⟩ | ⟨e, hp, hb, hc⟩
  · rw [e, d]; simp
  · rw [e]
    generalize decodeN l.length (l.getD 0 0).toNat (l.getD 1 0).toNat (l.getD 2 0).toNat (l.getD 3 0).toNat = d at *
    have hz : ¬ d.2 = 0 := by omega
    by_cases h : (l.getD 0 0).toNat < 32 ∨ (l.getD 0 0).toNat = 127
    · rw [if_neg hb, if_pos (hc.2 h), if_neg hz, if_pos h]
    · rw [if_neg hb, if_neg (fun x => h (hc.1 x)), if_neg hz, if_neg h]
theorem headSize_le (l : List UInt8) (hne : l ≠ []) : headSize l ≤ l.length := by
  have hl : 0 < l.length := List.length_pos_iff.2 hne
  unfold headSize refSize
  repeat' split
  all_goals omega
end Go.Proofs.YtdpmfghlhgfhfaaDoor
