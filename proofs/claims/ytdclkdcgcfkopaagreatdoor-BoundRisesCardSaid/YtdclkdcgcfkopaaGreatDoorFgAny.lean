/- strings.IndexAny at a matcher's signs: what runes do there. -/
import Derived.Test.YtdclkdcgcfkopaaGreatDoorFgCfg
import Derived.Lib.Small
set_option linter.all false
namespace Go.Fog
open Go.Fh

theorem wrap8 {x : Int} (h : 0 ≤ x) (h' : x ≤ 255) : IntKind.u8.wrap x = x := by
  show (if IntKind.u8.signed && (x % (2 ^ IntKind.u8.bits : Int) ≥ (2 ^ (IntKind.u8.bits - 1) : Int)) then x % (2 ^ IntKind.u8.bits : Int) - (2 ^ IntKind.u8.bits : Int) else x % (2 ^ IntKind.u8.bits : Int)) = x
  have hb : IntKind.u8.bits = 8 := rfl
  have hs : IntKind.u8.signed = false := rfl
  rw [hb, hs]
  simp only [Bool.false_and, Bool.false_eq_true, if_false]
  have e1 : (2 ^ 8 : Int) = 256 := by decide
  rw [e1]
  omega
theorem wrap32 {x : Int} (h : -2147483648 ≤ x) (h' : x ≤ 2147483647) : IntKind.i32.wrap x = x := by
  show (if IntKind.i32.signed && (x % (2 ^ IntKind.i32.bits : Int) ≥ (2 ^ (IntKind.i32.bits - 1) : Int)) then x % (2 ^ IntKind.i32.bits : Int) - (2 ^ IntKind.i32.bits : Int) else x % (2 ^ IntKind.i32.bits : Int)) = x
  have hb : IntKind.i32.bits = 32 := rfl
  have hs : IntKind.i32.signed = true := rfl
  rw [hb, hs]
  simp only [Bool.true_and, decide_eq_true_eq, ge_iff_le]
  have e1 : (2 ^ 32 : Int) = 4294967296 := by decide
  have e2 : (2 ^ (32 - 1) : Int) = 2147483648 := by decide
  rw [e1, e2]
  split <;> omega
def signs : Str := [61, 33, 94, 63]
theorem indexByte_sign (b : UInt8) : decide (0 ≤ Lib.indexByte signs b) = isSign b := by
  simp only [signs, Lib.indexByte, isSign]
  by_cases h1 : b = 61
  · subst h1; decide
  by_cases h2 : b = 33
  · subst h2; decide
  by_cases h3 : b = 94
  · subst h3; decide
  by_cases h4 : b = 63
  · subst h4; decide
  have e1 : ((61 : UInt8) == b) = false := by simpa using Ne.symm h1
  have e2 : ((33 : UInt8) == b) = false := by simpa using Ne.symm h2
  have e3 : ((94 : UInt8) == b) = false := by simpa using Ne.symm h3
  have e4 : ((63 : UInt8) == b) = false := by simpa using Ne.symm h4
  simp [e1, e2, e3, e4, h1, h2, h3, h4]
/-- The bytes of a rune beyond ASCII. -/
theorem encode_high {r : Int} (h0 : 128 ≤ r) (hv : Lib.validRune r = true) : ∃ bs x, (Utf8.encode r).data.toList = bs ++ [x] ∧ 128 ≤ x.toNat ∧ 1 ≤ bs.length ∧ bs.length ≤ 3 := by
  have hv' : Utf8.valid r = true := by
    simp only [Lib.validRune, decide_eq_true_eq] at hv
    simp only [Utf8.valid, Bool.or_eq_true, Bool.and_eq_true, decide_eq_true_eq]
    omega
  have hx : ∀ c : Nat, 128 ≤ (UInt8.ofNat (128 + c % 64)).toNat := by
    intro c
    rw [UInt8.toNat_ofNat']
    omega
  unfold Utf8.encode
  simp only [hv', if_true]
  rw [if_neg (by omega)]
  split
  · exact ⟨[_], _, rfl, hx _, by simp, by simp⟩
  · split
    · exact ⟨[_, _], _, rfl, hx _, by simp, by simp⟩
    · exact ⟨[_, _, _], _, rfl, hx _, by simp, by simp⟩
theorem indexByte_miss {x : UInt8} : ∀ {s : Str}, (∀ b ∈ s, b ≠ x) → Lib.indexByte s x = -1 := by
  intro s
  induction s with
  | nil => intro _; rfl
  | cons b s ih =>
    intro h
    have h1 : (b == x) = false := by simpa using h b (by simp)
    simp [Lib.indexByte, h1, ih fun c hc => h c (by simp [hc])]
theorem get_atB (s : ByteArray) (j : Nat) (h : j < s.size) : s.get! j = s[j]'h := by
  simp [ByteArray.get!, getElem!_pos, h]
  rfl
theorem get_at (s : Str) (j : Nat) (h : j < s.length) : (mkStr s).get! j = s[j] := by
  rw [get_atB (mkStr s) j (by simpa using h)]
  exact List.getElem_toArray (xs := s) (i := j) (h := by simpa using h)
theorem cont_at {s : Str} {j : Nat} (h : (decide (j < (mkStr s).size) && ((mkStr s).get! j).toNat / 64 == 2) = true) : ∃ b, s[j]? = some b ∧ 128 ≤ b.toNat := by
  simp only [Bool.and_eq_true, decide_eq_true_eq, mkStr_size, beq_iff_eq] at h
  obtain ⟨h1, h2⟩ := h
  rw [get_at s j h1] at h2
  exact ⟨s[j], List.getElem?_eq_getElem h1, by omega⟩
/-- What a rune beyond ASCII jumps over. -/
theorem decode_jump (s : Str) (pos : Nat) (h : pos < s.length) (ha : 128 ≤ s[pos].toNat) (k : Nat) (hk : k < (Utf8.decode (mkStr s) pos).2) : ∃ b, s[pos + k]? = some b ∧ 128 ≤ b.toNat := by
  have h0 : ∃ b, s[pos + 0]? = some b ∧ 128 ≤ b.toNat := ⟨s[pos], List.getElem?_eq_getElem h, ha⟩
  have hn : ¬ ((mkStr s).get! (pos + 0)).toNat < 128 := by rw [Nat.add_zero, get_at s pos h]; omega
  simp only [Utf8.decode, hn, if_false] at hk
  split at hk
  · rename_i hc
    rw [Bool.and_eq_true] at hc
    split at hk
    · match k, hk with
      | 0, _ => exact h0
      | 1, _ => exact cont_at hc.2
    · obtain rfl : k = 0 := by simpa using hk
      exact h0
  split at hk
  · rename_i hc
    rw [Bool.and_eq_true, Bool.and_eq_true] at hc
    split at hk
    · match k, hk with
      | 0, _ => exact h0
      | 1, _ => exact cont_at hc.1.2
      | 2, _ => exact cont_at hc.2
    · obtain rfl : k = 0 := by simpa using hk
      exact h0
  split at hk
  · rename_i hc
    rw [Bool.and_eq_true, Bool.and_eq_true, Bool.and_eq_true] at hc
    split at hk
    · match k, hk with
      | 0, _ => exact h0
      | 1, _ => exact cont_at hc.1.1.2
      | 2, _ => exact cont_at hc.1.2
      | 3, _ => exact cont_at hc.2
    · obtain rfl : k = 0 := by simpa using hk
      exact h0
  · obtain rfl : k = 0 := by simpa using hk
    exact h0
theorem decode_max (s : Str) (pos : Nat) (h : pos < s.length) (ha : 128 ≤ s[pos].toNat) : pos + (Utf8.decode (mkStr s) pos).2 ≤ s.length := by
  rcases Nat.eq_zero_or_pos (Utf8.decode (mkStr s) pos).2 with h0 | h0
  · omega
  · obtain ⟨b, hb, _⟩ := decode_jump s pos h ha ((Utf8.decode (mkStr s) pos).2 - 1) (by omega)
    have := (List.getElem?_eq_some_iff.1 hb).1
    omega
/-- No sign lies ahead. -/
def NoSign (s : Str) (i : Nat) : Prop := i ≤ s.length ∧ ∀ j b, j < i → s[j]? = some b → isSign b = false
theorem high_noSign {b : UInt8} (h : 128 ≤ b.toNat) : isSign b = false := by
  simp only [isSign, Bool.or_eq_false_iff, decide_eq_false_iff_not]
  refine ⟨⟨⟨?_, ?_⟩, ?_⟩, ?_⟩ <;> (intro e; subst e; simp at h)
theorem NoSign.jump {s : Str} {i : Nat} (N : NoSign s i) (h : i < s.length) (ha : 128 ≤ s[i].toNat) : NoSign s (i + (Utf8.decode (mkStr s) i).2) := by
  refine ⟨decode_max s i h ha, fun j b hj hb => ?_⟩
  by_cases hji : j < i
  · exact N.2 j b hji hb
  · obtain ⟨b', hb', h1⟩ := decode_jump s i h ha (j - i) (by omega)
    rw [show i + (j - i) = j by omega, hb] at hb'
    cases hb'
    exact high_noSign h1
theorem NoSign.step {s : Str} {i : Nat} (N : NoSign s i) (h : i < s.length) (ha : isSign s[i] = false) : NoSign s (i + 1) := by
  refine ⟨h, fun j b hj hb => ?_⟩
  by_cases hji : j < i
  · exact N.2 j b hji hb
  · obtain rfl : j = i := by omega
    rw [List.getElem?_eq_getElem h] at hb
    cases hb
    exact ha
theorem NoSign.hit {s : Str} {i : Nat} (N : NoSign s i) (h : i < s.length) (ha : isSign s[i] = true) : indexF isSign s = i := by
  have : s.findIdx? isSign = some i := List.findIdx?_eq_some_iff_getElem.2 ⟨h, ha, fun j hj => by
    have := N.2 j s[j] hj (List.getElem?_eq_getElem (by omega))
    simp [this]⟩
  simp [indexF, this]
theorem NoSign.end {s : Str} (N : NoSign s s.length) : indexF isSign s = -1 := by
  have : s.findIdx? isSign = none := List.findIdx?_eq_none_iff.2 fun b hb => by
    obtain ⟨j, hj, rfl⟩ := List.getElem_of_mem hb
    exact N.2 j _ hj (List.getElem?_eq_getElem hj)
  simp [indexF, this]
theorem contains_sign (b : UInt8) : signs.contains b = isSign b := by
  simp only [signs, List.contains_cons, List.contains_nil, isSign, Bool.or_false]
  rw [Bool.or_assoc, Bool.or_assoc]
  rfl
theorem indexAny_signs (s : Str) : Lib.indexAny s signs = indexF isSign s := by
  induction s with
  | nil => rfl
  | cons b s ih =>
    rw [Lib.indexAny, contains_sign]
    unfold indexF
    rw [List.findIdx?_cons]
    cases isSign b with
    | true => rfl
    | false =>
      rw [ih]
      unfold indexF
      cases s.findIdx? isSign <;> simp
theorem askedOf_fits {s : Str} {m : Matcher} (h : askedOf s = some m) (hs : s.length ≤ 9223372036854775807) : Fits m.name ∧ Fits m.value := by
  unfold askedOf at h
  split at h
  · cases h
  · split at h
    · cases h
      exact ⟨⟨by simp [askedAt]; omega⟩, ⟨by simp [askedAt]; omega⟩⟩
    · cases h
end Go.Fog
