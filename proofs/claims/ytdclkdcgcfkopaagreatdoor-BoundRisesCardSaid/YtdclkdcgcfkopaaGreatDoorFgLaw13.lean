/- The laws of configs, as plain Lean. -/
import Derived.Test.YtdclkdcgcfkopaaGreatDoorFgRd
import Derived.KernelRfl
set_option linter.all false
namespace Go.Fog
open Go.Fh

def leastText : Str := [114, 101, 99, 101, 105, 118, 101, 114, 32, 97, 32, 49, 32, 56, 32, 48, 32, 51, 32, 53, 32, 49, 48, 32, 50, 32, 52, 10, 114, 111, 117, 116, 101, 32, 97, 32, 105, 102, 10, 114, 101, 112, 101, 97, 116, 32, 54, 48, 10, 98, 101, 97, 116, 32, 51, 48, 10]
def leastCfg : Config := { receivers := [⟨[97], 1, 8, 0, 3, 5, 10, 2, 4⟩], routes := [⟨[0], [], .any, .any⟩], rep := 60, beat := 30, rr := .any, rt := .any }
theorem parse_least : parseOf leastText = (leastCfg, 0, 0) := by kernel_rfl
theorem splitOn_cat (c : UInt8) (x y : Str) : splitOn c (x ++ c :: y) = splitOn c x ++ splitOn c y := by
  induction x with
  | nil => simp [splitOn]
  | cons b s ih =>
    simp only [List.cons_append, splitOn]
    split
    · rw [ih]; simp
    · rw [ih]
      cases hs : splitOn c s with
      | nil => exact absurd hs (splitOn_ne c s)
      | cons z l => simp
theorem linesD_cat (x y : Str) : linesD (x ++ 10 :: y) = splitOn 10 x ++ linesD y := by
  have h := splitOn_cat 10 x y
  have hy := splitOn_ne 10 y
  have hg : ∀ e : splitOn 10 x ++ splitOn 10 y ≠ [], (splitOn 10 x ++ splitOn 10 y).getLast e = (splitOn 10 y).getLast hy := fun e => List.getLast_append_of_ne_nil e hy
  unfold linesD
  simp only [h, hg]
  split
  · rw [List.dropLast_append_of_ne_nil hy]
  · rfl
theorem linesD_nil : linesD [] = [] := by rfl
theorem linesD_cons {b : UInt8} {s : Str} : linesD (b :: s) ≠ [] := by
  cases hf : (b :: s).findIdx? (· == 10) with
  | none => rw [linesD_miss hf]; simp
  | some i => rw [linesD_hit hf]; simp
theorem runLines_cat : ∀ (l m : List Str) (i : Nat) (s : Core),
    ((runLines l i s).2.2 = 0 ∧ (runLines l i s).2.1 = i + l.length ∧ runLines (l ++ m) i s = runLines m (i + l.length) (runLines l i s).1) ∨
    ((runLines l i s).2.2 ≠ 0 ∧ (runLines l i s).2.1 < i + l.length ∧ runLines (l ++ m) i s = runLines l i s) := by
  intro l
  induction l with
  | nil => intro m i s; exact .inl ⟨rfl, rfl, rfl⟩
  | cons x l ih =>
    intro m i s
    by_cases h : (lineOf s x).1 = 0
    · have e1 : runLines (x :: l) i s = runLines l (i + 1) (lineOf s x).2 := by rw [runLines, if_pos h]
      have e2 : runLines (x :: l ++ m) i s = runLines (l ++ m) (i + 1) (lineOf s x).2 := by rw [List.cons_append, runLines, if_pos h]
      rw [e1, e2, List.length_cons]
      rcases ih m (i + 1) (lineOf s x).2 with ⟨h1, h2, h3⟩ | ⟨h1, h2, h3⟩
      · exact .inl ⟨h1, by rw [h2]; omega, by rw [h3, show i + 1 + l.length = i + (l.length + 1) by omega]⟩
      · exact .inr ⟨h1, by omega, h3⟩
    · have e1 : runLines (x :: l) i s = ((lineOf s x).2, i, (lineOf s x).1) := by rw [runLines, if_neg h]
      have e2 : runLines (x :: l ++ m) i s = ((lineOf s x).2, i, (lineOf s x).1) := by rw [List.cons_append, runLines, if_neg h]
      rw [e1, e2, List.length_cons]
      exact .inr ⟨h, by simp only; omega, rfl⟩
theorem lineOf_beat {s : Core} (h : s.ahead = wBeat) (l : Str) : lineOf s l = (10, s) := by
  unfold lineOf
  simp only [h]
  rw [if_neg (by simp [wBeat, wReceiver]), if_neg (by simp [wBeat, wReceiver, wRoute]), if_neg (by simp [wBeat, wRoute]), if_neg (by simp [wBeat, wRepeat])]
/-- The first line that is wrong is told, whatever stands behind it. -/
theorem first_law (t0 m : Str) :
    (∃ c, parseOf (t0 ++ [10]) = (c, 0, 0) ∧ ((m = [] ∧ parseOf (t0 ++ [10] ++ m) = (c, 0, 0)) ∨ (m ≠ [] ∧ parseOf (t0 ++ [10] ++ m) = (.zero, ((linesOf (t0 ++ [10])).length : Int), 10)))) ∨
    (parseOf (t0 ++ [10]) = (.zero, ((linesOf (t0 ++ [10])).length : Int), 12)) ∨
    (∃ (i : Nat) (e : Int), e ≠ 0 ∧ i ≤ (linesOf (t0 ++ [10])).length ∧ parseOf (t0 ++ [10]) = (.zero, (i : Int), e) ∧ parseOf (t0 ++ [10] ++ m) = (.zero, (i : Int), e)) := by
  have hL : linesOf (t0 ++ [10]) = splitOn 10 t0 := by
    rw [linesOf_eq, linesD_cat, linesD_nil, List.append_nil]
  have hM : linesOf (t0 ++ [10] ++ m) = splitOn 10 t0 ++ linesD m := by
    rw [linesOf_eq, List.append_assoc, List.singleton_append, linesD_cat]
  generalize splitOn 10 t0 = L at hL hM
  have ha : parseOf (t0 ++ [10]) = (if (runLines L 0 .init).2.2 ≠ 0 then (Config.zero, ((runLines L 0 .init).2.1 : Int), (runLines L 0 .init).2.2) else if (runLines L 0 .init).1.ahead ≠ wBeat then (Config.zero, (L.length : Int), 12) else ((runLines L 0 .init).1.config, 0, 0) : Config × Int × Int) := by
    unfold parseOf; rw [hL]
  have hb : parseOf (t0 ++ [10] ++ m) = (if (runLines (L ++ linesD m) 0 .init).2.2 ≠ 0 then (Config.zero, ((runLines (L ++ linesD m) 0 .init).2.1 : Int), (runLines (L ++ linesD m) 0 .init).2.2) else if (runLines (L ++ linesD m) 0 .init).1.ahead ≠ wBeat then (Config.zero, ((L ++ linesD m).length : Int), 12) else ((runLines (L ++ linesD m) 0 .init).1.config, 0, 0) : Config × Int × Int) := by
    unfold parseOf; rw [hM]
  rw [hL]
  rcases runLines_cat L (linesD m) 0 .init with ⟨h1, h2, h3⟩ | ⟨h1, h2, h3⟩
  · rw [if_neg (by simp [h1])] at ha
    by_cases hah : (runLines L 0 .init).1.ahead = wBeat
    · rw [if_neg (by simp [hah])] at ha
      refine .inl ⟨_, ha, ?_⟩
      cases m with
      | nil =>
        left
        refine ⟨rfl, ?_⟩
        rw [List.append_nil]
        exact ha
      | cons b m' =>
        right
        refine ⟨by simp, ?_⟩
        rw [h3] at hb
        cases hl : linesD (b :: m') with
        | nil => exact absurd hl linesD_cons
        | cons l ls =>
          rw [hl] at hb
          have hr : runLines (l :: ls) (0 + L.length) (runLines L 0 .init).1 = ((runLines L 0 .init).1, 0 + L.length, 10) := by
            rw [runLines, lineOf_beat hah, if_neg (by simp)]
          rw [hr] at hb
          rw [hb, if_pos (by simp)]
          simp
    · rw [if_pos (by simp [hah])] at ha
      exact .inr (.inl ha)
  · rw [if_pos h1] at ha
    rw [h3, if_pos h1] at hb
    exact .inr (.inr ⟨(runLines L 0 .init).2.1, (runLines L 0 .init).2.2, h1, by omega, ha, hb⟩)
theorem same_zero : sameCfg .zero .zero = true := by decide
end Go.Fog
