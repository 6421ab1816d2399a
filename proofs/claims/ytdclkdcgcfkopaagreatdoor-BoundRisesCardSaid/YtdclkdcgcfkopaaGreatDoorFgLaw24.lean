/- The plain law of bounds. -/
import Derived.Test.YtdclkdcgcfkopaaGreatDoorFgTick
set_option linter.all false
namespace Go.Fog
open Go.Fh

theorem fold_in (k : Int) : 1 ≤ IntKind.i64.wrap (1 + (IntKind.i64.wrap (k.tmod 100 + 100)).tmod 100) ∧ IntKind.i64.wrap (1 + (IntKind.i64.wrap (k.tmod 100 + 100)).tmod 100) ≤ 100 := by
  have h1 : -100 < k.tmod 100 := Int.lt_tmod_of_pos k (by omega)
  have h2 : k.tmod 100 < 100 := Int.tmod_lt_of_pos k (by omega)
  rw [wrap64 (x := k.tmod 100 + 100) (by omega) (by omega)]
  have h3 : 0 ≤ (k.tmod 100 + 100).tmod 100 := Int.tmod_nonneg 100 (by omega)
  have h4 : (k.tmod 100 + 100).tmod 100 < 100 := Int.tmod_lt_of_pos _ (by omega)
  rw [wrap64 (by omega) (by omega)]
  omega
theorem fold_off (k : Int) : 0 ≤ (IntKind.i64.wrap (k.tmod 1000 + 1000)).tmod 1000 ∧ (IntKind.i64.wrap (k.tmod 1000 + 1000)).tmod 1000 < 1000 := by
  have h1 : -1000 < k.tmod 1000 := Int.lt_tmod_of_pos k (by omega)
  have h2 : k.tmod 1000 < 1000 := Int.tmod_lt_of_pos k (by omega)
  rw [wrap64 (x := k.tmod 1000 + 1000) (by omega) (by omega)]
  exact ⟨Int.tmod_nonneg 1000 (by omega), Int.tmod_lt_of_pos _ (by omega)⟩
theorem mul_small {n s : Int} (h0 : 0 ≤ n) (h1 : n ≤ 200) (h2 : 0 ≤ s) (h3 : s ≤ 1074790400) : 0 ≤ n * s ∧ n * s ≤ 214958080000 := by
  refine ⟨Int.mul_nonneg h0 h2, ?_⟩
  have := Int.mul_le_mul h1 h3 h2 (by omega)
  omega
theorem afterOf_small {n s : Int} (h0 : 0 ≤ n) (h1 : n ≤ 200) (h2 : 0 ≤ s) (h3 : s ≤ 1074790400) : afterOf n s = (1 + n * s, 0) := by
  have hm := mul_small h0 h1 h2 h3
  have e : min n 1099511627776 = n := by omega
  have t1 : tickRight n = true := tickRight_iff.2 (by omega)
  have t2 : tickRight s = true := tickRight_iff.2 (by omega)
  have t3 : tickTimes n s = (n * s, 0) := by
    unfold tickTimes
    rw [if_pos ⟨t1, t2⟩, if_neg]
    rintro ⟨hp, hq⟩
    have : s ≤ 1099511627776 / n := (Int.le_ediv_iff_mul_le hp).2 (by rw [Int.mul_comm]; omega)
    omega
  rw [afterOf, e, t3, tickAdd_right (by decide) (tickRight_iff.2 (by simp only; omega))]
  simp only [Prod.mk.injEq, and_true]
  omega
theorem stepOf_ge (l : List Receiver) : ∀ r ∈ l, recWait r ≤ stepOf l := by
  have up : ∀ (l : List Receiver) (a : Int), a ≤ l.foldl (fun a r => max a (recWait r)) a := by
    intro l
    induction l with
    | nil => intro a; exact Int.le_refl _
    | cons r l ih => intro a; exact Int.le_trans (Int.le_max_left _ _) (ih _)
  have key : ∀ (l : List Receiver) (a : Int), ∀ r ∈ l, recWait r ≤ l.foldl (fun a r => max a (recWait r)) a := by
    intro l
    induction l with
    | nil => intro a r hr; simp at hr
    | cons q l ih =>
      intro a r hr
      rcases List.mem_cons.1 hr with rfl | hr
      · exact Int.le_trans (Int.le_max_right _ _) (up l _)
      · exact ih _ r hr
  exact key l 0
theorem alone_small {c : Config} (hr : c.right = true) {k : Int} (h1 : 1 ≤ k) (h2 : k ≤ 200) (h3 : 0 ≤ stepOf c.receivers) (h4 : stepOf c.receivers ≤ 1074790400) : boundAlone c k = (1 + (k - 1) * stepOf c.receivers, 0) := by
  rw [boundAlone, if_neg (by simp [hr]), if_neg (by omega), afterOf_small (by omega) (by omega) h3 h4]
theorem life_small {c : Config} (hr : c.right = true) {k : Int} (h1 : 0 ≤ k) (h2 : k ≤ 2000) (h3 : 0 ≤ c.beat) (h4 : c.beat ≤ 1073741824) : boundLife c k = (c.beat + k, 0) := by
  rw [boundLife, if_neg (by simp [hr]), if_neg (by omega), tickAdd_right (tickRight_iff.2 (by omega)) (tickRight_iff.2 (by omega))]
  simp only [Prod.mk.injEq, and_true]
  omega
theorem many_small {c : Config} (hr : c.right = true) {who n : Int} (h1 : 1 ≤ n) (h2 : n ≤ 200) (hw : ¬ who < 0) (hl : who < c.receivers.length) (h3 : 0 ≤ everyAt c.receivers who) (h4 : everyAt c.receivers who ≤ 1074790400) : boundMany c who n = (1 + (n - 1) * everyAt c.receivers who, 0) := by
  rw [boundMany, if_neg (by simp [hr]), if_neg (by omega), afterOf_small (by omega) (by omega) h3 h4]
theorem many_out {c : Config} (hr : c.right = true) {who n : Int} (h : who < 0 ∨ (c.receivers.length : Int) ≤ who) : boundMany c who n = (0, 3) := by
  rw [boundMany, if_neg (by simp [hr]), if_pos (by omega)]
theorem rise (k s : Int) : 1 + (k + 1 - 1) * s - (1 + (k - 1) * s) = s := by
  rw [show k + 1 - 1 = k by omega, Int.sub_mul]
  omega
end Go.Fog
