/- Times, and bounds: what they answer. -/
import Derived.Test.YtdclkdcgcfkopaaGreatDoorFgCfg
set_option linter.all false
namespace Go.Fog
open Go.Fh

def tickAdd (t d : Int) : Int × Int := if tickRight t = true ∧ tickRight d = true then (min (t + d) 1099511627776, 0) else (0, 1)
def tickTimes (t n : Int) : Int × Int := if tickRight t = true ∧ tickRight n = true then (if 0 < t ∧ 1099511627776 / t < n then (1099511627776, 0) else (t * n, 0)) else (0, 1)
theorem tickRight_iff {t : Int} : tickRight t = true ↔ 0 ≤ t ∧ t ≤ 1099511627776 := by simp [tickRight]
theorem times_le {t n : Int} (h0 : 0 ≤ t) (h1 : 0 ≤ n) (h : ¬ (0 < t ∧ 1099511627776 / t < n)) : 0 ≤ t * n ∧ t * n ≤ 1099511627776 := by
  refine ⟨Int.mul_nonneg h0 h1, ?_⟩
  rcases Int.lt_or_le 0 t with ht | ht
  · have hn : n ≤ 1099511627776 / t := by
      rcases Int.lt_or_le (1099511627776 / t) n with h2 | h2
      · exact absurd ⟨ht, h2⟩ h
      · exact h2
    have := (Int.le_ediv_iff_mul_le ht).1 hn
    rw [Int.mul_comm]
    exact this
  · have : t = 0 := by omega
    subst this
    simp
theorem tickAdd_right {t d : Int} (h : tickRight t = true) (h' : tickRight d = true) : tickAdd t d = (min (t + d) 1099511627776, 0) := by simp [tickAdd, h, h']
theorem tickTimes_tick {t n : Int} (h : tickRight t = true) (h' : tickRight n = true) : tickRight (tickTimes t n).1 = true ∧ (tickTimes t n).2 = 0 := by
  unfold tickTimes
  rw [if_pos ⟨h, h'⟩]
  split
  · exact ⟨by decide, rfl⟩
  · rename_i hn
    rw [tickRight_iff] at h h'
    have := times_le h.1 h'.1 hn
    exact ⟨tickRight_iff.2 this, rfl⟩

/-! ### Bounds -/
def recWait (r : Receiver) : Int := max (r.top + r.jitter) (max r.every r.opens)
def stepOf (l : List Receiver) : Int := l.foldl (fun a r => max a (recWait r)) 0
def afterOf (n step : Int) : Int × Int := tickAdd 1 (tickTimes (min n 1099511627776) step).1
def boundStep (c : Config) : Int × Int := if c.right = true then (stepOf c.receivers, 0) else (0, 1)
def boundAlone (c : Config) (k : Int) : Int × Int := if c.right = false then (0, 1) else if k < 1 then (0, 3) else afterOf (k - 1) (stepOf c.receivers)
def everyAt (l : List Receiver) (who : Int) : Int := match l[who.toNat]? with
  | some r => r.every
  | none => 0
def boundMany (c : Config) (who n : Int) : Int × Int := if c.right = false then (0, 1) else if who < 0 ∨ (c.receivers.length : Int) ≤ who ∨ n < 1 then (0, 3) else afterOf (n - 1) (everyAt c.receivers who)
def boundLife (c : Config) (off : Int) : Int × Int := if c.right = false then (0, 1) else if off < 0 then (0, 3) else tickAdd c.beat (min off 1099511627776)
end Go.Fog
