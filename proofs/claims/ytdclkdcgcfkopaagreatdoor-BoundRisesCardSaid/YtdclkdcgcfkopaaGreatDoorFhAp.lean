/- append where its token's key is the new one's, too: it hangs on that one variable. -/
import Derived.Test.YtdclkdcgcfkopaaGreatDoorFhX2
set_option linter.all false
namespace Go.Fh
open Go.RowKit

def roomAt (K : Key) : Room → Bool
  | .any => false
  | .full => true
  | .tok k _ _ => decide (k = K)
def probe (K : Key) (x : Nat × Option PObj) : PHeap := fun q => if q = K then x else (0, none)
/-- What an append answers, of what its key holds. -/
def evAp (P : Program) (d : Nat) (K : Key) (op : Op) (ρ : Operand → PV) (x : Nat × Option PObj) : Option (PV × (Nat × Option PObj)) :=
  match op with
  | .call { callee := .builtin .append, args, argTypes } => match args.toList, argTypes.toList with
    | [s, y], [t, t'] => if t = t' then (match tinfo P t with
      | some { k := .slice e, .. } => match tinfo P e with
        | some { size, bytes, zero := some zz, .. } => match ρ s, ρ y with
          | .list room es, .list _ xs => if roomAt K room = true ∧ appOk (probe K x) d K size bytes zz room es xs = true then some ((appP (probe K x) K size room es xs).1, (appP (probe K x) K size room es xs).2 K) else none
          | _, _ => none
        | _ => none
      | _ => none) else none
    | _, _ => none
  | _ => none

theorem evAp_evX {P : Program} {d : Nat} {ky : Tmp → Key} {n : Tmp} {op : Op} {ρ : Operand → PV} {h : PHeap} {x : Nat × Option PObj} {r : PV × (Nat × Option PObj)} (he : evAp P d (ky n) op ρ x = some r) (hx : h (ky n) = x) : evX P d ky (some n) op ρ h = some (r.1, h.set (ky n) r.2) := by
  unfold evAp at he
  split at he
  · rename_i args argTypes
    simp only [evX]
    split at he
    · rename_i s y t t' h1 h2
      rw [h1, h2]
      simp only []
      split at he
      · rename_i htt
        rw [if_pos htt]
        split at he
        · rename_i e sz by0 z0 h3
          rw [h3]
          simp only []
          split at he
          · rename_i ke size bytes zz h4
            rw [h4]
            simp only []
            split at he
            · rename_i room es r2 xs h5 h6
              rw [h5, h6]
              simp only []
              split at he
              · rename_i hc
                obtain ⟨hc1, hc2⟩ := hc
                have hroom : roomP (probe (ky n) x) size es room = roomP h size es room := by
                  cases room with
                  | any => rfl
                  | full => rfl
                  | tok k v s' =>
                    simp only [roomAt, decide_eq_true_eq] at hc1
                    subst hc1
                    simp only [roomP, probe, if_true, hx]
                have hok : appOk h d (ky n) size bytes zz room es xs = true := by
                  simp only [appOk, hroom] at hc2 ⊢
                  exact hc2
                rw [if_pos hok]
                simp only [Option.some.injEq] at he
                subst he
                simp only [Option.some.injEq]
                unfold appP
                split
                · simp only [Prod.mk.injEq, true_and]
                  funext q
                  simp only [PHeap.set, probe, if_true]
                  split
                  · rename_i e; rw [e]; exact hx
                  · rfl
                · cases room with
                  | any => simp [roomAt] at hc1
                  | full =>
                    simp only [appRoom, appH, roomDrop, probe, if_true, hx, PHeap.set_self]
                  | tok k v s' =>
                    simp only [roomAt, decide_eq_true_eq] at hc1
                    subst hc1
                    simp only [appRoom, appH, roomDrop, PHeap.set_self, probe, if_true, hx, Prod.mk.injEq, true_and]
                    funext q
                    simp only [PHeap.set]
                    split <;> rfl
              · cases he
            · cases he
          · cases he
        · cases he
      · cases he
    · cases he
  · cases he
end Go.Fh
