/- The theorem on regions whose order is open. -/
import Derived.Test.YtdclkdcgcfkopaaGreatDoorFhDraw
set_option linter.all false
namespace Go.Fh
open Go.RowKit

theorem count_set (S S' : Nat → Bool) (i : Nat) (hi : S i = false) (hi' : S' i = true) (he : ∀ k, k ≠ i → S' k = S k) : ∀ n, i < n → (List.range n).countP (fun k => !S' k) + 1 = (List.range n).countP (fun k => !S k) := by
  have same : ∀ n, n ≤ i → (List.range n).countP (fun k => !S' k) = (List.range n).countP (fun k => !S k) := by
    intro n hn
    apply List.countP_congr
    intro k hk
    rw [List.mem_range] at hk
    rw [he k (by omega)]
  intro n
  induction n with
  | zero => intro h; omega
  | succ n ih =>
    intro h
    rw [List.range_succ, List.countP_append, List.countP_append]
    by_cases hn : i = n
    · subst hn
      rw [same i (Nat.le_refl i)]
      simp [hi, hi']
    · have := ih (by omega)
      have hs : S' n = S n := he n (Ne.symm hn)
      simp only [List.countP_cons, List.countP_nil, hs]
      omega

theorem write_kind {P : Program} {d : Nat} {mu : Nat → Bool} {o : Oper} {ρ : Operand → PV} {h : PHeap} {r : PV × PHeap} {k : Key} (he : evW P d mu o.dst o.op ρ h = some r) (hk : writeKey d o.dst o.op ρ = some k) : isStore o = true ∨ (isAlloc mu o = true ∧ ∃ n, o.dst = some n ∧ k = (d, n)) := by
  unfold isStore isAlloc
  obtain ⟨dst, op, t, pos, after, guard⟩ := o
  simp only at he hk ⊢
  cases op with
  | alloc t =>
    right
    simp only [writeKey, Option.map_eq_some_iff] at hk
    obtain ⟨n, rfl, rfl⟩ := hk
    exact ⟨rfl, n, rfl, rfl⟩
  | box t x =>
    right
    simp only [writeKey, Option.map_eq_some_iff] at hk
    obtain ⟨n, rfl, rfl⟩ := hk
    simp only [evW] at he
    split at he
    · rename_i hc
      exact ⟨hc.1, n, rfl, rfl⟩
    · cases he
  | store t a x => exact .inl rfl
  | _ => simp [writeKey] at hk

section
variable {P : Program} {d m : Nat} {mu : Nat → Bool} {ops : Array Oper} {Q : PExit → St → Prop} {σ : St} {R : List (PV × Option (Key × (Nat × Option PObj)))}

structure DrawData (P : Program) (d m : Nat) (mu : Nat → Bool) (ops : Array Oper) (σ : St) (R : List (PV × Option (Key × (Nat × Option PObj)))) : Prop where
  ok : opsOk m ops ops.toList = true
  dok : drawOk mu ops = true
  len : R.length = ops.size
  step : ∀ j o v e, ops[j]? = some o → R[j]? = some (v, e) → DStep P d mu ops o (stN ops R σ (fun _ => true) j) v e

theorem DrawData.dst (D : DrawData P d m mu ops σ R) {i k : Nat} {o q : Oper} {t : Tmp} (ho : ops[i]? = some o) (hq : ops[k]? = some q) (hne : k ≠ i) (ht : q.dst = some t) (hn : t ∈ names ops o) : ordered (befores ops.toList []) k i = true := by
  have h := D.dok
  simp only [drawOk, List.all_eq_true, Bool.and_eq_true] at h
  have h1 := (h (o, i) (List.mem_iff_getElem?.2 ⟨i, by simp [List.getElem?_zipIdx, ho]⟩)).2 (q, k) (List.mem_iff_getElem?.2 ⟨k, by simp [List.getElem?_zipIdx, hq]⟩)
  simp only [Bool.or_eq_true, beq_iff_eq, Bool.and_eq_true] at h1
  rcases h1 with h1 | ⟨h1, _⟩
  · exact absurd h1 hne
  · rw [ht] at h1
    simp only [Bool.or_eq_true, Bool.not_eq_true'] at h1
    rcases h1 with h1 | h1
    · simp [hn] at h1
    · exact h1
theorem DrawData.store (D : DrawData P d m mu ops σ R) {i k : Nat} {o q : Oper} (ho : ops[i]? = some o) (hq : ops[k]? = some q) (hne : k ≠ i) (hs : isStore q = true) (ht : touches mu o = true) : ordered (befores ops.toList []) k i = true := by
  have h := D.dok
  simp only [drawOk, List.all_eq_true, Bool.and_eq_true] at h
  have h1 := (h (o, i) (List.mem_iff_getElem?.2 ⟨i, by simp [List.getElem?_zipIdx, ho]⟩)).2 (q, k) (List.mem_iff_getElem?.2 ⟨k, by simp [List.getElem?_zipIdx, hq]⟩)
  simp only [Bool.or_eq_true, beq_iff_eq, Bool.and_eq_true] at h1
  rcases h1 with h1 | ⟨_, h1⟩
  · exact absurd h1 hne
  · simpa [hs, ht] using h1
theorem DrawData.early (D : DrawData P d m mu ops σ R) {i : Nat} {o : Oper} (ho : ops[i]? = some o) : ∀ e ∈ o.after, Region.binds .any e = true → e.on < i := by
  have h := D.dok
  simp only [drawOk, List.all_eq_true, Bool.and_eq_true] at h
  have h1 := (h (o, i) (List.mem_iff_getElem?.2 ⟨i, by simp [List.getElem?_zipIdx, ho]⟩)).1
  intro e he hb
  have := h1 e (by simpa using he)
  simpa [hb] using this

def Closed (ops : Array Oper) (S : Nat → Bool) : Prop := ∀ j o, S j = true → ops[j]? = some o → ∀ e ∈ o.after, Region.binds .any e = true → S e.on = true

/-- What is ordered with the next one is done if, and only if, it stands ahead of it. -/
theorem ordered_iff {S : Nat → Bool} (hS : Closed ops S) {i k : Nat} {o q : Oper} (ho : ops[i]? = some o) (hq : ops[k]? = some q) (hne : k ≠ i) (hi : S i = false) (he : ∀ e ∈ o.after, Region.binds .any e = true → S e.on = true)
    (h : ordered (befores ops.toList []) k i = true) : S k = decide (k < i) := by
  unfold ordered at h
  rcases Nat.lt_or_gt_of_ne hne with hlt | hgt
  · rw [Nat.max_eq_right (by omega), Nat.min_eq_left (by omega)] at h
    rw [closed_bits hS i o ho he k h]
    simp [hlt]
  · rw [Nat.max_eq_left (by omega), Nat.min_eq_right (by omega)] at h
    have hn : decide (k < i) = false := by simp; omega
    rw [hn]
    cases hk : S k with
    | false => rfl
    | true =>
      have := closed_bits hS k q hq (hS k q hk hq) i h
      rw [hi] at this
      cases this

theorem upto_full (R : List (PV × Option (Key × (Nat × Option PObj)))) (σ : St) {i n : Nat} (hi : i ≤ n) : stN ops R σ (fun k => decide (k < i)) n = stN ops R σ (fun _ => true) i := by
  obtain ⟨k, rfl⟩ := Nat.exists_eq_add_of_le hi
  rw [stN_upto]
  exact stN_beyond _ _ _ fun k hk => by simp [hk]

theorem DrawData.agree_t (D : DrawData P d m mu ops σ R) {S : Nat → Bool} (hS : Closed ops S) {i : Nat} {o : Oper} (ho : ops[i]? = some o) (hi : S i = false) (he : ∀ e ∈ o.after, Region.binds .any e = true → S e.on = true) {t : Tmp} (ht : t ∈ names ops o) :
    (stN ops R σ S ops.size).t t = (stN ops R σ (fun _ => true) i).t t := by
  have hlt := (Array.getElem?_eq_some_iff.1 ho).1
  rw [← upto_full R σ (Nat.le_of_lt hlt)]
  refine stN_t _ _ t _ fun k hk q hq hqt => ?_
  by_cases hne : k = i
  · subst hne; rw [hi]; simp
  · exact ordered_iff hS ho hq hne hi he (D.dst ho hq hne hqt ht)

theorem DrawData.eff (D : DrawData P d m mu ops σ R) {k : Nat} {q : Oper} {v : PV} {kk : Key} {x : Nat × Option PObj} (hq : ops[k]? = some q) (hR : R[k]? = some (v, some (kk, x))) : isStore q = true ∨ (isAlloc mu q = true ∧ ∃ n, q.dst = some n ∧ kk = (d, n)) := by
  have := D.step k q v _ hq hR
  cases this with
  | write _ _ _ hg h0 hk he => exact write_kind he hk
  | app _ ky n _ hg h0 hd he =>
    obtain ⟨args, ts, hop⟩ := evAp_op he
    exact .inl (by simp [isStore, hop])

theorem DrawData.agree_h (D : DrawData P d m mu ops σ R) {S : Nat → Bool} (hS : Closed ops S) {i : Nat} {o : Oper} (ho : ops[i]? = some o) (hi : S i = false) (he : ∀ e ∈ o.after, Region.binds .any e = true → S e.on = true) (ht : touches mu o = true) {kk : Key}
    (hk : ∀ k q v x n, k ≠ i → ops[k]? = some q → R[k]? = some (v, some (kk, x)) → isAlloc mu q = true → q.dst = some n → kk = (d, n) → ordered (befores ops.toList []) k i = true) :
    (stN ops R σ S ops.size).h kk = (stN ops R σ (fun _ => true) i).h kk := by
  have hlt := (Array.getElem?_eq_some_iff.1 ho).1
  rw [← upto_full R σ (Nat.le_of_lt hlt)]
  refine stN_h _ _ kk _ fun k hkn v x hR => ?_
  by_cases hne : k = i
  · subst hne; rw [hi]; simp
  · have hq : ops[k]? = some ops[k] := Array.getElem?_eq_getElem hkn
    rcases D.eff hq hR with hst | ⟨hal, n, hn, rfl⟩
    · exact ordered_iff hS ho hq hne hi he (D.store ho hq hne hst ht)
    · exact ordered_iff hS ho hq hne hi he (hk k _ v x n hne hq hR hal hn rfl)

theorem mem_allocs {q : Oper} {k n : Nat} (hq : ops[k]? = some q) (ha : isAlloc mu q = true) (hn : q.dst = some n) : (allocs mu ops).contains n = true := by
  rw [List.contains_iff_mem]
  unfold allocs
  rw [List.mem_filterMap]
  refine ⟨q, ?_, ?_⟩
  · exact List.mem_iff_getElem?.2 ⟨k, by rw [Array.getElem?_toList]; exact hq⟩
  · rw [if_pos ha]; exact hn

/-- The state behind one more operation. -/
theorem DrawData.next (D : DrawData P d m mu ops σ R) {S S' : Nat → Bool} (hS : Closed ops S) {i : Nat} {o : Oper} {v : PV} {e : Option (Key × (Nat × Option PObj))} (ho : ops[i]? = some o) (hR : R[i]? = some (v, e)) (hi : S i = false)
    (hed : ∀ e ∈ o.after, Region.binds .any e = true → S e.on = true) (hi' : S' i = true) (hsame : ∀ k, k ≠ i → S' k = S k) :
    stN ops R σ S' ops.size = (stN ops R σ S ops.size).put o.dst v (effH (stN ops R σ S ops.size).h e) := by
  have hlt := (Array.getElem?_eq_some_iff.1 ho).1
  have hone : ∀ (f : St → St), (stN ops R σ (fun _ => true) (i + 1)) = (stN ops R σ (fun _ => true) i).put o.dst v (effH (stN ops R σ (fun _ => true) i).h e) := fun _ => by
    simp only [stN, ho, hR]
  have hone := hone id
  have ht : (stN ops R σ S' ops.size).t = ((stN ops R σ S ops.size).put o.dst v (effH (stN ops R σ S ops.size).h e)).t := by
    funext t
    by_cases hd : o.dst = some t
    · have h1 : (stN ops R σ S' ops.size).t t = (stN ops R σ (fun _ => true) (i + 1)).t t := by
        rw [← upto_full R σ (show i + 1 ≤ ops.size from hlt)]
        refine stN_t _ _ t _ fun k hk q hq hqt => ?_
        by_cases hne : k = i
        · subst hne; rw [hi']; simp
        · rw [hsame k hne, ordered_iff hS ho hq hne hi hed (D.dst ho hq hne hqt (by simp [names, hd]))]
          rw [decide_eq_decide]
          omega
      rw [h1, hone, hd]
      simp only [St.put, if_true]
    · have h1 : (stN ops R σ S' ops.size).t t = (stN ops R σ S ops.size).t t := by
        refine stN_t _ _ t _ fun k hk q hq hqt => ?_
        by_cases hne : k = i
        · subst hne
          rw [ho] at hq
          cases hq
          exact absurd hqt hd
        · exact hsame k hne
      rw [h1]
      cases hdd : o.dst with
      | none => rfl
      | some n =>
        simp only [St.put]
        rw [if_neg (by intro e; subst e; exact hd hdd)]
  have hh : (stN ops R σ S' ops.size).h = ((stN ops R σ S ops.size).put o.dst v (effH (stN ops R σ S ops.size).h e)).h := by
    funext q
    rw [St.put_h]
    have hother : (∀ x, e ≠ some (q, x)) → (stN ops R σ S' ops.size).h q = (stN ops R σ S ops.size).h q := by
      intro hne0
      refine stN_h _ _ q _ fun k hk v' x' hR' => ?_
      by_cases hne : k = i
      · subst hne
        rw [hR] at hR'
        cases hR'
        exact absurd rfl (hne0 x')
      · exact hsame k hne
    cases e with
    | none => exact hother fun x h => by cases h
    | some kx =>
      obtain ⟨kk, x⟩ := kx
      simp only [effH]
      by_cases hqk : q = kk
      · subst hqk
        rw [PHeap.set_self]
        have h1 : (stN ops R σ S' ops.size).h q = (stN ops R σ (fun _ => true) (i + 1)).h q := by
          rw [← upto_full R σ (show i + 1 ≤ ops.size from hlt)]
          refine stN_h _ _ q _ fun k hkn v' x' hR' => ?_
          by_cases hne : k = i
          · subst hne; rw [hi']; simp
          · have hq : ops[k]? = some ops[k] := Array.getElem?_eq_getElem hkn
            have hord : ordered (befores ops.toList []) k i = true := by
              rcases D.eff hq hR' with hst | ⟨hal, n, hn, rfl⟩
              · refine D.store ho hq hne hst ?_
                rcases D.eff ho hR with h | ⟨h, _⟩ <;> simp [touches, h]
              · rcases D.eff ho hR with h | ⟨_, n', hn', he'⟩
                · have := D.store hq ho (Ne.symm hne) h (by simp [touches, hal])
                  unfold ordered at this ⊢
                  rwa [Nat.max_comm, Nat.min_comm] at this
                · cases he'
                  exact D.dst ho hq hne hn (by simp [names, hn'])
            rw [hsame k hne, ordered_iff hS ho hq hne hi hed hord]
            rw [decide_eq_decide]
            omega
        rw [h1, hone, St.put_h]
        simp only [effH, PHeap.set_self]
      · rw [PHeap.set_ne _ _ hqk]
        exact hother fun x' h => by cases h; exact hqk rfl
  cases h1 : stN ops R σ S' ops.size with
  | mk t1 h1' =>
    rw [h1] at ht hh
    simp only at ht hh
    rw [ht, hh]
end
end Go.Fh
