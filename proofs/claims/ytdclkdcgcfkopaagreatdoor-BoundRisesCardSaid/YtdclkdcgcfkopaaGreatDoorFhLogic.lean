/- Code over pure values: regions, ways, loops, calls. -/
import Derived.Test.YtdclkdcgcfkopaaGreatDoorFhX2
set_option linter.all false
namespace Go.Fh
open Go.RowKit

structure St where
  t : Nat → PV
  h : PHeap

def St.put (σ : St) (dst : Option Tmp) (v : PV) (h : PHeap) : St where
  t := match dst with
    | some d => fun i => if i = d then v else σ.t i
    | none => σ.t
  h := h
theorem St.put_t (σ : St) (d : Tmp) (v : PV) (h : PHeap) (i : Nat) : (σ.put (some d) v h).t i = if i = d then v else σ.t i := (rfl)
theorem St.put_t_none (σ : St) (v : PV) (h : PHeap) (i : Nat) : (σ.put none v h).t i = σ.t i := (rfl)
theorem St.put_h (σ : St) (dst : Option Tmp) (v : PV) (h : PHeap) : (σ.put dst v h).h = h := (rfl)

def rho (σ : St) : Operand → PV
  | .tmp t => σ.t t
  | .const v => PV.ofConst v
  | .global g => match (σ.h (0, g)).2 with
    | some (.const cs) => .iptr cs
    | _ => .dead
  | .func f => .fn (.func f) [] []

structure Sim (d m : Nat) (G : Ghost) (σ : St) (a : Act) (w : World) : Prop where
  size : a.tmps.size = m
  defers : a.defers = []
  tmps : ∀ i, PRel G w (σ.t i) (a.tmps.getD i undef)
  heap : SimH d G σ.h w

theorem PRel.undef (G : Ghost) (w : World) : PRel G w (.tuple []) Go.undef := .tuple [] #[] rfl fun i p v h => by simp at h

theorem Sim.eval {d m : Nat} {G : Ghost} {σ : St} {a : Act} {w : World} (S : Sim d m G σ a w) (x : Operand) : PRel G w (rho σ x) (a.eval x) := by
  cases x with
  | tmp t => exact S.tmps t
  | const v => exact PRel.ofConst G w v
  | global g =>
    simp only [rho]
    split
    · rename_i cs hg
      exact (S.heap.glob g cs hg).rel
    · exact .dead _
  | func f => exact .fn _ _ _ _ _ rfl rfl (fun i p v h => by simp at h) (fun i p v h => by simp at h)

theorem Sim.put {d m : Nat} {G G' : Ghost} {σ : St} {a : Act} {w w' : World} (S : Sim d m G σ a w) (E : Ext G w G' w') {h' : PHeap} (H : SimH d G' h' w') {v : PV} {x : Value} (hv : PRel G' w' v x) {dst : Option Tmp} (hd : ∀ n, dst = some n → n < m) :
    Sim d m G' (σ.put dst v h') (a.put dst x) w' where
  size := by cases dst <;> simp [Act.put, S.size]
  defers := by cases dst <;> simp [Act.put, S.defers]
  tmps i := by
    cases dst with
    | none => exact (S.tmps i).mono E
    | some n =>
      have hn := hd n rfl
      simp only [St.put, Act.put]
      rw [Array.getD_eq_getD_getElem?, Array.getElem?_setIfInBounds]
      by_cases e : i = n
      · subst e
        rw [if_pos rfl, if_pos rfl, if_pos (by rw [S.size]; exact hn)]
        exact hv
      · rw [if_neg e, if_neg (Ne.symm e), ← Array.getD_eq_getD_getElem?]
        exact (S.tmps i).mono E
  heap := H

inductive PExit where
  | normal
  | exit (id : Nat)
  | goto (l : Nat)
  | ret
  | panic (p : PV)

inductive ExitIs (G : Ghost) (w : World) : PExit → Exit → Prop where
  | normal : ExitIs G w .normal .normal
  | exit (id : Nat) : ExitIs G w (.exit id) (.exit id)
  | goto (l : Nat) : ExitIs G w (.goto l) (.goto l)
  | ret : ExitIs G w .ret .ret
  | panic (p : PV) (v : Value) (h : PRel G w p v) : ExitIs G w (.panic p) (.panic [{ v, recovered := false }])

def TPost (d m : Nat) (G : Ghost) (w : World) (Q : PExit → St → Prop) (e : Exit) (a' : Act) (w' : World) : Prop :=
  ∃ pe G' σ', ExitIs G' w' pe e ∧ Ext G w G' w' ∧ Sim d m G' σ' a' w' ∧ Q pe σ'
theorem TPost.later {d m : Nat} {G G1 : Ghost} {w w1 : World} {Q : PExit → St → Prop} {e : Exit} {a' : Act} {w' : World} (E : Ext G w G1 w1) (h : TPost d m G1 w1 Q e a' w') : TPost d m G w Q e a' w' := by
  obtain ⟨pe, G', σ', h1, h2, h3, h4⟩ := h
  exact ⟨pe, G', σ', h1, E.trans h2, h3, h4⟩

def TWp (P : Program) (d m : Nat) (c : Code) (Q : PExit → St → Prop) (σ : St) : Prop := ∀ G a w, Sim d m G σ a w → c.wp P (TPost d m G w Q) a w

def PThen (next : St → Prop) (Q : PExit → St → Prop) : PExit → St → Prop
  | .normal, σ => next σ
  | e, σ => Q e σ
def PInBlock (id : Nat) (Q : PExit → St → Prop) : PExit → St → Prop
  | .exit id', σ => if id' = id then Q .normal σ else Q (.exit id') σ
  | e, σ => Q e σ

section
variable {P : Program} {d m : Nat} {Q : PExit → St → Prop} {σ : St}
theorem TWp.mono {c : Code} {Q' : PExit → St → Prop} (h : TWp P d m c Q σ) (hq : ∀ e σ, Q e σ → Q' e σ) : TWp P d m c Q' σ := fun G a w S =>
  wp_mono (h G a w S) fun e a' w' ⟨pe, G', σ', h1, h2, h3, h4⟩ => ⟨pe, G', σ', h1, h2, h3, hq _ _ h4⟩
theorem TWp.skip (h : Q .normal σ) : TWp P d m .skip Q σ := fun G a w S => wp_skip ⟨.normal, G, σ, .normal, Ext.refl G w, S, h⟩
theorem TWp.label {l : Nat} (h : Q .normal σ) : TWp P d m (.label l) Q σ := fun G a w S => wp_label ⟨.normal, G, σ, .normal, Ext.refl G w, S, h⟩
theorem TWp.exit {id : Nat} (h : Q (.exit id) σ) : TWp P d m (.exit id) Q σ := fun G a w S => wp_exit ⟨.exit id, G, σ, .exit id, Ext.refl G w, S, h⟩
theorem TWp.goto {l : Nat} (h : Q (.goto l) σ) : TWp P d m (.goto l) Q σ := fun G a w S => wp_goto ⟨.goto l, G, σ, .goto l, Ext.refl G w, S, h⟩
theorem TWp.ret (h : Q .ret σ) : TWp P d m .ret Q σ := fun G a w S => wp_ret ⟨.ret, G, σ, .ret, Ext.refl G w, S, h⟩
theorem TWp.seq {x y : Code} (h : TWp P d m x (PThen (TWp P d m y Q) Q) σ) : TWp P d m (.seq x y) Q σ := fun G a w S => by
  refine wp_seq (wp_mono (h G a w S) fun e a' w' hp => ?_)
  obtain ⟨pe, G', σ', h1, h2, h3, h4⟩ := hp
  cases h1 with
  | normal => exact wp_mono (h4 G' a' w' h3) fun e a w h => h.later h2
  | exit id => exact ⟨_, G', σ', .exit id, h2, h3, h4⟩
  | goto l => exact ⟨_, G', σ', .goto l, h2, h3, h4⟩
  | ret => exact ⟨_, G', σ', .ret, h2, h3, h4⟩
  | panic p v hp => exact ⟨_, G', σ', .panic p v hp, h2, h3, h4⟩
theorem TWp.cond {c : Operand} {x y : Code} {b : Bool} (hc : rho σ c = .bool b) (ht : b = true → TWp P d m x Q σ) (hf : b = false → TWp P d m y Q σ) : TWp P d m (.cond c x y) Q σ := fun G a w S => by
  have hv := S.eval c
  rw [hc] at hv
  generalize he : a.eval c = v at hv
  cases hv
  refine wp_cond he ?_
  cases b with
  | true => exact ht rfl G a w S
  | false => exact hf rfl G a w S
theorem TWp.block {id : Nat} {c : Code} (h : TWp P d m c (PInBlock id Q) σ) : TWp P d m (.block id c) Q σ := fun G a w S => by
  refine wp_block (wp_mono (h G a w S) fun e a' w' hp => ?_)
  obtain ⟨pe, G', σ', h1, h2, h3, h4⟩ := hp
  cases h1 with
  | normal => exact ⟨_, G', σ', .normal, h2, h3, h4⟩
  | exit id' =>
    simp only [PInBlock] at h4
    simp only [Exit.inBlock]
    split at h4
    · rename_i e; rw [if_pos e]; exact ⟨_, G', σ', .normal, h2, h3, h4⟩
    · rename_i e; rw [if_neg e]; exact ⟨_, G', σ', .exit id', h2, h3, h4⟩
  | goto l => exact ⟨_, G', σ', .goto l, h2, h3, h4⟩
  | ret => exact ⟨_, G', σ', .ret, h2, h3, h4⟩
  | panic p v hp => exact ⟨_, G', σ', .panic p v hp, h2, h3, h4⟩
/-- A loop: what holds at each round's head, at a stage that goes down. -/
theorem TWp.loop {c : Code} (I : Nat → St → Prop) (n : Nat) (h0 : I n σ) (round : ∀ n σ, I n σ → TWp P d m c (PThen (fun σ' => ∃ k, k < n ∧ I k σ') Q) σ) : TWp P d m (.loop c) Q σ := by
  have key : ∀ n σ, I n σ → ∀ G a w, Sim d m G σ a w → (Code.loop c).wp P (TPost d m G w Q) a w := by
    intro n σ hI G a w S
    refine wp_loop (fun a' w' => ∃ k G' σ', Ext G w G' w' ∧ Sim d m G' σ' a' w' ∧ I k σ') (fun a' w' => Classical.epsilon fun k => (∃ G' σ', Ext G w G' w' ∧ Sim d m G' σ' a' w' ∧ I k σ') ∧ ∀ j, (∃ G' σ', Ext G w G' w' ∧ Sim d m G' σ' a' w' ∧ I j σ') → k ≤ j) ⟨n, G, σ, Ext.refl G w, S, hI⟩ ?_
    intro a1 w1 hex
    have least : ∀ (p : Nat → Prop), (∃ k, p k) → ∃ k, p k ∧ ∀ j, p j → k ≤ j := by
      intro p ⟨k, hk⟩
      induction k using Nat.strongRecOn with
      | _ k ih =>
        by_cases h : ∃ j, j < k ∧ p j
        · obtain ⟨j, hj, hp⟩ := h
          exact ih j hj hp
        · exact ⟨k, hk, fun j hj => Nat.le_of_not_lt fun hlt => h ⟨j, hlt, hj⟩⟩
    have hmin := Classical.epsilon_spec (least (fun k => ∃ G' σ', Ext G w G' w1 ∧ Sim d m G' σ' a1 w1 ∧ I k σ') hex)
    generalize (Classical.epsilon fun k => (∃ G' σ', Ext G w G' w1 ∧ Sim d m G' σ' a1 w1 ∧ I k σ') ∧ ∀ j, (∃ G' σ', Ext G w G' w1 ∧ Sim d m G' σ' a1 w1 ∧ I j σ') → k ≤ j) = k0 at hmin ⊢
    obtain ⟨⟨G1, σ1, E1, S1, hI1⟩, _⟩ := hmin
    refine wp_mono (round k0 σ1 hI1 G1 a1 w1 S1) fun e a2 w2 hp => ?_
    obtain ⟨pe, G2, σ2, h1, h2, h3, h4⟩ := hp
    cases h1 with
    | normal =>
      obtain ⟨k, hk, hIk⟩ := h4
      refine ⟨⟨k, G2, σ2, E1.trans h2, h3, hIk⟩, ?_⟩
      have := (Classical.epsilon_spec (least (fun k => ∃ G' σ', Ext G w G' w2 ∧ Sim d m G' σ' a2 w2 ∧ I k σ') ⟨k, G2, σ2, E1.trans h2, h3, hIk⟩)).2 k ⟨G2, σ2, E1.trans h2, h3, hIk⟩
      exact Nat.lt_of_le_of_lt this hk
    | exit id => exact ⟨_, G2, σ2, .exit id, E1.trans h2, h3, h4⟩
    | goto l => exact ⟨_, G2, σ2, .goto l, E1.trans h2, h3, h4⟩
    | ret => exact ⟨_, G2, σ2, .ret, E1.trans h2, h3, h4⟩
    | panic p v hp => exact ⟨_, G2, σ2, .panic p v hp, E1.trans h2, h3, h4⟩
  exact key n σ h0
end

/-! ### Regions in the text's order -/
def guardP (ops : Array Oper) (σ : St) (o : Oper) : Option Bool :=
  match o.guard with
  | none => some true
  | some (j, want) =>
    match (ops[j]?).bind (·.dst) with
    | some t => match σ.t t with
      | .bool b => some (b == want)
      | .tuple _ => some false
      | _ => none
    | none => some false

theorem guardP_sound {d m : Nat} {G : Ghost} {σ : St} {a : Act} {w : World} (S : Sim d m G σ a w) {ops : Array Oper} {o : Oper} {b : Bool} (h : guardP ops σ o = some b) (hb : ∀ j want t, o.guard = some (j, want) → (ops[j]?).bind (·.dst) = some t → t < m) :
    Region.wanted o (yielded ops a.tmps) = b := by
  unfold guardP at h
  unfold Region.wanted
  split at h
  · rename_i hg; rw [hg]; cases h; rfl
  · rename_i j want hg
    rw [hg]
    simp only [yielded]
    split at h
    · rename_i t ht
      have hlt := hb j want t hg ht
      have hv := S.tmps t
      rw [ht]
      have hget : a.tmps[t]? = some (a.tmps.getD t undef) := by
        rw [Array.getD_eq_getD_getElem?, Array.getElem?_eq_getElem (by rw [S.size]; exact hlt)]
        rfl
      simp only [Option.bind_some, hget]
      split at h
      · rename_i b' hb'
        cases h
        rw [hb'] at hv
        generalize a.tmps.getD t undef = v at *
        cases hv
        rw [Bool.eq_iff_iff]
        simp
      · rename_i ps hb'
        cases h
        rw [hb'] at hv
        generalize a.tmps.getD t undef = v at *
        cases hv
        rfl
      · cases h
    · rename_i ht
      cases h
      rw [ht]
      rfl

theorem upon_mono {P : Program} {o : Oper} {a : Act} {next next' : Act → World → Prop} {Q Q' : Exit → Act → World → Prop} (hn : ∀ a w, next a w → next' a w) (hq : ∀ e a w, Q e a w → Q' e a w) {r : Result Next} (h : o.upon P a next Q r) : o.upon P a next' Q' r := by
  unfold Oper.upon at h ⊢
  split at h
  · exact hn _ _ h
  · exact hn _ _ h
  · exact hn _ _ h
  · refine Calls.mono h fun e w' hr => ?_
    cases e with
    | returned v => exact hn _ _ hr
    | panicked c => exact hq _ _ _ hr
    | outgrown => obtain ⟨a0, w0, h0⟩ := hr; exact ⟨a0, w0, hq _ _ _ h0⟩
  · exact Rows.mono h fun v w' hr => hn _ _ hr
  · exact hq _ _ _ h
  · exact h.elim
theorem wpList_mono {P : Program} {ops : Array Oper} {Q Q' : Exit → Act → World → Prop} (hq : ∀ e a w, Q e a w → Q' e a w) : ∀ {l : List Oper} {a : Act} {w : World}, wpList P ops Q l a w → wpList P ops Q' l a w
  | [], a, w, h => hq _ _ _ h
  | o :: l, a, w, h => by
    unfold wpList at h ⊢
    split at h
    · rename_i hw
      rw [if_pos hw]
      rcases h with h | ⟨h1, a0, w0, h2⟩
      · exact .inl (upon_mono (fun a w hk => wpList_mono hq hk) hq h)
      · exact .inr ⟨h1, a0, w0, hq _ _ _ h2⟩
    · rename_i hw
      rw [if_neg hw]
      exact wpList_mono hq h

def TOps (P : Program) (d m : Nat) (ops : Array Oper) (l : List Oper) (Q : PExit → St → Prop) (σ : St) : Prop := ∀ G a w, Sim d m G σ a w → wpList P ops (TPost d m G w Q) l a w

/-- The destinations lie among the temporaries. -/
def dstOk (m : Nat) (o : Oper) : Bool := match o.dst with
  | some n => decide (n < m)
  | none => true
def guardOk (m : Nat) (ops : Array Oper) (o : Oper) : Bool := match o.guard with
  | some (j, _) => match (ops[j]?).bind (·.dst) with
    | some t => decide (t < m)
    | none => true
  | none => true
def opsOk (m : Nat) (ops : Array Oper) (l : List Oper) : Bool := l.all fun o => dstOk m o && guardOk m ops o

theorem dstOk_lt {m : Nat} {o : Oper} (h : dstOk m o = true) : ∀ n, o.dst = some n → n < m := by
  intro n hn
  unfold dstOk at h
  rw [hn] at h
  simpa using h
theorem guardOk_lt {m : Nat} {ops : Array Oper} {o : Oper} (h : guardOk m ops o = true) : ∀ j want t, o.guard = some (j, want) → (ops[j]?).bind (·.dst) = some t → t < m := by
  intro j want t hg ht
  unfold guardOk at h
  rw [hg] at h
  simp only [ht] at h
  simpa using h

def ev (P : Program) (d : Nat) (mu : Nat → Bool) (o : Oper) (ρ : Operand → PV) (h : PHeap) : Option (PV × PHeap) :=
  match evP P mu o.dst o.op ρ with
  | some p => some (p, h)
  | none => match evR P o.op ρ h with
    | some p => some (p, h)
    | none => evW P d mu o.dst o.op ρ h

theorem ev_sound {P : Program} {d : Nat} {mu : Nat → Bool} {o : Oper} {ρ : Operand → PV} {ρv : Operand → Value} {r : PV} {G : Ghost} {h h' : PHeap} {w : World} (hd0 : 0 < d) (S : SimH d G h w) (hρ : ∀ x, PRel G w (ρ x) (ρv x))
    (hev : ev P d mu o ρ h = some (r, h')) : RunW P d G h w (execOp ρv o) r h' := by
  unfold ev at hev
  split at hev
  · rename_i p hp
    cases hev
    exact (evP_sound S hρ hp).toW
  · split at hev
    · rename_i p hp
      cases hev
      exact (evR_sound S hρ hp).toW
    · exact evW_sound hd0 S hρ hev

section
variable {P : Program} {d m : Nat} {Q : PExit → St → Prop} {σ : St} {ops : Array Oper} {o : Oper} {l : List Oper}
theorem TOps.nil (h : Q .normal σ) : TOps P d m ops [] Q σ := fun G a w S => wpList_nil ⟨.normal, G, σ, .normal, Ext.refl G w, S, h⟩
theorem TOps.of_run {r : PV} {h' : PHeap} (ok : opsOk m ops [o] = true) (hg : guardP ops σ o = some true)
    (hr : ∀ G a w, Sim d m G σ a w → RunW P d G σ.h w (execOp a.eval o) r h') (h : TOps P d m ops l Q (σ.put o.dst r h')) : TOps P d m ops (o :: l) Q σ := fun G a w S => by
  simp only [opsOk, List.all_cons, List.all_nil, Bool.and_true, Bool.and_eq_true] at ok
  refine wpList_step fun K hK => ?_
  rw [if_pos (guardP_sound S hg (guardOk_lt ok.2))]
  obtain ⟨x, v, w', G', h1, h2, h3, h4, h5⟩ := hr G a w S
  have S' := S.put h3 h4 h5 (dstOk_lt ok.1)
  unfold Oper.wp
  rw [h1]
  have fin : wpList P ops (TPost d m G w Q) l (a.put o.dst v) w' := wpList_mono (fun e a w hp => hp.later h3) (h G' _ w' S')
  rcases h2 with rfl | ⟨rfl, rfl⟩
  · exact hK _ _ fin
  · exact hK _ _ fin
end
end Go.Fh
