/- Equality of structs. -/
import Derived.Test.YtdclkdcgcfkopaaGreatDoorFhEv3
set_option linter.all false
namespace Go.Fh
open Go.RowKit

/-- A struct type whose values may be compared, and hold nothing odd. -/
def eqOk (P : Program) (t : TypeId) : Bool := !P.stoodInHeld t && ((P.fieldsOf t).all (fun f => f.name != "_") && !P.eqGuardType P.depth t)
def eqFldP (P : Program) (rec : TypeId → PV → PV → Option Bool) (xs ys : List PV) : List (Nat × TypeId) → Option Bool
  | [] => some true
  | (off, ft) :: fs => match tinfo P ft with
    | some fi => match partP fi.agg fi.size (xs.drop off), partP fi.agg fi.size (ys.drop off) with
      | some a, some b => match rec ft a b, eqFldP P rec xs ys fs with
        | some r, some r' => some (r && r')
        | _, _ => none
      | _, _ => none
    | none => none
def eqP (P : Program) : Nat → TypeId → PV → PV → Option Bool
  | 0, _, _, _ => none
  | d + 1, t, p, q => match tinfo P t, p, q with
    | some { k := .bool, .. }, .bool a, .bool b => some (a == b)
    | some { k := .int _, .. }, .int k a, .int k' b => if k = k' then some (a == b) else none
    | some { k := .str, .. }, .str a, .str b => some (a == b)
    | some { k := .struct fs, .. }, .agg xs, .agg ys => if eqOk P t = true then eqFldP P (eqP P d) xs ys fs else none
    | _, _, _ => none
def evEq (P : Program) (op : BinOp) (t : TypeId) (x y : PV) : Option PV :=
  match x, y with
  | .agg _, .agg _ => match op with
    | .eql => match eqP P 6 t x y with
      | some b => if eqOk P t = true then some (.bool b) else none
      | none => none
    | .neq => match eqP P 6 t x y with
      | some b => if eqOk P t = true then some (.bool (!b)) else none
      | none => none
    | _ => none
  | _, _ => none

theorem eqFldP_sound {P : Program} {d : Nat} {rec : TypeId → PV → PV → Option Bool} {G : Ghost} {w : World} {ps qs : List PV} {xs ys : Array Value} (hx : PRels G w ps xs) (hy : PRels G w qs ys)
    (hrec : ∀ (t : TypeId) (p q : PV) (x y : Value) (r : Bool), rec t p q = some r → PRel G w p x → PRel G w q y → (Op.equalIn d t x y).run P w = .ok r w) :
    ∀ {fs : List Field} {r : Bool}, (∀ f ∈ fs, f.name ≠ "_") → eqFldP P rec ps qs (fs.map fun f => (f.offset, f.type)) = some r → (Op.eqFields d xs ys fs).run P w = .ok r w := by
  intro fs
  induction fs with
  | nil => intro r _ h; simp only [List.map_nil, eqFldP, Option.some.injEq] at h; subst h; simp [Op.eqFields]
  | cons f fs ih =>
    intro r hn h
    simp only [List.map_cons, eqFldP] at h
    split at h
    · rename_i fi hfi
      split at h
      · rename_i a b ha hb
        split at h
        · rename_i r1 r2 h1 h2
          simp only [Option.some.injEq] at h
          obtain ⟨v, hv, hpv⟩ := partP_sound hfi hx ha
          obtain ⟨u, hu, hpu⟩ := partP_sound hfi hy hb
          have e := hrec _ _ _ _ _ _ h1 hpv hpu
          have e2 := ih (fun g hg => hn g (List.mem_cons_of_mem _ hg)) h2
          have hname := hn f (by simp)
          simp only [Op.eqFields, if_pos hname, Sem.run_bind, hv, hu, e, Result.andThen_ok]
          cases r1 with
          | false =>
            simp at h
            subst h
            simp
          | true =>
            simp at h
            subst h
            simpa using e2
        · cases h
      · cases h
    · cases h

theorem eqP_sound {P : Program} {G : Ghost} {w : World} : ∀ {d : Nat} {t : TypeId} {p q : PV} {x y : Value} {r : Bool} (m : Nat), eqP P d t p q = some r → PRel G w p x → PRel G w q y → (Op.equalIn (d + m) t x y).run P w = .ok r w := by
  intro d
  induction d with
  | zero => intro t p q x y r m h; cases h
  | succ d ih =>
    intro t p q x y r m h hx hy
    rw [show d + 1 + m = (d + m) + 1 by omega]
    simp only [eqP] at h
    split at h
    · rename_i a b hi
      cases hx; cases hy
      obtain ⟨dd, hd, hk⟩ := tinfo_under hi
      have := tkind_bool hk.symm
      subst this
      simp only [Option.some.injEq] at h
      subst h
      simp [Op.equalIn, run_underlying hd]
    · rename_i k0 k a k' b hi
      cases hx; cases hy
      obtain ⟨dd, hd, hk⟩ := tinfo_under hi
      have := tkind_int hk.symm
      subst this
      split at h
      · rename_i e
        subst e
        simp only [Option.some.injEq] at h
        subst h
        simp [Op.equalIn, run_underlying hd]
      · cases h
    · rename_i a b hi
      cases hx; cases hy
      obtain ⟨dd, hd, hk⟩ := tinfo_under hi
      have := tkind_str hk.symm
      subst this
      simp only [Option.some.injEq] at h
      subst h
      simp [Op.equalIn, run_underlying hd, mkStr_beq]
    · rename_i fs xs ys hi
      cases hx with
      | agg _ vs hn hr =>
      cases hy with
      | agg _ us hm hs =>
      obtain ⟨dd, hd, hk⟩ := tinfo_under hi
      obtain ⟨a, rfl, hfs⟩ := tkind_struct hk.symm
      subst hfs
      split at h
      · rename_i hok
        simp only [eqOk, Bool.and_eq_true, Bool.not_eq_true'] at hok
        have hfo : P.fieldsOf t = a := by simp [Program.fieldsOf, hd]
        have hd' : P.underlying t = some (.struct (P.fieldsOf t)) := by rw [hfo]; exact hd
        rw [run_equalIn_struct w _ t vs us hd' hok.1, hfo]
        refine eqFldP_sound (rec := eqP P d) ⟨hn, hr⟩ ⟨hm, hs⟩ (fun t p q x y r h1 h2 h3 => ih m h1 h2 h3) (fun f hf => ?_) h
        have := hok.2.1
        rw [hfo, Array.all_eq_true'] at this
        have := this f (by simpa using hf)
        simpa using this
      · cases h
    · cases h

theorem evEq_sound {P : Program} {op : BinOp} {t : TypeId} {p q : PV} {x y : Value} {r : PV} {G : Ghost} {w : World} (xo yo : Operand) (h : evEq P op t p q = some r) (hx : PRel G w p x) (hy : PRel G w q y) :
    (eqGuard op t xo yo x y).run P w = .ok () w ∧ ∃ v, (binOp op t x y).run P w = .ok v w ∧ PRel G w r v := by
  unfold evEq at h
  split at h
  · rename_i xs ys
    have hx' := hx
    have hy' := hy
    cases hx with
    | agg _ vs hn hr =>
    cases hy with
    | agg _ us hm hs =>
    split at h
    · split at h
      · rename_i b hb
        split at h
        · rename_i hok
          cases h
          have e := eqP_sound 9994 hb hx' hy'
          simp only [eqOk, Bool.and_eq_true, Bool.not_eq_true'] at hok
          refine ⟨run_eqGuard_agg w _ t xo yo vs us hok.2.2, .bool b, ?_, .bool b⟩
          rw [run_eql_struct, e]
          rfl
        · cases h
      · cases h
    · split at h
      · rename_i b hb
        split at h
        · rename_i hok
          cases h
          have e := eqP_sound 9994 hb hx' hy'
          simp only [eqOk, Bool.and_eq_true, Bool.not_eq_true'] at hok
          refine ⟨run_eqGuard_agg w _ t xo yo vs us hok.2.2, .bool (!b), ?_, .bool (!b)⟩
          rw [run_neq_struct, e]
          rfl
        · cases h
      · cases h
    · cases h
  · cases h
end Go.Fh
