/- Slices of strings and rows, lengths, literals, conversions. -/
import Derived.Test.YtdclkdcgcfkopaaGreatDoorFhEv
set_option linter.all false
namespace Go.Fh
open Go.RowKit

/-- A bound that is given: 0 to y. -/
def evB (y : Nat) : PV → Option Nat
  | .int _ i => if 0 ≤ i ∧ i ≤ y then some i.toNat else none
  | _ => none
def evBO (dflt y : Nat) : Option PV → Option Nat
  | none => some dflt
  | some x => evB y x

theorem evB_sound {P : Program} {y : Nat} {p : PV} {n : Nat} {x : Value} {G : Ghost} {w : World} (h : evB y p = some n) (hx : PRel G w p x) {y' : Nat} (hy : y ≤ y') (code : BoundsCode) :
    (Instr.sliceBound x y' code).run P w = .ok n w ∧ n ≤ y := by
  unfold evB at h
  split at h
  · cases hx
    split at h
    · rename_i h0
      cases h
      refine ⟨?_, by omega⟩
      simp only [Instr.sliceBound, asIntOf, Sem.run_bind, Sem.run_pure, Result.andThen_ok]
      rw [if_pos (by omega)]
      rfl
    · cases h
  · cases h

/-- Operands that may be lacking. -/
def ORelO (G : Ghost) (w : World) : Option PV → Option Value → Prop
  | none, none => True
  | some p, some v => PRel G w p v
  | _, _ => False

theorem sliceBounds2 {P : Program} {isS : Bool} {len cap : Nat} {lo hi : Option PV} {lo' hi' : Option Value} {G : Ghost} {w : World} {l h : Nat} (hl : ORelO G w lo lo') (hh : ORelO G w hi hi')
    (h1 : evBO len len hi = some h) (h2 : evBO 0 h lo = some l) (hc : len ≤ cap) :
    (Instr.sliceBounds isS len cap lo' hi' none).run P w = .ok (l, h, cap) w ∧ l ≤ h ∧ h ≤ len := by
  cases hi with
  | none => cases hi' with
    | some v => exact hh.elim
    | none =>
      simp only [evBO, Option.some.injEq] at h1
      subst h1
      cases lo with
      | none => cases lo' with
        | some v => exact hl.elim
        | none =>
          simp only [evBO, Option.some.injEq] at h2
          subst h2
          exact ⟨by simp only [Instr.sliceBounds, Sem.run_bind, Sem.run_pure, Result.andThen_ok], Nat.zero_le _, Nat.le_refl _⟩
      | some p => cases lo' with
        | none => exact hl.elim
        | some v =>
          have B := fun code => evB_sound (P := P) h2 hl (Nat.le_refl len) code
          exact ⟨by simp only [Instr.sliceBounds, Sem.run_bind, Sem.run_pure, Result.andThen_ok, (B _).1], (B .sliceB).2, Nat.le_refl _⟩
  | some p => cases hi' with
    | none => exact hh.elim
    | some v =>
      have A := fun code => evB_sound (P := P) h1 hh hc code
      cases lo with
      | none => cases lo' with
        | some v => exact hl.elim
        | none =>
          simp only [evBO, Option.some.injEq] at h2
          subst h2
          exact ⟨by simp only [Instr.sliceBounds, Sem.run_bind, Sem.run_pure, Result.andThen_ok, (A _).1], Nat.zero_le _, (A .sliceB).2⟩
      | some p => cases lo' with
        | none => exact hl.elim
        | some v =>
          have B := fun code => evB_sound (P := P) h2 hl (Nat.le_refl h) code
          exact ⟨by simp only [Instr.sliceBounds, Sem.run_bind, Sem.run_pure, Result.andThen_ok, (A _).1, (B _).1], (B .sliceB).2, (A .sliceB).2⟩

theorem sliceBounds3 {P : Program} {isS : Bool} {len cap : Nat} {lo hi : Option PV} {lo' hi' : Option Value} {mx : PV} {mx' : Value} {G : Ghost} {w : World} {l h m : Nat} (hl : ORelO G w lo lo') (hh : ORelO G w hi hi') (hm : PRel G w mx mx')
    (h0 : evB len mx = some m) (h1 : hi.isSome = true) (h1' : evBO len m hi = some h) (h2 : evBO 0 h lo = some l) (hc : len ≤ cap) :
    (Instr.sliceBounds isS len cap lo' hi' (some mx')).run P w = .ok (l, h, m) w ∧ l ≤ h ∧ h ≤ m ∧ m ≤ len := by
  have M := fun code => evB_sound (P := P) h0 hm hc code
  cases hi with
  | none => cases h1
  | some p => cases hi' with
    | none => exact hh.elim
    | some v =>
      have A := fun code => evB_sound (P := P) h1' hh (Nat.le_refl m) code
      cases lo with
      | none => cases lo' with
        | none =>
          simp only [evBO, Option.some.injEq] at h2
          subst h2
          exact ⟨by simp only [Instr.sliceBounds, Sem.run_bind, Sem.run_pure, Result.andThen_ok, (M _).1, (A _).1], Nat.zero_le _, (A .slice3B).2, (M .slice3B).2⟩
        | some v => exact hl.elim
      | some q => cases lo' with
        | none => exact hl.elim
        | some u =>
          have B := fun code => evB_sound (P := P) h2 hl (Nat.le_refl h) code
          exact ⟨by simp only [Instr.sliceBounds, Sem.run_bind, Sem.run_pure, Result.andThen_ok, (M _).1, (A _).1, (B _).1], (B .sliceB).2, (A .slice3B).2, (M .slice3B).2⟩

def evSlice (P : Program) (t : TypeId) (x : PV) (lo hi mx : Option PV) : Option PV :=
  match tinfo P t, x with
  | some { k := .str, .. }, .str s =>
    match mx, evBO s.length s.length hi with
    | none, some h => match evBO 0 h lo with
      | some l => some (.str ((s.take h).drop l))
      | none => none
    | _, _ => none
  | some { k := .slice e, .. }, .list room es =>
    match tinfo P e with
    | none => none
    | some ei => if (∀ c ∈ es, c.cells.length = ei.size) then
      (match mx with
      | none => match evBO es.length es.length hi with
        | some h => match evBO 0 h lo with
          | some l => some (.list (match room, hi with | .full, none => .full | _, _ => .any) ((es.take h).drop l))
          | none => none
        | none => none
      | some m => match evB es.length m, hi with
        | some m, some _ => match evBO es.length m hi with
          | some h => match evBO 0 h lo with
            | some l => some (.list (if h = m then .full else .any) ((es.take h).drop l))
            | none => none
          | none => none
        | _, _ => none) else none
  | some { k := .slice e, .. }, .row k ver sz off len cap =>
    match tinfo P e, mx with
    | some ei, none => if ei.size = sz then (match evBO len len hi with
      | some h => match evBO 0 h lo with
        | some l => if l < h then some (.row k ver sz (off + l) (h - l) (cap.map (· - l))) else some (.list .any [])
        | none => none
      | none => none) else none
    | _, _ => none
  | _, _ => none

theorem PRel.list_nil (G : Ghost) (w : World) (A : Option Addr) (c : Nat) : PRel G w (.list .any []) (.slice A 0 c) :=
  .list .any [] A c 0 0 1 (fun _ _ => undef) (Nat.zero_le _) trivial (by omega) (fun h => absurd rfl h) (fun o h1 h2 => by simp at h2) (fun i e h => by simp at h) (fun i e j p h => by simp at h) (fun i e j p h => by simp at h)
theorem PRel.full_nil (G : Ghost) (w : World) (A : Option Addr) : PRel G w (.list .full []) (.slice A 0 0) :=
  .list .full [] A 0 0 0 1 (fun _ _ => undef) (Nat.zero_le _) rfl (by omega) (fun h => absurd rfl h) (fun o h1 h2 => by simp at h2) (fun i e h => by simp at h) (fun i e j p h => by simp at h) (fun i e j p h => by simp at h)

/-- A piece of a slice. -/
theorem PRel.piece {G : Ghost} {w : World} {room room' : Room} {es : List PV} {A : Option Addr} {n c : Nat} (hp : PRel G w (.list room es) (.slice A n c)) {size l h m : Nat} (hlh : l ≤ h) (hh : h ≤ es.length) (hm : h ≤ m) (hs : ∀ e ∈ es, e.cells.length = size)
    (hr : room' = .any ∨ room' = .full ∧ m = h) : PRel G w (.list room' ((es.take h).drop l)) (.slice (if m = l then A else A.map (·.add (l * size))) (h - l) (m - l)) := by
  cases hp with
  | list _ _ _ _ b off sz vs hc hr0 hsz hA hM hes hcell hrel =>
  have hlen : ((es.take h).drop l).length = h - l := by simp; omega
  have hget : ∀ (i : Nat) (e : PV), ((es.take h).drop l)[i]? = some e → es[l + i]? = some e ∧ l + i < h := by
    intro i e he
    rw [List.getElem?_drop, List.getElem?_take] at he
    split at he
    · exact ⟨he, by assumption⟩
    · cases he
  by_cases hlt : l < h
  · have hne : es ≠ [] := by intro h0; rw [h0] at hh; simp at hh; omega
    have hsz' : size = sz := by
      cases es with
      | nil => exact absurd rfl hne
      | cons e es => rw [← hs e (by simp), hes 0 e rfl]
    subst hsz'
    rw [if_neg (by omega), hA hne]
    simp only [Option.map_some, add_none]
    have := PRel.list (G := G) (w := w) room' ((es.take h).drop l) (some ⟨b, off + l * size, none⟩) (m - l) b (off + l * size) size (fun i j => vs (l + i) j) (by omega) ?_ hsz (fun _ => rfl) ?_ ?_ ?_ ?_
    · rwa [hlen] at this
    · rcases hr with rfl | ⟨rfl, rfl⟩
      · trivial
      · show m - l = _; omega
    · intro o h1 h2
      rw [hlen] at h2
      have e1 : (h - l) * size + l * size = h * size := by rw [← Nat.add_mul]; congr 1; omega
      have e2 : h * size ≤ es.length * size := Nat.mul_le_mul_right _ hh
      exact hM o (by omega) (by omega)
    · intro i e he
      exact hes _ e (hget i e he).1
    · intro i e j p he hpj
      have := hcell (l + i) e j p (hget i e he).1 hpj
      rw [Nat.add_mul] at this
      rw [← this]
      congr 2
      omega
    · intro i e j p he hpj
      exact hrel (l + i) e j p (hget i e he).1 hpj
  · have e0 : (es.take h).drop l = [] := List.eq_nil_of_length_eq_zero (by omega)
    rw [e0, show h - l = 0 by omega]
    rcases hr with rfl | ⟨rfl, rfl⟩
    · exact PRel.list_nil G w _ _
    · rw [show m - l = 0 by omega]; exact PRel.full_nil G w _

theorem evSlice_sound {P : Program} {t : TypeId} {p : PV} {x : Value} {lo hi mx : Option PV} {lo' hi' mx' : Option Value} {r : PV} {G : Ghost} {w : World} (h : evSlice P t p lo hi mx = some r) (hx : PRel G w p x)
    (hl : ORelO G w lo lo') (hh : ORelO G w hi hi') (hm : ORelO G w mx mx') : ∃ v, (Instr.sliceAt t x lo' hi' mx').run P w = .ok v w ∧ PRel G w r v := by
  unfold evSlice at h
  split at h
  · rename_i s hi0
    obtain ⟨d, hd, hk⟩ := tinfo_under hi0
    have hd' := tkind_str hk.symm
    subst hd'
    cases hx
    split at h
    · rename_i hh' h1
      split at h
      · rename_i l h2
        cases h
        cases mx' with
        | some v => exact hm.elim
        | none =>
        have B := sliceBounds2 (P := P) (isS := false) hl hh h1 h2 (Nat.le_refl _)
        refine ⟨.string ((mkStr s).extract l hh'), ?_, by rw [mkStr_extract]; exact .str _⟩
        simp only [Instr.sliceAt, Instr.slice, Sem.run_bind, run_underlying hd, Result.andThen_ok, Option.isSome_none, Bool.false_eq_true, if_false, mkStr_size, B.1, Sem.run_pure]
      · cases h
    · cases h
  · rename_i e sz0 by0 z0 room es hi0
    obtain ⟨d, hd, hk⟩ := tinfo_under hi0
    have hd' := tkind_slice hk.symm
    subst hd'
    split at h
    · cases h
    · rename_i ei hei
      split at h
      · rename_i hs
        have hx0 := hx
        cases hx with
        | list _ _ A c b off sz vs hc hr hsz hA hM hes hcell hrel =>
        split at h
        · cases mx' with
          | some v => exact hm.elim
          | none =>
          split at h
          · rename_i h' h1
            split at h
            · rename_i l h2
              cases h
              have B := sliceBounds2 (P := P) (isS := true) hl hh h1 h2 hc
              refine ⟨_, ?_, hx0.piece (size := ei.size) B.2.1 B.2.2 (show h' ≤ c by omega) hs ?_⟩
              · simp only [Instr.sliceAt, Instr.slice, Sem.run_bind, run_underlying hd, Result.andThen_ok, B.1, run_sizeOf' hei, Sem.run_pure]
              · split
                · right
                  refine ⟨rfl, ?_⟩
                  have : c = es.length := hr
                  simp only [evBO, Option.some.injEq] at h1
                  omega
                · exact .inl rfl
            · cases h
          · cases h
        · rename_i mp
          cases mx' with
          | none => exact hm.elim
          | some mv =>
          split at h
          · rename_i m hp h0
            split at h
            · rename_i h' h1
              split at h
              · rename_i l h2
                cases h
                have B := sliceBounds3 (P := P) (isS := true) hl hh hm h0 rfl h1 h2 hc
                refine ⟨_, ?_, hx0.piece (size := ei.size) B.2.1 (by omega) B.2.2.1 hs ?_⟩
                · simp only [Instr.sliceAt, Instr.slice, Sem.run_bind, run_underlying hd, Result.andThen_ok, B.1, run_sizeOf' hei, Sem.run_pure]
                · split
                  · rename_i e1; exact .inr ⟨rfl, e1.symm⟩
                  · exact .inl rfl
              · cases h
            · cases h
          · cases h
      · cases h
  · rename_i e sz0 by0 z0 k ver sz off len cap hi0
    obtain ⟨d, hd, hk⟩ := tinfo_under hi0
    have hd' := tkind_slice hk.symm
    subst hd'
    split at h
    · rename_i ei hei
      cases mx' with
      | some v => exact hm.elim
      | none =>
      split at h
      · rename_i hsz
        subst hsz
        cases hx with
        | row _ _ _ _ _ b o c _ hc hcap hv hl' =>
        split at h
        · rename_i h' h1
          split at h
          · rename_i l h2
            have B := sliceBounds2 (P := P) (isS := true) hl hh h1 h2 hc
            have hrun : (Instr.sliceAt t (.slice (some ⟨b, o + off * ei.size, none⟩) len c) lo' hi' none).run P w = .ok (.slice (if c = l then some ⟨b, o + off * ei.size, none⟩ else some ⟨b, o + off * ei.size + l * ei.size, none⟩) (h' - l) (c - l)) w := by
              simp only [Instr.sliceAt, Instr.slice, Sem.run_bind, run_underlying hd, Result.andThen_ok, B.1, run_sizeOf' hei, Sem.run_pure, Option.map_some, add_none]
            refine ⟨_, hrun, ?_⟩
            split at h
            · rename_i hlt
              cases h
              rw [if_neg (by omega), Nat.add_assoc o, ← Nat.add_mul]
              exact .row _ _ _ _ _ _ _ _ _ (by omega) (fun n hn => by
                obtain ⟨q, hq, rfl⟩ := Option.map_eq_some_iff.1 hn
                rw [hcap q hq]) hv fun e L hL => by
                obtain ⟨a1, a2, a3⟩ := hl' e L hL
                exact ⟨a1, a2, by rw [show off + l + (c - l) = off + c by omega]; exact a3⟩
            · cases h
              rw [show h' - l = 0 by omega]
              exact PRel.list_nil G w _ _
          · cases h
        · cases h
      · cases h
    · cases h
  · cases h
end Go.Fh
