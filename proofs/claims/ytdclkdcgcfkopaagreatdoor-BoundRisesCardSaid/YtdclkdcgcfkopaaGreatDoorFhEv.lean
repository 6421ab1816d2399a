/- Operations that leave the variables of the call alone. -/
import Derived.Test.YtdclkdcgcfkopaaGreatDoorFhBin
set_option linter.all false
namespace Go.Fh
open Go.RowKit

theorem Ext.of_alloc {d : Nat} {G : Ghost} {h : PHeap} {w : World} (S : SimH d G h w) (o : Obj) : Ext G w G (w.alloc o) where
  os := rfl
  output := rfl
  tape := rfl
  size := by simp
  block b hb hm := Below.heap_alloc w o b hb
  cell b o' hb hm := cell_eq (Below.heap_alloc w o b hb)
  keep b o' hb hm := hm
  cnt q := Nat.le_refl _
  loc q L' hq hc := hq
theorem SimH.of_ext {d : Nat} {G : Ghost} {h : PHeap} {w w' : World} (S : SimH d G h w) (E : Ext G w G w') (hb : ∀ b, b < w.heap.size → w'.heap[b]? = w.heap[b]?) : SimH d G h w' where
  cnt := S.cnt
  obj k L hk := by
    obtain ⟨h1, h2, o, h3, h4⟩ := S.obj k L hk
    exact ⟨h1, Nat.lt_of_lt_of_le h2 E.size, o, h3, h4.mono E (hb _ h2)⟩
  live := S.live
  shut := S.shut
  glob g cs hg := (S.glob g cs hg).mono E
  apart := S.apart
theorem SimH.of_alloc {d : Nat} {G : Ghost} {h : PHeap} {w : World} (S : SimH d G h w) (o : Obj) : SimH d G h (w.alloc o) :=
  S.of_ext (Ext.of_alloc S o) fun b hb => Below.heap_alloc w o b hb
theorem not_M_new {d : Nat} {G : Ghost} {h : PHeap} {w : World} (S : SimH d G h w) (o : Nat) : ¬ G.M w.heap.size o := fun hm => by
  have := S.lt hm
  omega

def RunP (P : Program) (d : Nat) (G : Ghost) (h : PHeap) (w : World) (s : Sem Value) (p : PV) : Prop :=
  ∃ v w', s.run P w = .ok v w' ∧ Ext G w G w' ∧ SimH d G h w' ∧ PRel G w' p v
theorem RunP.same {P : Program} {d : Nat} {G : Ghost} {h : PHeap} {w : World} {s : Sem Value} {p : PV} {v : Value} (S : SimH d G h w) (hr : s.run P w = .ok v w) (hp : PRel G w p v) : RunP P d G h w s p :=
  ⟨v, w, hr, Ext.refl G w, S, hp⟩

theorem PRels.sub {G : Ghost} {w : World} {ps : List PV} {vs : Array Value} (h : PRels G w ps vs) (a n : Nat) : PRels G w ((ps.drop a).take n) (vs.extract a (a + n)) := by
  refine ⟨by have := h.1; simp; omega, fun i p v hp hv => ?_⟩
  simp only [List.getElem?_take, List.getElem?_drop] at hp
  split at hp
  · rename_i hi
    rw [Array.getElem?_extract] at hv
    split at hv
    · exact h.2 (a + i) p v hp hv
    · cases hv
  · cases hp

def partP (agg : Bool) (n : Nat) (cs : List PV) : Option PV := if agg then (if n ≤ cs.length then some (.agg (cs.take n)) else none) else cs.head?
theorem partP_sound {P : Program} {t : TypeId} {i : TI} (hi : tinfo P t = some i) {G : Ghost} {w : World} {ps : List PV} {vs : Array Value} (hr : PRels G w ps vs) {off : Nat} {r : PV}
    (h : partP i.agg i.size (ps.drop off) = some r) : ∃ v, (part t vs off).run P w = .ok v w ∧ PRel G w r v := by
  unfold partP at h
  simp only [part, Sem.run_bind, run_isAgg' hi, Result.andThen_ok]
  split at h
  · rename_i ha
    split at h
    · rename_i hn
      cases h
      rw [if_pos ha]
      simp only [Sem.run_bind, run_sizeOf' hi, Result.andThen_ok, Sem.run_pure]
      refine ⟨_, rfl, ?_⟩
      have hs := hr.sub off i.size
      exact .agg _ _ hs.1 hs.2
    · cases h
  · rename_i ha
    rw [if_neg ha]
    rw [List.head?_drop] at h
    obtain ⟨v, hv, hp⟩ := hr.get h
    simp only [hv]
    exact ⟨v, rfl, hp⟩
/-! ### Fields, elements, pieces -/
def evField (P : Program) (t : TypeId) (x : PV) (f : Nat) : Option PV :=
  match tinfo P t, x with
  | some { k := .struct fs, .. }, .agg cs =>
    match fs[f]? with
    | some (off, ft) => match tinfo P ft with
      | some fi => partP fi.agg fi.size (cs.drop off)
      | none => none
    | none => none
  | _, _ => none
theorem evField_sound {P : Program} {t : TypeId} {p : PV} {x : Value} {f : Nat} {r : PV} {G : Ghost} {w : World} (h : evField P t p f = some r) (hx : PRel G w p x) :
    ∃ v, (Instr.field t x f).run P w = .ok v w ∧ PRel G w r v := by
  unfold evField at h
  split at h
  · rename_i hi
    cases hx with
    | agg cs vs hn hh =>
    split at h
    · rename_i off ft hf
      split at h
      · rename_i fi hfi
        obtain ⟨d, hd, hk⟩ := tinfo_under hi
        obtain ⟨a, rfl, hfs⟩ := tkind_struct hk.symm
        rw [hfs] at hf
        simp only [List.getElem?_map, Array.getElem?_toList, Option.map_eq_some_iff, Prod.mk.injEq] at hf
        obtain ⟨fl, hfl, rfl, rfl⟩ := hf
        obtain ⟨v, hv, hp⟩ := partP_sound hfi ⟨hn, hh⟩ h
        refine ⟨v, ?_, hp⟩
        simp only [Instr.field, Sem.run_bind, run_underlying hd, Result.andThen_ok, hfl, asAgg, Sem.run_pure, hv]
      · cases h
    · cases h
  · cases h

theorem add_none (b o n : Nat) : (⟨b, o, none⟩ : Addr).add n = ⟨b, o + n, none⟩ := by unfold Addr.add; split <;> simp_all

def evFieldAddr (P : Program) (t : TypeId) (x : PV) (f : Nat) : Option PV :=
  match tinfo P t with
  | some { k := .struct fs, .. } =>
    match fs[f]? with
    | some (off, ft) => match tinfo P ft with
      | some fi => if fi.size = 0 then none else
        match x with
        | .ptr k ver o => some (.ptr k ver (o + off))
        | .eptr k ver sz idx fo => some (.eptr k ver sz idx (fo + off))
        | .iptr cs => some (.iptr (cs.drop off))
        | _ => none
      | none => none
    | none => none
  | _ => none
theorem PRel.iptr_drop {G : Ghost} {w : World} {cs : List PV} {b o : Nat} (h : PRel G w (.iptr cs) (.pointer (some ⟨b, o, none⟩))) (n : Nat) : PRel G w (.iptr (cs.drop n)) (.pointer (some ⟨b, o + n, none⟩)) := by
  cases h with
  | iptr _ _ _ vs hM hcell hrel =>
    refine .iptr _ _ _ (fun j => vs (n + j)) (fun o' h1 h2 => hM o' (by omega) (by simp at h2; omega)) (fun j p hp => ?_) (fun j p hp => ?_)
    · rw [List.getElem?_drop] at hp
      rw [Nat.add_assoc]
      exact hcell (n + j) p hp
    · rw [List.getElem?_drop] at hp
      exact hrel (n + j) p hp
theorem evFieldAddr_sound {P : Program} {t : TypeId} {p : PV} {x : Value} {f : Nat} {r : PV} {G : Ghost} {w : World} (h : evFieldAddr P t p f = some r) (hx : PRel G w p x) :
    ∃ v, (Instr.fieldAt t x f).run P w = .ok v w ∧ PRel G w r v := by
  unfold evFieldAddr at h
  split at h
  · rename_i hi
    split at h
    · rename_i off ft hf
      split at h
      · rename_i fi hfi
        split at h
        · cases h
        · rename_i hs
          obtain ⟨d, hd, hk⟩ := tinfo_under hi
          obtain ⟨a, rfl, hfs⟩ := tkind_struct hk.symm
          rw [hfs] at hf
          simp only [List.getElem?_map, Array.getElem?_toList, Option.map_eq_some_iff, Prod.mk.injEq] at hf
          obtain ⟨fl, hfl, rfl, rfl⟩ := hf
          have hrun : ∀ b o, (Instr.fieldAt t (.pointer (some ⟨b, o, none⟩)) f).run P w = .ok (.pointer (some ⟨b, o + fl.offset, none⟩)) w := by
            intro b o
            simp only [Instr.fieldAt, Sem.run_bind, run_underlying hd, Result.andThen_ok, hfl, Instr.sureAddr, Sem.run_pure, fieldPlace, run_sizeOf' hfi, hs, if_false, add_none]
          split at h
          · cases h
            cases hx with
            | ptr k ver o b o' hv hl => exact ⟨_, hrun _ _, by rw [Nat.add_assoc]; exact .ptr _ _ _ _ _ hv hl⟩
          · cases h
            cases hx with
            | eptr k ver sz idx fo b o' hv hl => exact ⟨_, hrun _ _, by rw [Nat.add_assoc, Nat.add_assoc]; exact .eptr _ _ _ _ _ _ _ hv hl⟩
          · cases h
            cases hx with
            | iptr _ b o vs hM hcell hrel => exact ⟨_, hrun _ _, (PRel.iptr _ b o vs hM hcell hrel).iptr_drop _⟩
          · cases h
      · cases h
    · cases h
  · cases h

def evIndexAddr (P : Program) (t : TypeId) (x i : PV) : Option PV :=
  match tinfo P t, i with
  | some { k := .slice e, .. }, .int _ n =>
    match tinfo P e with
    | some ei =>
      match x with
      | .list _ es => if 0 ≤ n then (match es[n.toNat]? with
        | some c => if c.cells.length = ei.size then some (.iptr c.cells) else none
        | none => none) else none
      | .row k ver sz off len _ => if 0 ≤ n ∧ n < len ∧ sz = ei.size then some (.eptr k ver sz (off + n.toNat) 0) else none
      | _ => none
    | none => none
  | some { k := .array len e, .. }, .int _ n =>
    match tinfo P e with
    | some ei => if 0 ≤ n ∧ n < len then (match x with
      | .ptr k ver o => some (.ptr k ver (o + n.toNat * ei.size))
      | .iptr cs => some (.iptr (cs.drop (n.toNat * ei.size)))
      | _ => none) else none
    | none => none
  | _, _ => none
theorem PRel.list_at {G : Ghost} {w : World} {room : Room} {es : List PV} {x : Value} (h : PRel G w (.list room es) x) {n : Nat} {e : PV} (he : es[n]? = some e) :
    ∃ b off c, x = .slice (some ⟨b, off, none⟩) es.length c ∧ PRel G w (.iptr e.cells) (.pointer (some ⟨b, off + n * e.cells.length, none⟩)) := by
  cases h with
  | list _ _ A c b off sz vs hc hr hsz hA hM hes hcell hrel =>
    have hn := (List.getElem?_eq_some_iff.1 he).1
    have hne : es ≠ [] := by intro h0; rw [h0] at hn; simp at hn
    refine ⟨b, off, c, by rw [hA hne], ?_⟩
    have hl := hes n e he
    rw [hl]
    refine .iptr _ _ _ (fun j => vs n j) (fun o h1 h2 => hM o (by omega) ?_) (fun j p hp => ?_) (fun j p hp => hrel n e j p he hp)
    · rw [hl] at h2
      have := mul_add_lt hn (show o - (off + n * sz) < sz by omega)
      omega
    · rw [Nat.add_assoc]; exact hcell n e j p he hp
theorem evIndexAddr_sound {P : Program} {t : TypeId} {p q : PV} {x i : Value} {r : PV} {G : Ghost} {w : World} (h : evIndexAddr P t p q = some r) (hx : PRel G w p x) (hq : PRel G w q i) :
    ∃ v, (Instr.indexAt t x i).run P w = .ok v w ∧ PRel G w r v := by
  unfold evIndexAddr at h
  split at h
  · rename_i e sz0 by0 z0 k n hi
    cases hq
    split at h
    · rename_i ei hei
      obtain ⟨d, hd, hk⟩ := tinfo_under hi
      have hd' := tkind_slice hk.symm
      subst hd'
      split at h
      · rename_i room es
        split at h
        · rename_i h0
          split at h
          · rename_i c hc
            split at h
            · rename_i hl
              cases h
              obtain ⟨b, off, cp, rfl, hp⟩ := hx.list_at hc
              have hlt := (List.getElem?_eq_some_iff.1 hc).1
              refine ⟨.pointer (some ⟨b, off + n.toNat * ei.size, none⟩), ?_, by rw [← hl]; exact hp⟩
              simp only [Instr.indexAt, asIntOf, Sem.run_bind, Sem.run_pure, Result.andThen_ok, run_underlying hd]
              rw [if_pos (by omega)]
              simp [run_sizeOf' hei, add_none]
            · cases h
          · cases h
        · cases h
      · rename_i kk ver sz off len cap
        split at h
        · rename_i h0
          cases h
          cases hx with
          | row _ _ _ _ _ b o c _ hc hcap hv hl =>
          refine ⟨.pointer (some ⟨b, o + off * sz + n.toNat * ei.size, none⟩), ?_, ?_⟩
          · simp only [Instr.indexAt, asIntOf, Sem.run_bind, Sem.run_pure, Result.andThen_ok, run_underlying hd]
            rw [if_pos (by omega)]
            simp [run_sizeOf' hei, add_none]
          · obtain ⟨_, _, rfl⟩ := h0
            have : o + off * ei.size + n.toNat * ei.size = o + ((off + n.toNat) * ei.size + 0) := by rw [Nat.add_mul]; omega
            rw [this]
            exact .eptr _ _ _ _ _ _ _ hv fun e L hL => by obtain ⟨h1, h2, _⟩ := hl e L hL; exact ⟨h1, h2⟩
        · cases h
      · cases h
    · cases h
  · rename_i len e sz0 by0 z0 k n hi
    cases hq
    split at h
    · rename_i ei hei
      obtain ⟨d, hd, hk⟩ := tinfo_under hi
      have hd' := tkind_array hk.symm
      subst hd'
      split at h
      · rename_i h0
        have hrun : ∀ b o, (Instr.indexAt t (.pointer (some ⟨b, o, none⟩)) (.int k n)).run P w = .ok (.pointer (some ⟨b, o + n.toNat * ei.size, none⟩)) w := by
          intro b o
          simp only [Instr.indexAt, asIntOf, Sem.run_bind, Sem.run_pure, Result.andThen_ok, run_underlying hd, Instr.sureAddr]
          rw [if_pos h0]
          simp [run_sizeOf' hei, add_none]
        split at h
        · cases h
          cases hx with
          | ptr k ver o b o' hv hl => exact ⟨_, hrun _ _, by rw [Nat.add_assoc]; exact .ptr _ _ _ _ _ hv hl⟩
        · cases h
          cases hx with
          | iptr _ b o vs hM hcell hrel => exact ⟨_, hrun _ _, (PRel.iptr _ b o vs hM hcell hrel).iptr_drop _⟩
        · cases h
      · cases h
    · cases h
  · cases h

def evIndex (P : Program) (t : TypeId) (x i : PV) : Option PV :=
  match tinfo P t, x, i with
  | some { k := .str, .. }, .str s, .int _ n => if 0 ≤ n then (match s[n.toNat]? with
    | some b => some (.int .u8 b.toNat)
    | none => none) else none
  | some { k := .array len e, .. }, .agg cs, .int _ n =>
    match tinfo P e with
    | some ei => if 0 ≤ n ∧ n < len then partP ei.agg ei.size (cs.drop (n.toNat * ei.size)) else none
    | none => none
  | _, _, _ => none
theorem evIndex_sound {P : Program} {t : TypeId} {p q : PV} {x i : Value} {r : PV} {G : Ghost} {w : World} (h : evIndex P t p q = some r) (hx : PRel G w p x) (hq : PRel G w q i) :
    ∃ v, (Instr.index t x i).run P w = .ok v w ∧ PRel G w r v := by
  unfold evIndex at h
  split at h
  · rename_i s k n hi
    cases hq; cases hx
    obtain ⟨d, hd, hk⟩ := tinfo_under hi
    have hd' := tkind_str hk.symm
    subst hd'
    split at h
    · rename_i h0
      split at h
      · rename_i b hb
        cases h
        refine ⟨_, ?_, .int _ _⟩
        simp only [Instr.index, asIntOf, Sem.run_bind, Sem.run_pure, Result.andThen_ok, run_underlying hd]
        have hb' : (mkStr s)[n.toNat]? = some b := by
          obtain ⟨hlt, hbe⟩ := List.getElem?_eq_some_iff.1 hb
          rw [getElem?_pos (mkStr s) n.toNat (by simpa using hlt)]
          congr 1
        rw [if_pos h0, hb']
        simp
      · cases h
    · cases h
  · rename_i len e cs k n hi
    cases hq
    cases hx with
    | agg _ vs hn hh =>
    split at h
    · rename_i ei hei
      split at h
      · rename_i h0
        obtain ⟨d, hd, hk⟩ := tinfo_under hi
        have hd' := tkind_array hk.symm
        subst hd'
        obtain ⟨v, hv, hp⟩ := partP_sound hei ⟨hn, hh⟩ h
        refine ⟨v, ?_, hp⟩
        simp only [Instr.index, asIntOf, Sem.run_bind, Sem.run_pure, Result.andThen_ok, run_underlying hd]
        rw [if_pos h0]
        simp only [Sem.run_bind, run_sizeOf' hei, Result.andThen_ok, hv]
      · cases h
    · cases h
  · cases h
end Go.Fh
