/- A law's arguments, as pure values; a law's answer, carried back. -/
import Derived.Test.YtdclkdcgcfkopaaGreatDoorFhLift
import Derived.ChangeArms
import Derived.Carry
import Derived.WideShapes
import Derived.RowKit
import Derived.ChangeMaps5
set_option linter.all false
namespace Go.Fh
open Go.RowKit

/-- What a readable value of a type is, as pure values of its cells. -/
def Dec (P : Program) (t : TypeId) (n : Nat) (α : Type) (pv : α → List PV) (ok : α → Prop) : Prop :=
  P.cellsOf t = n ∧ (∀ a, (pv a).length = n) ∧ ∀ {H : Type} (enc : TypeId × Value → H) (w : World) (sp : Nat → Bool) (held : Bool) (fuel : Nat) (cs : List Value) (x : DataW H × List MemPlace),
    DataW.trod enc P w 0 sp held fuel t cs = some x → ∃ a, ok a ∧ ∀ G : Ghost, (∀ b o, ¬ G.M b o) → PRels G w (pv a) cs.toArray
/-- The same of a struct's fields from one on. -/
def DecF (P : Program) (fs : List Field) (start n : Nat) (α : Type) (pv : α → List PV) (ok : α → Prop) : Prop :=
  (∀ a, (pv a).length = n) ∧ ∀ {H : Type} (enc : TypeId × Value → H) (w : World) (sp : Nat → Bool) (held : Bool) (fuel : Nat) (cs : List Value) (xs : List (DataW H × List MemPlace)), xs.length = fs.length →
    (∀ (i : Nat) (f : Field), fs[i]? = some f → DataW.trod enc P w 0 sp held fuel f.type ((cs.drop f.offset).take (P.cellsOf f.type)) = xs[i]?) → ∃ a, ok a ∧ ∀ G : Ghost, (∀ b o, ¬ G.M b o) → PRels G w (pv a) ((cs.drop start).take n).toArray

theorem PRels.one {G : Ghost} {w : World} {p : PV} {v : Value} (h : PRel G w p v) : PRels G w [p] #[v] := by
  refine ⟨rfl, fun i q u hq hu => ?_⟩
  cases i with
  | zero => cases hq; cases hu; exact h
  | succ i => simp at hq
theorem PRels.cat {G : Ghost} {w : World} {ps qs : List PV} {vs us : List Value} (h : PRels G w ps vs.toArray) (k : PRels G w qs us.toArray) : PRels G w (ps ++ qs) (vs ++ us).toArray := by
  have := PRels.append h k
  rwa [List.append_toArray] at this

variable {P : Program}
theorem Dec.bool {t : TypeId} (hc : P.cellsOf t = 1) (ht : P.underlying t = some .bool) : Dec P t 1 Bool (fun b => [.bool b]) (fun _ => True) :=
  ⟨hc, fun _ => rfl, fun enc w sp held fuel cs x h => by
    obtain ⟨b, rfl, _⟩ := DataW.trod_bool ht h
    exact ⟨b, trivial, fun G _ => .one (.bool b)⟩⟩
theorem Dec.int {t : TypeId} {k : IntKind} (hc : P.cellsOf t = 1) (ht : P.underlying t = some (.int k)) : Dec P t 1 Int (fun z => [.int k z]) (fun z => (Lit.int k z).wf = true) :=
  ⟨hc, fun _ => rfl, fun enc w sp held fuel cs x h => by
    obtain ⟨b, rfl, _, hw⟩ := DataW.trod_int ht h
    exact ⟨b, hw, fun G _ => .one (.int k b)⟩⟩
theorem Dec.str {t : TypeId} (hc : P.cellsOf t = 1) (ht : P.underlying t = some .string) : Dec P t 1 Str (fun s => [.str s]) (fun s => s.length ≤ maxLen) :=
  ⟨hc, fun _ => rfl, fun enc w sp held fuel cs x h => by
    obtain ⟨b, rfl, _, hw⟩ := DataW.trod_string ht h
    exact ⟨b.data.toList, by simpa using hw, fun G _ => .one (.str (G := G) (w := w) b.data.toList)⟩⟩

theorem Dec.slice {t e : TypeId} {m : Nat} {α : Type} {pv : α → List PV} {ok : α → Prop} (el : α → PV) (hel : ∀ a, (el a).cells = pv a) (hc : P.cellsOf t = 1) (ht : P.underlying t = some (.slice e)) (hm : 0 < m) (he : Dec P e m α pv ok) :
    Dec P t 1 (List α) (fun l => [.list .any (l.map el)]) (fun l => l.length ≤ maxLen ∧ ∀ a ∈ l, ok a) :=
  ⟨hc, fun _ => rfl, fun {H} enc w sp held fuel cs x h => by
    obtain ⟨hce, hpl, hdec⟩ := he
    rcases DataW.trod_slice ht h with ⟨rfl, _⟩ | ⟨a, len, cap, elems, rest, n, rfl, rfl, _, _, hl, hcm, hlen, hat, _, _⟩
    · exact ⟨[], ⟨Nat.zero_le _, fun a ha => by cases ha⟩, fun G hG => .one (.list .any [] none 0 0 0 1 (fun _ _ => undef) (Nat.le_refl _) trivial (by omega) (fun h => absurd rfl h) (fun o h1 h2 => by simp at h2) (fun i e h => by simp at h) (fun i e j p h => by simp at h) (fun i e j p h => by simp at h))⟩
    · have each : ∀ i, i < len → ∃ b cs', w.cells? 0 (a.add (i * m)) m = some cs' ∧ ok b ∧ ∀ G : Ghost, (∀ b o, ¬ G.M b o) → PRels G w (pv b) cs'.toArray := by
        intro i hi
        have h1 := hat i hi
        rw [hce] at h1
        obtain ⟨y, hy⟩ : ∃ y, elems[i]? = some y := ⟨elems[i], List.getElem?_eq_getElem (by omega)⟩
        rw [hy, Option.bind_eq_some_iff] at h1
        obtain ⟨cs', h2, h3⟩ := h1
        obtain ⟨b, hb, hG⟩ := hdec enc w sp held n cs' y h3
        exact ⟨b, cs', h2, hb, hG⟩
      have pick : ∃ l : List α, l.length = len ∧ ∀ i b, l[i]? = some b → ∃ cs', w.cells? 0 (a.add (i * m)) m = some cs' ∧ ok b ∧ ∀ G : Ghost, (∀ b o, ¬ G.M b o) → PRels G w (pv b) cs'.toArray := by
        have : ∀ k, k ≤ len → ∃ l : List α, l.length = k ∧ ∀ i b, l[i]? = some b → ∃ cs', w.cells? 0 (a.add (i * m)) m = some cs' ∧ ok b ∧ ∀ G : Ghost, (∀ b o, ¬ G.M b o) → PRels G w (pv b) cs'.toArray := by
          intro k
          induction k with
          | zero => intro _; exact ⟨[], rfl, fun i b h => by simp at h⟩
          | succ k ih =>
            intro hk
            obtain ⟨l, hll, hl2⟩ := ih (by omega)
            obtain ⟨b, hb⟩ := each k (by omega)
            refine ⟨l ++ [b], by simp [hll], fun i b' hb' => ?_⟩
            rw [List.getElem?_append] at hb'
            split at hb'
            · exact hl2 i b' hb'
            · rename_i hi
              have h1 := (List.getElem?_eq_some_iff.1 hb').1
              simp at h1
              obtain rfl : i = k := by omega
              simp [hll] at hb'
              subst hb'
              exact hb
        exact this len (Nat.le_refl _)
      obtain ⟨l, hll, hl2⟩ := pick
      refine ⟨l, ⟨by omega, fun b hb => ?_⟩, fun G hG => .one ?_⟩
      · obtain ⟨i, hi⟩ := List.mem_iff_getElem?.1 hb
        obtain ⟨_, _, h3, _⟩ := hl2 i b hi
        exact h3
      · have hA : l.map el ≠ [] → a = ⟨a.block, a.off, none⟩ := by
          intro hne
          have h0 : 0 < len := by
            rw [← hll]
            exact List.length_pos_iff.2 fun h => hne (by rw [h]; rfl)
          obtain ⟨b, hb⟩ : ∃ b, l[0]? = some b := ⟨l[0], List.getElem?_eq_getElem (by omega)⟩
          obtain ⟨cs', h1, _, _⟩ := hl2 0 b hb
          obtain ⟨_, hcl, hcell⟩ := World.cells?_some h1
          have := hcell 0 hm
          have e : cs'[0]? = some cs'[0] := List.getElem?_eq_getElem (by omega)
          rw [e] at this
          simp only [Nat.zero_mul, Addr.add, if_true] at this
          unfold World.cell? at this
          split at this
          · split at this
            · cases this
            · rename_i hs
              obtain ⟨bb, oo, ss⟩ := a
              cases ss with
              | none => rfl
              | some s => simp at hs
          · cases this
        have hadd : l.map el ≠ [] → ∀ k, a.add k = ⟨a.block, a.off + k, none⟩ := by
          intro hne k
          rw [hA hne]
          exact add_none _ _ _
        have key : ∀ (i : Nat) (e : PV) (j : Nat) (p : PV), (l.map el)[i]? = some e → e.cells[j]? = some p → ∃ v, w.cell? ⟨a.block, a.off + (i * m + j), none⟩ = some v ∧ PRel G w p v := by
          intro i e j p hi hj
          have hne : l.map el ≠ [] := by intro h0; rw [h0] at hi; simp at hi
          rw [List.getElem?_map, Option.map_eq_some_iff] at hi
          obtain ⟨b, hb, rfl⟩ := hi
          rw [hel] at hj
          obtain ⟨cs', h1, _, h3⟩ := hl2 i b hb
          obtain ⟨v, hv, hp⟩ := (h3 G hG).get hj
          obtain ⟨_, hcl, hcell⟩ := World.cells?_some h1
          have hjm : j < m := by rw [← hpl b]; exact (List.getElem?_eq_some_iff.1 hj).1
          have := hcell j hjm
          rw [hadd hne, add_none] at this
          refine ⟨v, ?_, hp⟩
          rw [← Nat.add_assoc, this]
          simpa using hv
        have := PRel.list (G := G) (w := w) .any (l.map el) (some a) cap a.block a.off m (fun i j => (w.cell? ⟨a.block, a.off + (i * m + j), none⟩).getD undef) (by simp; omega) trivial hm (fun hne => by rw [← hA hne]) (fun o _ _ => hG _ _)
          (fun i e hi => by
            rw [List.getElem?_map, Option.map_eq_some_iff] at hi
            obtain ⟨b, _, rfl⟩ := hi
            rw [hel, hpl])
          (fun i e j p hi hj => by obtain ⟨v, hv, _⟩ := key i e j p hi hj; rw [hv]; rfl)
          (fun i e j p hi hj => by obtain ⟨v, hv, hp⟩ := key i e j p hi hj; rw [hv]; exact hp)
        rwa [List.length_map, hll] at this⟩

theorem DecF.nil (start : Nat) : DecF P [] start 0 Unit (fun _ => []) (fun _ => True) :=
  ⟨fun _ => rfl, fun enc w sp held fuel cs xs _ _ => ⟨(), trivial, fun G _ => by simpa using PRels.nil G w⟩⟩
theorem DecF.cons {f : Field} {fs : List Field} {start m n : Nat} {α β : Type} {pv : α → List PV} {pv' : β → List PV} {ok : α → Prop} {ok' : β → Prop} (ho : f.offset = start) (h : Dec P f.type m α pv ok) (k : DecF P fs (start + m) n β pv' ok') :
    DecF P (f :: fs) start (m + n) (α × β) (fun p => pv p.1 ++ pv' p.2) (fun p => ok p.1 ∧ ok' p.2) :=
  ⟨fun p => by rw [List.length_append, h.2.1, k.1], fun enc w sp held fuel cs xs hl hx => by
    obtain ⟨hc, _, hd⟩ := h
    cases xs with
    | nil => simp at hl
    | cons x xs =>
      have h0 := hx 0 f rfl
      rw [hc, ho] at h0
      obtain ⟨a, ha, hG⟩ := hd enc w sp held fuel _ x h0
      obtain ⟨b, hb, hG'⟩ := k.2 enc w sp held fuel cs xs (by simpa using hl) fun i g hg => hx (i + 1) g hg
      refine ⟨(a, b), ⟨ha, hb⟩, fun G hg => ?_⟩
      have := (hG G hg).cat (hG' G hg)
      rwa [← List.drop_drop, ← List.take_add] at this⟩
theorem Dec.struct {t : TypeId} {fs : Array Field} {n : Nat} {α : Type} {pv : α → List PV} {ok : α → Prop} (hc : P.cellsOf t = n) (ht : P.underlying t = some (.struct fs)) (h : DecF P fs.toList 0 n α pv ok) : Dec P t n α pv ok :=
  ⟨hc, h.1, fun enc w sp held fuel cs x hx => by
    obtain ⟨xs, m, rfl, _, hl, hxl, hat⟩ := DataW.trod_struct ht hx
    obtain ⟨a, ha, hG⟩ := h.2 enc w sp held m cs xs (by simpa using hxl) fun i f hf => hat i f (by simpa using hf)
    refine ⟨a, ha, fun G hg => ?_⟩
    have := hG G hg
    rwa [List.drop_zero, List.take_of_length_le (by omega)] at this⟩
/-- The same, of another kind of data. -/
theorem Dec.map {t : TypeId} {n : Nat} {α β : Type} {pv : α → List PV} {ok : α → Prop} {pv' : β → List PV} {ok' : β → Prop} (h : Dec P t n α pv ok) (f : α → β) (hl : ∀ b, (pv' b).length = n) (hp : ∀ a, pv' (f a) = pv a) (ho : ∀ a, ok a → ok' (f a)) : Dec P t n β pv' ok' :=
  ⟨h.1, hl, fun enc w sp held fuel cs x hx => by
    obtain ⟨a, ha, hG⟩ := h.2.2 enc w sp held fuel cs x hx
    exact ⟨f a, ho a ha, fun G hg => by rw [hp]; exact hG G hg⟩⟩

/-- An argument of one cell. -/
theorem Dec.arg1 {t : TypeId} {α : Type} {pv : α → List PV} {ok : α → Prop} {el : α → PV} (h : Dec P t 1 α pv ok) (hel : ∀ a, pv a = [el a]) {H : Type} {enc : TypeId × Value → H} {w : World} {sp : Nat → Bool} {held : Bool} {v : Value} {d : DataW H} {ps : List MemPlace}
    (hv : v.cells = #[v]) (hd : DataW.Trod enc P w 0 sp held t v d ps) : ∃ a, ok a ∧ ∀ G : Ghost, (∀ b o, ¬ G.M b o) → PRel G w (el a) v := by
  obtain ⟨fuel, hf⟩ := hd
  rw [hv] at hf
  obtain ⟨a, ha, hG⟩ := h.2.2 enc w sp held fuel _ _ hf
  refine ⟨a, ha, fun G hg => ?_⟩
  have := hG G hg
  rw [hel] at this
  exact this.2 0 _ _ rfl rfl
/-- An argument that is a struct. -/
theorem Dec.argN {t : TypeId} {n : Nat} {α : Type} {pv : α → List PV} {ok : α → Prop} (h : Dec P t n α pv ok) {H : Type} {enc : TypeId × Value → H} {w : World} {sp : Nat → Bool} {held : Bool} {cs : Array Value} {d : DataW H} {ps : List MemPlace}
    (hd : DataW.Trod enc P w 0 sp held t (.agg cs) d ps) : ∃ a, ok a ∧ ∀ G : Ghost, (∀ b o, ¬ G.M b o) → PRel G w (.agg (pv a)) (.agg cs) := by
  obtain ⟨fuel, hf⟩ := hd
  obtain ⟨a, ha, hG⟩ := h.2.2 enc w sp held fuel _ _ hf
  refine ⟨a, ha, fun G hg => ?_⟩
  have := hG G hg
  exact .agg _ _ this.1 (fun i p u hp hu => this.2 i p u hp (by simpa [Value.cells] using hu))
theorem okWide_struct {w : World} {r : Reach} {b0 : Nat} {t : TypeId} {v : Value} {fs : Array Field} (ht : P.underlying t = some (.struct fs)) (h : Value.okWide P w r b0 t v) : ∃ cs, v = .agg cs := by
  unfold Value.okWide at h
  rw [ht] at h
  obtain ⟨cs, h, _⟩ := h
  exact ⟨cs, h⟩

/-! ### At the start: no variables but the package's -/
def ghost0 : Ghost := { loc := fun _ => none, cnt := fun _ => 0 }
theorem ghost0_M (b o : Nat) : ¬ ghost0.M b o := by
  rintro ⟨k, L, h, _⟩
  cases h
def heap0 (gs : List (Nat × List PV)) : PHeap := fun k => match k with
  | (0, g) => match gs.find? (·.1 == g) with
    | some (_, cs) => (0, some (.const cs))
    | none => (0, none)
  | _ => (0, none)
theorem simH0 {gs : List (Nat × List PV)} {w : World} (h : ∀ g cs, (g, cs) ∈ gs → GlobOk ghost0 w g cs) : SimH 0 ghost0 (heap0 gs) w where
  cnt k hk := by
    obtain ⟨a, g⟩ := k
    simp at hk
    subst hk
    simp only [heap0, ghost0]
    split <;> rfl
  obj k L hk := by cases hk
  live k o ho hc := by
    obtain ⟨a, g⟩ := k
    cases a with
    | zero =>
      simp only [heap0] at ho
      split at ho
      · cases ho
        cases hc
      · cases ho
    | succ a => cases ho
  shut k hk := by
    obtain ⟨a, g⟩ := k
    cases a with
    | zero => cases hk
    | succ a => rfl
  glob g cs hg := by
    simp only [heap0] at hg
    split at hg
    · rename_i x cs' hf
      cases hg
      have := List.find?_some hf
      have hm := List.mem_of_find?_eq_some hf
      simp at this
      subst this
      exact h _ _ hm
    · cases hg
  apart k k' L L' h1 := by cases h1
theorem Ext.toBelow {G G' : Ghost} {w w' : World} (E : Ext G w G' w') (h : ∀ b o, ¬ G.M b o) : Below w.heap.size w w' :=
  ⟨E.os, E.tape, E.output, E.size, fun k hk => E.block k hk (h k)⟩
/-- A law that answers true, at the machine. -/
theorem FnRet.calls {f : FuncId} {args : List PV} {gs : List (Nat × List PV)} {b : Bool} (h : FnRet P 0 f args (heap0 gs) (.bool b)) {w : World} {vs : Array Value} (hg : ∀ g cs, (g, cs) ∈ gs → GlobOk ghost0 w g cs) (ha : PRels ghost0 w args vs) :
    Calls P f vs w fun e w' => e = .returned (.bool b) ∧ Below w.heap.size w w' :=
  (h.2 ghost0 w vs (simH0 hg) ha).mono fun e w' ⟨po, G', h', E, S, hO, hp, _⟩ => by
    subst hp
    cases hO with
    | ret r v hr =>
      cases hr
      exact ⟨rfl, E.toBelow ghost0_M⟩
end Go.Fh
