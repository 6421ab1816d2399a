/- append: what is at the end of a row that the call owns goes in place, or all of it into a new row. -/
import Derived.Test.YtdclkdcgcfkopaaGreatDoorFhWr
import Derived.Laws.AppendOwn
set_option linter.all false
namespace Go.Fh
open Go.RowKit

/-- May this slice be appended to? -/
def roomP (h : PHeap) (size : Nat) (es : List PV) : Room → Bool
  | .any => false
  | .full => true
  | .tok k ver sz => (match h k with
    | (v, some .tok) => v == ver
    | _ => false) && sz == size && !es.isEmpty
def roomDrop (h : PHeap) : Room → PHeap
  | .tok k _ _ => h.set k ((h k).1 + 1, none)
  | _ => h
/-- The variables behind an append. -/
def appH (h : PHeap) (key : Key) (room : Room) : PHeap := (roomDrop h room).set key ((roomDrop h room key).1 + 1, some .tok)
def appRoom (h : PHeap) (key : Key) (size : Nat) (room : Room) : Room := .tok key ((roomDrop h room key).1 + 1) size
def appP (h : PHeap) (key : Key) (size : Nat) (room : Room) (es xs : List PV) : PV × PHeap :=
  if xs.isEmpty = true then (.list room es, h) else (.list (appRoom h key size room) (es ++ xs), appH h key room)

/-! ### A key's object is given up -/
theorem Ghost.M_drop {G : Ghost} {k : Key} {b o : Nat} (h : (G.drop k).M b o) : G.M b o := by
  obtain ⟨q, L, hq, h1, h2⟩ := h
  simp only [Ghost.drop] at hq
  split at hq
  · cases hq
  · exact ⟨q, L, hq, h1, h2⟩
theorem Ext.drop (G : Ghost) (w : World) (k : Key) : Ext G w (G.drop k) w where
  os := rfl
  output := rfl
  tape := rfl
  size := Nat.le_refl _
  block b hb hm := rfl
  cell b o hb hm := rfl
  keep b o hb hm h := hm (Ghost.M_drop h)
  cnt q := by simp only [Ghost.drop]; split <;> simp_all
  loc q L hL hc := by
    simp only [Ghost.drop] at hL
    split at hL
    · cases hL
    · exact hL
theorem SimH.drop {d : Nat} {G : Ghost} {h : PHeap} {w : World} (S : SimH d G h w) {k : Key} (hk : k.1 ≤ d) (hk0 : 0 < k.1) : SimH d (G.drop k) (h.set k ((h k).1 + 1, none)) w where
  cnt q hq := by
    by_cases e : q = k
    · subst e; simp [Ghost.drop, S.cnt q hq]
    · rw [PHeap.set_ne _ _ e]; simp [Ghost.drop, e, S.cnt q hq]
  obj q L hq := by
    simp only [Ghost.drop] at hq
    split at hq
    · cases hq
    · rename_i e
      obtain ⟨h1, h2, o, h3, h4⟩ := S.obj q L hq
      exact ⟨h1, h2, o, by rw [PHeap.set_ne _ _ e]; exact h3, h4.mono (Ext.drop G w k) rfl⟩
  live q o ho hc := by
    by_cases e : q = k
    · subst e; simp at ho
    · rw [PHeap.set_ne _ _ e] at ho
      simp only [Ghost.drop, if_neg e]
      exact S.live q o ho hc
  shut q hq := by
    rw [PHeap.set_ne _ _ (by intro e; subst e; omega)]
    exact S.shut q hq
  glob g cs hg := by
    rw [PHeap.set_ne _ _ (by intro e; subst e; exact Nat.lt_irrefl _ hk0)] at hg
    exact (S.glob g cs hg).mono (Ext.drop G w k)
  apart q q' L L' h1 h2 hne := by
    simp only [Ghost.drop] at h1 h2
    split at h1
    · cases h1
    · split at h2
      · cases h2
      · exact S.apart q q' L L' h1 h2 hne

/-- A row that grows in place, under another key. -/
theorem SimH.regrow {d : Nat} {G : Ghost} {h : PHeap} {w w' : World} (S : SimH d G h w) {k key : Key} {L L' : Loc} (hL : G.loc k = some L) (hk : key.1 ≤ d) (hk0 : 0 < key.1) (hk1 : 0 < k.1) (O : Only L.b w w') (hcell : ∀ o, o < L.lo → w'.cell? ⟨L.b, o, none⟩ = w.cell? ⟨L.b, o, none⟩)
    (hb : L'.b = L.b) (hlo : L.lo ≤ L'.lo) {po : PObj} (hr : ORel ((G.drop k).bind key L') w' L' po) :
    Ext G w ((G.drop k).bind key L') w' ∧ SimH d ((G.drop k).bind key L') ((h.set k ((h k).1 + 1, none)).set key (((h.set k ((h k).1 + 1, none)) key).1 + 1, some po)) w' := by
  have hM : ∀ o, L.lo ≤ o → G.M L.b o := fun o ho => ⟨k, L, hL, rfl, ho⟩
  have hk' := (S.obj k L hL).1
  have E : Ext G w ((G.drop k).bind key L') w' := by
    refine ⟨O.os, O.output, O.tape, by rw [O.size]; exact Nat.le_refl _, fun b hb' hm => ?_, fun b o hb' hm => ?_, fun b o hb' hm => ?_, fun q => ?_, fun q Q hQ hc => ?_⟩
    · exact O.other b fun e => by subst e; exact hm L.lo (hM _ (Nat.le_refl _))
    · by_cases e : b = L.b
      · subst e
        refine hcell o ?_
        rcases Nat.lt_or_ge o L.lo with h | h
        · exact h
        · exact absurd (hM o h) hm
      · exact cell_eq (O.other b e)
    · rintro ⟨q, Q, hQ, h1, h2⟩
      by_cases e : q = key
      · subst e
        simp at hQ
        subst hQ
        rw [hb] at h1
        subst h1
        exact hm (hM o (by omega))
      · rw [Ghost.bind_loc_ne _ _ e] at hQ
        exact hm (Ghost.M_drop ⟨q, Q, hQ, h1, h2⟩)
    · by_cases e : q = key
      · subst e
        rw [Ghost.bind_cnt_self]
        have := (Ext.drop G w k).cnt q
        omega
      · rw [Ghost.bind_cnt_ne _ _ e]
        exact (Ext.drop G w k).cnt q
    · by_cases e : q = key
      · subst e
        rw [Ghost.bind_cnt_self] at hc
        have := (Ext.drop G w k).cnt q
        omega
      · rw [Ghost.bind_loc_ne _ _ e] at hQ
        rw [Ghost.bind_cnt_ne _ _ e] at hc
        exact (Ext.drop G w k).loc q Q hQ hc
  have S1 := S.drop hk' hk1
  refine ⟨E, ?_⟩
  constructor
  case cnt =>
    intro q hq
    by_cases e : q = key
    · subst e; rw [PHeap.set_self, Ghost.bind_cnt_self, S1.cnt q hq]
    · rw [PHeap.set_ne _ _ e, Ghost.bind_cnt_ne _ _ e]; exact S1.cnt q hq
  case obj =>
    intro q Q hQ
    by_cases e : q = key
    · subst e
      simp at hQ
      subst hQ
      exact ⟨hk, by rw [O.size, hb]; exact (S.obj k L hL).2.1, po, by simp, hr⟩
    · rw [Ghost.bind_loc_ne _ _ e] at hQ
      simp only [Ghost.drop] at hQ
      split at hQ
      · cases hQ
      · rename_i e2
        obtain ⟨h1, h2, o', h3, h4⟩ := S.obj q Q hQ
        exact ⟨h1, by rw [O.size]; exact h2, o', by rw [PHeap.set_ne _ _ e, PHeap.set_ne _ _ e2]; exact h3, h4.mono E (O.other _ (S.apart q k Q L hQ hL e2))⟩
  case live =>
    intro q o' ho hc
    by_cases e : q = key
    · subst e; exact ⟨L', by simp⟩
    · rw [PHeap.set_ne _ _ e] at ho
      rw [Ghost.bind_loc_ne _ _ e]
      exact S1.live q o' ho hc
  case shut =>
    intro q hq
    rw [PHeap.set_ne _ _ (by intro e; subst e; omega)]
    exact S1.shut q hq
  case glob =>
    intro g cs hg
    rw [PHeap.set_ne _ _ (by intro e; subst e; exact Nat.lt_irrefl _ hk0), PHeap.set_ne _ _ (by intro e; subst e; exact Nat.lt_irrefl _ hk1)] at hg
    exact (S.glob g cs hg).mono E
  case apart =>
    intro q q' L1 L2 h1 h2 hne
    have old : ∀ p Q, p ≠ key → ((G.drop k).bind key L').loc p = some Q → p ≠ k ∧ G.loc p = some Q := by
      intro p Q hp hQ
      rw [Ghost.bind_loc_ne _ _ hp] at hQ
      simp only [Ghost.drop] at hQ
      split at hQ
      · cases hQ
      · rename_i e; exact ⟨e, hQ⟩
    by_cases e : q = key
    · subst e
      simp at h1
      subst h1
      obtain ⟨e2, h2'⟩ := old q' L2 (Ne.symm hne) h2
      rw [hb]
      exact (S.apart q' k L2 L h2' hL e2).symm
    · obtain ⟨e1, h1'⟩ := old q L1 e h1
      by_cases e' : q' = key
      · subst e'
        simp at h2
        subst h2
        rw [hb]
        exact S.apart q k L1 L h1' hL e1
      · obtain ⟨e2, h2'⟩ := old q' L2 e' h2
        exact S.apart q q' L1 L2 h1' h2' hne

/-! ### A list's cells, in order -/
theorem PRel.flat {G : Ghost} {w : World} {room : Room} {es : List PV} {A : Option Addr} {n c : Nat} (h : PRel G w (.list room es) (.slice A n c)) {size : Nat} (hs : ∀ e ∈ es, e.cells.length = size) (h0 : 0 < size) :
    n = es.length ∧ n ≤ c ∧ ∃ cs : List Value, cs.length = n * size ∧ (es ≠ [] → ∃ b off, A = some ⟨b, off, none⟩ ∧ (∀ j u, cs[j]? = some u → w.cell? ⟨b, off + j, none⟩ = some u) ∧ (∀ o, off ≤ o → o < off + n * size → ¬ G.M b o) ∧ Room.ok G b off size n c room) ∧ (∀ (i : Nat) (e : PV) (j : Nat) (p : PV), es[i]? = some e → e.cells[j]? = some p → ∃ u, cs[i * size + j]? = some u ∧ PRel G w p u) ∧ (es = [] → room = .full → c = 0) := by
  cases h with
  | list _ _ _ _ b off sz vs hc hr hsz hA hM hes hcell hrel =>
  have hsz' : es ≠ [] → sz = size := by
    intro hne
    cases es with
    | nil => exact absurd rfl hne
    | cons e es => rw [← hes 0 e rfl, hs e (by simp)]
  refine ⟨rfl, hc, (List.range (es.length * size)).map fun q => vs (q / size) (q % size), by simp, fun hne => ?_, fun i e j p he hp => ?_, fun h1 h2 => ?_⟩
  · have := hsz' hne
    subst this
    refine ⟨b, off, hA hne, fun j u hu => ?_, hM, hr⟩
    simp only [List.getElem?_map] at hu
    rw [Option.map_eq_some_iff] at hu
    obtain ⟨q, hq, rfl⟩ := hu
    obtain ⟨hlt, hq⟩ := List.getElem?_eq_some_iff.1 hq
    rw [List.getElem_range] at hq
    subst hq
    rw [List.length_range] at hlt
    have hi : j / sz < es.length := Nat.div_lt_of_lt_mul (by rw [Nat.mul_comm]; exact hlt)
    have hj : j % sz < sz := Nat.mod_lt _ hsz
    have he := List.getElem?_eq_getElem hi
    have hp := List.getElem?_eq_getElem (show j % sz < es[j / sz].cells.length by rw [hes _ _ he]; exact hj)
    have := hcell _ _ _ _ he hp
    rwa [show j / sz * sz + j % sz = j by rw [Nat.mul_comm]; exact Nat.div_add_mod j sz] at this
  · have hi := (List.getElem?_eq_some_iff.1 he).1
    have hj := (List.getElem?_eq_some_iff.1 hp).1
    rw [hs e (List.mem_of_getElem? he)] at hj
    refine ⟨vs i j, ?_, hrel i e j p he hp⟩
    have hlt := mul_add_lt hi hj
    have hd : (i * size + j) / size = i := by rw [Nat.mul_comm, Nat.mul_add_div h0, Nat.div_eq_of_lt hj, Nat.add_zero]
    have hm : (i * size + j) % size = j := by rw [Nat.mul_comm, Nat.mul_add_mod, Nat.mod_eq_of_lt hj]
    rw [List.getElem?_map, List.getElem?_range hlt, Option.map_some, hd, hm]
  · subst h1 h2
    exact hr

/-- From cells in order to a list. -/
theorem PRel.of_flat {G : Ghost} {w : World} {room : Room} {es : List PV} {b off c size : Nat} {cs : List Value} (h0 : 0 < size) (hc : es.length ≤ c) (hs : ∀ e ∈ es, e.cells.length = size) (hr : Room.ok G b off size es.length c room)
    (hcell : ∀ j u, cs[j]? = some u → j < es.length * size → w.cell? ⟨b, off + j, none⟩ = some u) (hM : ∀ o, off ≤ o → o < off + es.length * size → ¬ G.M b o)
    (hrel : ∀ (i : Nat) (e : PV) (j : Nat) (p : PV), es[i]? = some e → e.cells[j]? = some p → ∃ u, cs[i * size + j]? = some u ∧ PRel G w p u) : PRel G w (.list room es) (.slice (some ⟨b, off, none⟩) es.length c) := by
  refine .list room es _ c b off size (fun i j => (cs[i * size + j]?).getD undef) hc hr h0 (fun _ => rfl) hM (fun i e he => hs e (List.mem_of_getElem? he)) (fun i e j p he hp => ?_) fun i e j p he hp => ?_
  · obtain ⟨u, hu, _⟩ := hrel i e j p he hp
    have hi := (List.getElem?_eq_some_iff.1 he).1
    have hj := (List.getElem?_eq_some_iff.1 hp).1
    rw [hs e (List.mem_of_getElem? he)] at hj
    rw [hu]
    exact hcell _ u hu (mul_add_lt hi hj)
  · obtain ⟨u, hu, hpu⟩ := hrel i e j p he hp
    show PRel G w p ((cs[i * size + j]?).getD undef)
    rw [hu]
    exact hpu

theorem drew_def (w : World) : w.drew = { w with drawn := w.drawn + 1 } := rfl
theorem Ext.drew' (G : Ghost) (w : World) : Ext G w G w.drew :=
  ⟨rfl, rfl, rfl, Nat.le_refl _, fun _ _ _ => rfl, fun _ _ _ _ => rfl, fun _ _ _ h => h, fun _ => Nat.le_refl _, fun _ _ h _ => h⟩
theorem SimH.drew' {d : Nat} {G : Ghost} {h : PHeap} {w : World} (S : SimH d G h w) : SimH d G h w.drew where
  cnt := S.cnt
  obj k L hk := by
    obtain ⟨h1, h2, o, h3, h4⟩ := S.obj k L hk
    exact ⟨h1, h2, o, h3, h4.mono (Ext.drew' G w) rfl⟩
  live := S.live
  shut := S.shut
  glob g cs hg := (S.glob g cs hg).mono (Ext.drew' G w)
  apart := S.apart

/-- In place, wherever the row begins. -/
theorem run_append_room' {P : Program} (w : World) (t ty e : TypeId) (i : TypeInfo) (ht : P.underlying t = some (.slice e)) (hi : P.info? e = some i)
    (g o sLen sCap : Nat) (cur : Array Value) (el : TypeId) (hg : w.heap[g]? = some (.cells cur el (0, 0)))
    (a : Addr) (m c : Nat) (news : List Value) (hl : news.length = m * i.size) (hnews : ∀ j u, news[j]? = some u → w.cell? (a.add j) = some u) (h1 : ∀ u ∈ news, u.oneCell' = true)
    (hroom : sLen + m ≤ sCap) (hfit : o + sLen * i.size + news.length ≤ cur.size) :
    (Builtin.append_ #[t, t] ty #[.slice (some ⟨g, o, none⟩) sLen sCap, .slice (some a) m c]).run P w =
      .ok (.slice (some ⟨g, o, none⟩) (sLen + m) sCap) (w.setRow g (spliceP cur.toList (o + sLen * i.size) news).toArray) := by
  have hf := run_firstCells_some (P := P) w i.size m a m c news hl hnews
  have hst := run_storeCells_at P g (o + sLen * i.size) el news 0 cur w hg (by simpa using hfit) h1
  simp only [Nat.add_zero] at hst
  simp [Builtin.append_, run_underlying ht, sizeOf, typeInfo, hi, Builtin.lenOf, hroom, hf, Addr.add_lit, hst, spliceP]

theorem run_append_none {P : Program} (w : World) (t ty e : TypeId) (i : TypeInfo) (ht : P.underlying t = some (.slice e)) (hi : P.info? e = some i) (A B : Option Addr) (n c c' : Nat) (hn : n ≤ c) :
    (Builtin.append_ #[t, t] ty #[.slice A n c, .slice B 0 c']).run P w = .ok (.slice A n c) w := by
  cases A <;> cases B <;> simp [Builtin.append_, run_underlying ht, sizeOf, typeInfo, hi, Builtin.lenOf, Builtin.firstCells, loadCells, loadCellsFrom, storeCells, hn]

theorem getElem?_app_left {α : Type} {l r : List α} {i : Nat} {x : α} (h : l[i]? = some x) : (l ++ r)[i]? = some x := by
  rw [List.getElem?_append_left (List.getElem?_eq_some_iff.1 h).1]; exact h

/-- Elements and their cells, of two lists in one. -/
theorem flat_append {G G' : Ghost} {w w' : World} (E : Ext G w G' w') {es xs : List PV} {cs ds : List Value} {size : Nat} (hcs : cs.length = es.length * size) (hs : ∀ e ∈ es, e.cells.length = size)
    (h1 : ∀ (i : Nat) (e : PV) (j : Nat) (p : PV), es[i]? = some e → e.cells[j]? = some p → ∃ u, cs[i * size + j]? = some u ∧ PRel G w p u)
    (h2 : ∀ (i : Nat) (e : PV) (j : Nat) (p : PV), xs[i]? = some e → e.cells[j]? = some p → ∃ u, ds[i * size + j]? = some u ∧ PRel G w p u) :
    ∀ (i : Nat) (e : PV) (j : Nat) (p : PV), (es ++ xs)[i]? = some e → e.cells[j]? = some p → ∃ u, (cs ++ ds)[i * size + j]? = some u ∧ PRel G' w' p u := by
  intro i e j p he hp
  rcases Nat.lt_or_ge i es.length with hi | hi
  · rw [List.getElem?_append_left hi] at he
    obtain ⟨u, hu, hr⟩ := h1 i e j p he hp
    exact ⟨u, getElem?_app_left hu, hr.mono E⟩
  · rw [List.getElem?_append_right hi] at he
    obtain ⟨u, hu, hr⟩ := h2 _ e j p he hp
    refine ⟨u, ?_, hr.mono E⟩
    have : es.length * size ≤ i * size := Nat.mul_le_mul_right _ hi
    rw [List.getElem?_append_right (by omega), hcs, show i * size + j - es.length * size = (i - es.length) * size + j by rw [Nat.sub_mul]; omega]
    exact hu

section
variable {P : Program} {d : Nat} {G : Ghost} {h : PHeap} {w : World}

/-- Into a new row. -/
theorem append_new (S : SimH d G h w) {key : Key} (hk : key.1 ≤ d) (hk0 : 0 < key.1) {es xs : List PV} {olds news : List Value} {size : Nat} (h0 : 0 < size) (hol : olds.length = es.length * size) (hnl : news.length = xs.length * size)
    (hes : ∀ e ∈ es, e.cells.length = size) (hxs : ∀ e ∈ xs, e.cells.length = size)
    (h1 : ∀ (i : Nat) (e : PV) (j : Nat) (p : PV), es[i]? = some e → e.cells[j]? = some p → ∃ u, olds[i * size + j]? = some u ∧ PRel G w p u)
    (h2 : ∀ (i : Nat) (e : PV) (j : Nat) (p : PV), xs[i]? = some e → e.cells[j]? = some p → ∃ u, news[i * size + j]? = some u ∧ PRel G w p u)
    {zs : Array Value} {c : Nat} (hc : es.length + xs.length ≤ c) (hzs : zs.size = (c - (es.length + xs.length)) * size) (el : TypeId) :
    ∃ G', Ext G w G' (w.drew.alloc (.cells (olds.toArray ++ news.toArray ++ zs) el)) ∧ SimH d G' (h.set key ((h key).1 + 1, some .tok)) (w.drew.alloc (.cells (olds.toArray ++ news.toArray ++ zs) el)) ∧
      PRel G' (w.drew.alloc (.cells (olds.toArray ++ news.toArray ++ zs) el)) (.list (.tok key ((h key).1 + 1) size) (es ++ xs)) (.slice (some ⟨w.heap.size, 0, none⟩) (es.length + xs.length) c) := by
  have S' := S.drew'
  have hsize : (olds.toArray ++ news.toArray ++ zs).size = c * size := by
    simp only [Array.size_append, List.size_toArray, hol, hnl, hzs, ← Nat.add_mul]
    congr 1
    omega
  let L : Loc := ⟨w.heap.size, (es.length + xs.length) * size, 0, c * size⟩
  have hlo : (es.length + xs.length) * size ≤ c * size := Nat.mul_le_mul_right _ hc
  have hgetw : (w.drew.alloc (.cells (olds.toArray ++ news.toArray ++ zs) el)).heap[w.heap.size]? = some (.cells (olds.toArray ++ news.toArray ++ zs) el (0, 0)) := heap_alloc_new w.drew _
  have E := Ext.of_bind_new S' key (.cells (olds.toArray ++ news.toArray ++ zs) el) L rfl
  have E' := (Ext.drew' G w).trans E
  refine ⟨G.bind key L, E', S'.new hk hk0 _ L rfl .tok (.tok _ el hgetw hsize hlo), ?_⟩
  have hcnt := S.cnt key hk
  have hlen : (es ++ xs).length = es.length + xs.length := List.length_append
  have := PRel.of_flat (G := G.bind key L) (w := w.drew.alloc (.cells (olds.toArray ++ news.toArray ++ zs) el)) (room := .tok key ((h key).1 + 1) size) (es := es ++ xs) (b := w.heap.size) (off := 0) (c := c) (cs := olds ++ news) h0 (by omega) (fun e he => ?_) ⟨rfl, by simp; omega, fun _ L' hL' => ?_⟩ (fun j u hj _ => ?_) (fun o _ ho => ?_) (flat_append E' hol hes h1 h2)
  · rwa [hlen] at this
  · rcases List.mem_append.1 he with h | h
    · exact hes e h
    · exact hxs e h
  · simp at hL'
    subst hL'
    exact ⟨rfl, rfl, by simp only [L]; rw [hlen]; omega, by simp only [L]; omega⟩
  · unfold World.cell?
    rw [hgetw]
    have : (olds.toArray ++ news.toArray ++ zs)[j]? = some u := by
      rw [← Array.getElem?_toList]
      simp only [Array.toList_append, List.append_assoc]
      rw [← List.append_assoc]
      exact getElem?_app_left hj
    simpa using this
  · rintro ⟨q, Q, hQ, h3, h4⟩
    by_cases e : q = key
    · subst e
      simp at hQ
      subst hQ
      simp only [L] at h4
      rw [hlen] at ho
      omega
    · rw [Ghost.bind_loc_ne _ _ e] at hQ
      have := (S.obj q Q hQ).2.1
      omega

theorem append_sound (S : SimH d G h w) {key : Key} (hk : key.1 ≤ d) (hk0 : 0 < key.1) {t e ty : TypeId} {size bytes : Nat} {zz : List PV} {by0 sz0 : Nat} {zt : Option (List PV)} (ht : tinfo P t = some ⟨.slice e, sz0, by0, zt⟩) {ke : TK} (hi : tinfo P e = some ⟨ke, size, bytes, some zz⟩)
    (hzz : zz.length = size) (h0 : 0 < size) {room r2 : Room} {es xs : List PV} {s x : Value} (hs : PRel G w (.list room es) s) (hx : PRel G w (.list r2 xs) x) (hes : ∀ e ∈ es, e.cells.length = size) (hxs : ∀ e ∈ xs, e.cells.length = size ∧ e.cells.all PV.one = true)
    (hr : xs ≠ [] → roomP h size es room = true) (hk1 : ∀ k ver sz, room = .tok k ver sz → 0 < k.1) (h63 : es.length + xs.length ≤ 9223372036854775807) (hby : (es.length + xs.length) * bytes ≤ 140737488355328) :
    ∃ v' w' G', (Builtin.append_ #[t, t] ty #[s, x]).run P w = .ok v' w' ∧ Ext G w G' w' ∧ SimH d G' (appP h key size room es xs).2 w' ∧ PRel G' w' (appP h key size room es xs).1 v' := by
  obtain ⟨ti, td, hti, htd, heq⟩ := tinfo_parts ht
  obtain ⟨ei, ed, hei, hed, heq2⟩ := tinfo_parts hi
  simp only [TI.mk.injEq] at heq heq2
  obtain ⟨hk2, _⟩ := heq
  obtain ⟨_, hsz, hbs, hzer⟩ := heq2
  have htd' : P.underlying t = some (.slice e) := by rw [htd, tkind_slice hk2.symm]
  obtain ⟨z, hz, hzc⟩ := Option.map_eq_some_iff.1 hzer.symm
  have hzsize : z.cells.size = size := by rw [← hzz, ← hzc]; simp
  have hxs' : ∀ e ∈ xs, e.cells.length = size := fun e he => (hxs e he).1
  obtain ⟨A, n, c, rfl⟩ : ∃ A n c, s = .slice A n c := by cases hs; exact ⟨_, _, _, rfl⟩
  obtain ⟨B, m, c2, rfl⟩ : ∃ A n c, x = .slice A n c := by cases hx; exact ⟨_, _, _, rfl⟩
  obtain ⟨rfl, hnc, olds, hol, hoa, hor, hof⟩ := hs.flat hes h0
  obtain ⟨rfl, hmc, news, hnl, hna, hnr, _⟩ := hx.flat hxs' h0
  by_cases hxe : xs = []
  · subst hxe
    refine ⟨_, w, G, run_append_none w t ty e ei htd' hei A B _ c c2 hnc, Ext.refl G w, ?_, ?_⟩
    · simpa [appP] using S
    · simpa [appP] using hs
  have hemp : xs.isEmpty = false := by simpa using hxe
  obtain ⟨b2, o2, rfl, hnews, hnM, _⟩ := hna hxe
  have hm0 : 0 < xs.length := List.length_pos_iff.2 hxe
  have hone : ∀ u ∈ news, u.oneCell' = true := by
    intro u hu
    obtain ⟨q, hq, rfl⟩ := List.getElem_of_mem hu
    have hiq : q / size < xs.length := Nat.div_lt_of_lt_mul (by rw [Nat.mul_comm, ← hnl]; exact hq)
    have hjq : q % size < size := Nat.mod_lt _ h0
    have hmem := List.getElem_mem hiq
    have hjq' : q % size < (xs[q / size].cells).length := by rw [hxs' _ hmem]; exact hjq
    obtain ⟨u', hu', hru⟩ := hnr (q / size) _ (q % size) _ (List.getElem?_eq_getElem hiq) (List.getElem?_eq_getElem hjq')
    rw [show q / size * size + q % size = q by rw [Nat.mul_comm]; exact Nat.div_add_mod q size, List.getElem?_eq_getElem hq] at hu'
    cases hu'
    exact hru.oneCell (List.all_eq_true.1 (hxs _ hmem).2 _ (List.getElem_mem hjq'))
  have happ : appP h key size room es xs = (.list (appRoom h key size room) (es ++ xs), appH h key room) := by simp [appP, hemp]
  rw [happ]
  have hnl' : news.length = xs.length * ei.size := by rw [← hsz]; exact hnl
  have hol' : olds.length = es.length * ei.size := by rw [← hsz]; exact hol
  have hadd : ∀ j u, news[j]? = some u → w.cell? ((⟨b2, o2, none⟩ : Addr).add j) = some u := fun j u hu => by rw [Addr.add_lit]; exact hnews j u hu
  have hr' := hr hxe
  have hby' : (es.length + xs.length) * ei.bytes ≤ 140737488355328 := by rw [← hbs]; exact hby
  -- into a new row, whatever the old capacity
  have grow : ∀ (S1h : PHeap) (G1 : Ghost), Ext G w G1 w → SimH d G1 S1h w → c < es.length + xs.length → ∃ v' w' G', (Builtin.append_ #[t, t] ty #[.slice A es.length c, .slice (some ⟨b2, o2, none⟩) xs.length c2]).run P w = .ok v' w' ∧ Ext G w G' w' ∧ SimH d G' (S1h.set key ((S1h key).1 + 1, some .tok)) w' ∧ PRel G' w' (.list (.tok key ((S1h key).1 + 1) size) (es ++ xs)) v' := by
    intro S1h G1 E1 S1 hlt
    have hge := grownCap_ge w (es.length + xs.length) c e
    have hzc2 : (Builtin.zeroCells z.cells (grownCap w (es.length + xs.length) c e - (es.length + xs.length))).size = (grownCap w (es.length + xs.length) c e - (es.length + xs.length)) * size := by rw [size_zeroCells, hzsize]
    obtain ⟨G', E', S', R'⟩ := append_new S1 hk hk0 h0 hol hnl hes hxs' (fun i e j p a b => by obtain ⟨u, h1, h2⟩ := hor i e j p a b; exact ⟨u, h1, h2.mono E1⟩) (fun i e j p a b => by obtain ⟨u, h1, h2⟩ := hnr i e j p a b; exact ⟨u, h1, h2.mono E1⟩) hge hzc2 e
    by_cases hee : es = []
    · subst hee
      cases A with
      | none =>
        have hc0 : c = 0 := by
          cases hs with
          | list _ _ _ _ b off sz vs hc hr0 hsz hA hM hes hcell hrel =>
          cases room with
          | any => simp [roomP] at hr'
          | full => exact hr0
          | tok k ver sz => simp [roomP] at hr'
        subst hc0
        have hrun := run_append_nil (P := P) w t ty e ei z htd' hei hz ⟨b2, o2, none⟩ xs.length c2 news hnl' hadd hm0 (by simp at h63; omega) (by simp at hby'; omega)
        have hon : olds = [] := List.eq_nil_of_length_eq_zero (by simpa using hol)
        subst hon
        simp only [List.length_nil, Nat.zero_add, Array.empty_append] at hrun E' S' R' ⊢
        exact ⟨_, _, G', hrun, E1.trans E', S', R'⟩
      | some a =>
        have hon : olds = [] := List.eq_nil_of_length_eq_zero (by simpa using hol)
        subst hon
        have hrun := run_append_grow (P := P) w t ty e ei z htd' hei hz a 0 c [] (by simp) (by simp) ⟨b2, o2, none⟩ xs.length c2 news hnl' hadd (by simpa using hlt) (by simp at h63 ⊢; omega) (growslice_fits (by simpa using hlt) (by simpa using hby'))
        simp only [List.length_nil, Nat.zero_add] at hrun E' S' R' ⊢
        exact ⟨_, _, G', hrun, E1.trans E', S', R'⟩
    · obtain ⟨b, off, rfl, hcell, hM, hrm⟩ := hoa hee
      have hrun := run_append_grow (P := P) w t ty e ei z htd' hei hz ⟨b, off, none⟩ es.length c olds hol' (fun j u hu => by rw [Addr.add_lit]; exact hcell j u hu) ⟨b2, o2, none⟩ xs.length c2 news hnl' hadd hlt (by omega) (growslice_fits hlt hby')
      exact ⟨_, _, G', hrun, E1.trans E', S', R'⟩
  cases room with
  | any => simp [roomP] at hr'
  | full =>
    have hcn : c < es.length + xs.length := by
      cases hs with
      | list _ _ _ _ b off sz vs hc hr0 hsz hA hM hes hcell hrel =>
      simp only [Room.ok] at hr0
      omega
    exact grow h G (Ext.refl G w) S hcn
  | tok k ver sz =>
    simp only [roomP, Bool.and_eq_true, beq_iff_eq, Bool.not_eq_true', List.isEmpty_eq_false_iff] at hr'
    obtain ⟨⟨hv, rfl⟩, hee⟩ := hr'
    obtain ⟨hk3, hv⟩ : (h k).2 = some .tok ∧ (h k).1 = ver := by
      split at hv
      · rename_i v hkv
        rw [hkv]
        exact ⟨rfl, by simpa using hv⟩
      · cases hv
    have hkv : h k = (ver, some .tok) := by rw [← hk3, ← hv]
    obtain ⟨L, hL, hcn, hb, hO⟩ := S.at hkv
    obtain ⟨b, off, rfl, hcell, hM, hrm⟩ := hoa hee
    obtain ⟨_, _, hrm⟩ := hrm
    obtain ⟨rfl, rfl, hlo, hcap⟩ := hrm hcn L hL
    have hk1' := hk1 k ver sz rfl
    have hkd := (S.obj k L hL).1
    by_cases hroom : es.length + xs.length ≤ c
    · cases hO with
      | tok cur el hh hcs hlo2 =>
      have hmul : (es.length + xs.length) * sz ≤ c * sz := Nat.mul_le_mul_right _ hroom
      rw [Nat.add_mul] at hmul
      have hfit : L.base + es.length * sz + news.length ≤ cur.size := by rw [hcs, hnl]; omega
      have hrun := run_append_room' (P := P) w t ty e ei htd' hei L.b L.base es.length c cur el hh ⟨b2, o2, none⟩ xs.length c2 news hnl' hadd hone hroom (by rw [← hsz]; exact hfit)
      rw [← hsz] at hrun
      let L' : Loc := ⟨L.b, L.base + (es.length + xs.length) * sz, L.base, L.size⟩
      have hsp : (spliceP cur.toList (L.base + es.length * sz) news).length = cur.size := by rw [spliceP_length _ _ _ (by simpa using hfit)]; simp
      have hold : ∀ o, o < L.lo → (w.setRow L.b (spliceP cur.toList (L.base + es.length * sz) news).toArray).cell? ⟨L.b, o, none⟩ = w.cell? ⟨L.b, o, none⟩ := by
        intro o ho
        unfold World.cell?
        rw [setRow_at hh, hh]
        have : (spliceP cur.toList (L.base + es.length * sz) news)[o]? = cur[o]? := by
          rw [spliceP_get _ _ _ (by simpa using hfit), if_pos (by omega), Array.getElem?_toList]
        simp [this]
      obtain ⟨E, S'⟩ := S.regrow (w' := w.setRow L.b (spliceP cur.toList (L.base + es.length * sz) news).toArray) (L' := L') (po := .tok) hL hk hk0 hk1' (Only.setRow w L.b _) hold rfl (by simp only [L']; rw [hlo, Nat.add_mul]; omega)
        (.tok _ el (setRow_at hh _) (by simp only [List.size_toArray]; rw [hsp]; exact hcs) (by simp only [L']; rw [Nat.add_mul]; omega))
      refine ⟨_, _, _, hrun, E, S', ?_⟩
      have hlen : (es ++ xs).length = es.length + xs.length := List.length_append
      have := PRel.of_flat (G := (G.drop k).bind key L') (w := w.setRow L.b (spliceP cur.toList (L.base + es.length * sz) news).toArray) (room := appRoom h key sz (.tok k ver sz)) (es := es ++ xs) (b := L.b) (off := L.base) (c := c) (cs := olds ++ news) h0 (by omega) (fun e he => ?_) ⟨rfl, ?_, fun _ Q hQ => ?_⟩ (fun j u hj hj2 => ?_) (fun o h3 h4 => ?_) (flat_append E hol hes hor hnr)
      · rwa [hlen] at this
      · rcases List.mem_append.1 he with h | h
        · exact hes e h
        · exact hxs' e h
      · rw [Ghost.bind_cnt_self, ← (S.drop hkd hk1').cnt key hk]
        exact Nat.le_refl _
      · simp at hQ
        subst hQ
        exact ⟨rfl, rfl, by simp only [L']; rw [hlen], by simp only [L']; exact hcap⟩
      · unfold World.cell?
        rw [setRow_at hh]
        have hnl2 := hnl
        have : (spliceP cur.toList (L.base + es.length * sz) news)[L.base + j]? = some u := by
          rw [spliceP_get _ _ _ (by simpa using hfit)]
          rcases Nat.lt_or_ge j (es.length * sz) with hjl | hjl
          · rw [if_pos (by omega)]
            have h5 := List.getElem?_append_left (l₁ := olds) (l₂ := news) (i := j) (by omega)
            rw [h5] at hj
            have h6 := hcell j u hj
            unfold World.cell? at h6
            rw [hh] at h6
            simpa using h6
          · rw [List.getElem?_append_right (by omega)] at hj
            have hjn := (List.getElem?_eq_some_iff.1 hj).1
            rw [if_neg (by omega), if_pos (by omega), show L.base + j - (L.base + es.length * sz) = j - olds.length by omega]
            exact hj
        simp [this]
      · rintro ⟨q, Q, hQ, h5, h6⟩
        by_cases e : q = key
        · subst e
          simp at hQ
          subst hQ
          simp only [L'] at h6
          rw [hlen] at h4
          omega
        · rw [Ghost.bind_loc_ne _ _ e] at hQ
          simp only [Ghost.drop] at hQ
          split at hQ
          · cases hQ
          · rename_i e2
            exact S.apart q k Q L hQ hL e2 h5
    · exact grow _ _ (Ext.drop G w k) (S.drop hkd hk1') (by omega)
end
end Go.Fh
