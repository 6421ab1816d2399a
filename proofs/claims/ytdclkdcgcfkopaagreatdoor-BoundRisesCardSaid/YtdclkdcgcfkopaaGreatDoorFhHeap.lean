/- New objects, and objects that are written. -/
import Derived.Test.YtdclkdcgcfkopaaGreatDoorFhBase
import Derived.Below
set_option linter.all false
namespace Go.Fh
open Go.RowKit

def Ghost.bind (G : Ghost) (k : Key) (L : Loc) : Ghost := { loc := fun q => if q = k then some L else G.loc q, cnt := fun q => if q = k then G.cnt k + 1 else G.cnt q }
/-- A key whose object is given up. -/
def Ghost.drop (G : Ghost) (k : Key) : Ghost := { loc := fun q => if q = k then none else G.loc q, cnt := fun q => if q = k then G.cnt k + 1 else G.cnt q }

@[simp] theorem Ghost.bind_loc_self (G : Ghost) (k : Key) (L : Loc) : (G.bind k L).loc k = some L := by simp [Ghost.bind]
@[simp] theorem Ghost.bind_cnt_self (G : Ghost) (k : Key) (L : Loc) : (G.bind k L).cnt k = G.cnt k + 1 := by simp [Ghost.bind]
theorem Ghost.bind_loc_ne (G : Ghost) {k q : Key} (L : Loc) (h : q ≠ k) : (G.bind k L).loc q = G.loc q := by simp [Ghost.bind, h]
theorem Ghost.bind_cnt_ne (G : Ghost) {k q : Key} (L : Loc) (h : q ≠ k) : (G.bind k L).cnt q = G.cnt q := by simp [Ghost.bind, h]
@[simp] theorem PHeap.set_self (h : PHeap) (k : Key) (x : Nat × Option PObj) : (h.set k x) k = x := by simp [PHeap.set]
theorem PHeap.set_ne (h : PHeap) {k q : Key} (x : Nat × Option PObj) (hn : q ≠ k) : (h.set k x) q = h q := by simp [PHeap.set, hn]

theorem SimH.lt {d : Nat} {G : Ghost} {h : PHeap} {w : World} (S : SimH d G h w) {b o : Nat} (hm : G.M b o) : b < w.heap.size := by
  obtain ⟨k, L, hk, rfl, _⟩ := hm
  exact (S.obj k L hk).2.1

theorem Ext.of_bind_new {d : Nat} {G : Ghost} {h : PHeap} {w : World} (S : SimH d G h w) (k : Key) (o : Obj) (L : Loc) (hL : L.b = w.heap.size) : Ext G w (G.bind k L) (w.alloc o) where
  os := rfl
  output := rfl
  tape := rfl
  size := by simp
  block b hb hm := Below.heap_alloc w o b hb
  cell b o' hb hm := cell_eq (Below.heap_alloc w o b hb)
  keep b o' hb hm := by
    rintro ⟨q, L', hq, hb', hl⟩
    by_cases e : q = k
    · subst e
      simp at hq
      subst hq
      omega
    · rw [Ghost.bind_loc_ne _ _ e] at hq
      exact hm ⟨q, L', hq, hb', hl⟩
  cnt q := by
    by_cases e : q = k
    · subst e; simp
    · rw [Ghost.bind_cnt_ne _ _ e]; exact Nat.le_refl _
  loc q L' hq hc := by
    by_cases e : q = k
    · subst e; simp at hc
    · rwa [Ghost.bind_loc_ne _ _ e] at hq

/-- A new object, in a new block. -/
theorem SimH.new {d : Nat} {G : Ghost} {h : PHeap} {w : World} (S : SimH d G h w) {k : Key} (hk : k.1 ≤ d) (hk0 : 0 < k.1) (o : Obj) (L : Loc) (hL : L.b = w.heap.size) (po : PObj)
    (hr : ORel (G.bind k L) (w.alloc o) L po) : SimH d (G.bind k L) (h.set k ((h k).1 + 1, some po)) (w.alloc o) where
  cnt q hq := by
    by_cases e : q = k
    · subst e; simp [S.cnt q hq]
    · rw [PHeap.set_ne _ _ e, Ghost.bind_cnt_ne _ _ e]; exact S.cnt q hq
  obj q L' hq := by
    by_cases e : q = k
    · subst e
      simp at hq
      subst hq
      exact ⟨hk, by simp; omega, po, by simp, hr⟩
    · rw [Ghost.bind_loc_ne _ _ e] at hq
      obtain ⟨h1, h2, o', h3, h4⟩ := S.obj q L' hq
      exact ⟨h1, by simp; omega, o', by rw [PHeap.set_ne _ _ e]; exact h3, h4.mono (Ext.of_bind_new S k o L hL) (Below.heap_alloc w o _ h2)⟩
  live q o' ho hc := by
    by_cases e : q = k
    · subst e; exact ⟨L, by simp⟩
    · rw [PHeap.set_ne _ _ e] at ho
      rw [Ghost.bind_loc_ne _ _ e]
      exact S.live q o' ho hc
  shut q hq := by
    rw [PHeap.set_ne _ _ (by intro e; subst e; omega)]
    exact S.shut q hq
  glob g cs hg := by
    rw [PHeap.set_ne _ _ (by intro e; subst e; exact Nat.lt_irrefl _ hk0)] at hg
    exact (S.glob g cs hg).mono (Ext.of_bind_new S k o L hL)
  apart q q' L1 L2 h1 h2 hne := by
    by_cases e : q = k
    · subst e
      simp at h1
      subst h1
      rw [Ghost.bind_loc_ne _ _ (Ne.symm hne)] at h2
      have := (S.obj q' L2 h2).2.1
      omega
    · by_cases e' : q' = k
      · subst e'
        simp at h2
        subst h2
        rw [Ghost.bind_loc_ne _ _ e] at h1
        have := (S.obj q L1 h1).2.1
        omega
      · rw [Ghost.bind_loc_ne _ _ e] at h1
        rw [Ghost.bind_loc_ne _ _ e'] at h2
        exact S.apart q q' L1 L2 h1 h2 hne

/-- The world but for one block. -/
structure Only (b : Nat) (w w' : World) : Prop where
  os : w'.os = w.os
  output : w'.output = w.output
  tape : w'.tape = w.tape
  size : w'.heap.size = w.heap.size
  other : ∀ b', b' ≠ b → w'.heap[b']? = w.heap[b']?

theorem Only.setRow (w : World) (b : Nat) (cs : Array Value) : Only b w (w.setRow b cs) :=
  ⟨rfl, rfl, rfl, by simp [World.setRow], fun b' hb => by simp only [World.setRow, Array.getElem?_modify]; rw [if_neg (by omega)]⟩

theorem Ext.of_only {d : Nat} {G : Ghost} {h : PHeap} {w w' : World} (S : SimH d G h w) {k : Key} {L : Loc} (hk : G.loc k = some L) (hlo : L.lo = 0) (O : Only L.b w w') : Ext G w G w' where
  os := O.os
  output := O.output
  tape := O.tape
  size := by rw [O.size]; exact Nat.le_refl _
  block b hb hm := O.other b fun e => hm 0 ⟨k, L, hk, e.symm, by omega⟩
  cell b o hb hm := cell_eq (O.other b fun e => hm ⟨k, L, hk, e.symm, by omega⟩)
  keep b o hb hm := hm
  cnt q := Nat.le_refl _
  loc q L' hq _ := hq

/-- An object that is written. -/
theorem SimH.upd {d : Nat} {G : Ghost} {h : PHeap} {w w' : World} (S : SimH d G h w) {k : Key} {L : Loc} (hk : G.loc k = some L) (hlo : L.lo = 0) (O : Only L.b w w') {po : PObj}
    (hr : ORel G w' L po) : SimH d G (h.set k ((h k).1, some po)) w' where
  cnt q hq := by
    by_cases e : q = k
    · subst e; simp [S.cnt q hq]
    · rw [PHeap.set_ne _ _ e]; exact S.cnt q hq
  obj q L' hq := by
    by_cases e : q = k
    · subst e
      rw [hk] at hq
      cases hq
      obtain ⟨h1, h2, _⟩ := S.obj q L hk
      exact ⟨h1, by rw [O.size]; exact h2, po, by simp, hr⟩
    · obtain ⟨h1, h2, o', h3, h4⟩ := S.obj q L' hq
      exact ⟨h1, by rw [O.size]; exact h2, o', by rw [PHeap.set_ne _ _ e]; exact h3, h4.mono (Ext.of_only S hk hlo O) (O.other _ (S.apart q k L' L hq hk e))⟩
  live q o' ho hc := by
    by_cases e : q = k
    · subst e; exact ⟨L, hk⟩
    · rw [PHeap.set_ne _ _ e] at ho
      exact S.live q o' ho hc
  shut q hq := by
    rw [PHeap.set_ne _ _ (by intro e; subst e; have := (S.obj q L hk).1; omega)]
    exact S.shut q hq
  glob g cs hg := by
    by_cases e : (0, g) = k
    · subst e
      simp at hg
      subst hg
      cases hr
    · rw [PHeap.set_ne _ _ e] at hg
      exact (S.glob g cs hg).mono (Ext.of_only S hk hlo O)
  apart := S.apart

/-- A live key: where it lies, and what is there. -/
theorem SimH.at {d : Nat} {G : Ghost} {h : PHeap} {w : World} (S : SimH d G h w) {k : Key} {ver : Nat} {o : PObj} (he : h k = (ver, some o)) (ho : o.isConst = false := by rfl) :
    ∃ L, G.loc k = some L ∧ ver = G.cnt k ∧ L.b < w.heap.size ∧ ORel G w L o := by
  obtain ⟨L, hL⟩ := S.live k o (by rw [he]) ho
  obtain ⟨hk, h2, o', h3, h4⟩ := S.obj k L hL
  rw [he] at h3
  cases h3
  exact ⟨L, hL, by have := S.cnt k hk; rw [he] at this; exact this, h2, h4⟩
end Go.Fh
