/- Contracts of the library's functions, as specifications over pure values. -/
import Derived.Test.YtdclkdcgcfkopaaGreatDoorFhDrawGo
import Derived.Lib.SplitLaws
import Derived.Lib.IndexAny
import Derived.Lib.AtoiAll
import Derived.Lib.ItoaNum
import Derived.Lib.Join
import Derived.Lib.ConvBytes
import Derived.Lib.LaidTab
import Derived.Sort.Grow
import Derived.Deep.Draws
set_option linter.all false
namespace Go.Fh
open Go.RowKit

theorem Ext.of_below (G : Ghost) {w w' : World} (h : Below w.heap.size w w') : Ext G w G w' :=
  ⟨h.os, h.output, h.tape, h.size, fun b hb _ => h.block b hb, fun b o hb _ => cell_eq (h.block b hb), fun _ _ _ h => h, fun _ => Nat.le_refl _, fun _ _ h _ => h⟩
theorem SimH.below {d : Nat} {G : Ghost} {h : PHeap} {w w' : World} (S : SimH d G h w) (hb : Below w.heap.size w w') : SimH d G h w' where
  cnt := S.cnt
  obj k L hk := by
    obtain ⟨h1, h2, o, h3, h4⟩ := S.obj k L hk
    exact ⟨h1, Nat.lt_of_lt_of_le h2 hb.size, o, h3, h4.mono (Ext.of_below G hb) (hb.block _ h2)⟩
  live := S.live
  shut := S.shut
  glob g cs hg := (S.glob g cs hg).mono (Ext.of_below G hb)
  apart := S.apart

/-- A function that leaves all old blocks alone. -/
theorem FnRet.of_below {P : Program} {d : Nat} {f : FuncId} {args : List PV} {h : PHeap} {r : PV} (en : Into P f) (hc : ∀ G w vs, SimH d G h w → PRels G w args vs → Calls P f vs w fun e w' => Below w.heap.size w w' ∧ ∃ v, e = .returned v ∧ PRel G w' r v) : FnRet P d f args h r :=
  ⟨en, fun G w vs S R => (hc G w vs S R).mono fun e w' ⟨hb, v, he, hr⟩ => ⟨.ret r, G, h, Ext.of_below G hb, S.below hb, by rw [he]; exact .ret r v hr, rfl, rfl⟩⟩

theorem PRels.of1 {G : Ghost} {w : World} {p : PV} {vs : Array Value} (h : PRels G w [p] vs) : ∃ v, vs = #[v] ∧ PRel G w p v := by
  obtain ⟨v, hv, hp⟩ := h.get (i := 0) rfl
  have h1 := h.1
  refine ⟨v, ?_, hp⟩
  apply Array.ext
  · simpa using h1.symm
  · intro i h2 h3
    have : i = 0 := by simp at h3; omega
    subst this
    obtain ⟨_, h4⟩ := Array.getElem?_eq_some_iff.1 hv
    simpa using h4
theorem PRels.of2 {G : Ghost} {w : World} {p q : PV} {vs : Array Value} (h : PRels G w [p, q] vs) : ∃ u v, vs = #[u, v] ∧ PRel G w p u ∧ PRel G w q v := by
  obtain ⟨u, hu, hp⟩ := h.get (i := 0) rfl
  obtain ⟨v, hv, hq⟩ := h.get (i := 1) rfl
  have h1 := h.1
  refine ⟨u, v, ?_, hp, hq⟩
  apply Array.ext
  · simpa using h1.symm
  · intro i h2 h3
    obtain ⟨_, h4⟩ := Array.getElem?_eq_some_iff.1 hu
    obtain ⟨_, h5⟩ := Array.getElem?_eq_some_iff.1 hv
    match i with
    | 0 => simpa using h4
    | 1 => simpa using h5
    | i + 2 => simp at h3; omega
theorem PRel.str_inv {G : Ghost} {w : World} {s : Str} {v : Value} (h : PRel G w (.str s) v) : v = .string (mkStr s) := by cases h; rfl
theorem PRel.int_inv {G : Ghost} {w : World} {k : IntKind} {n : Int} {v : Value} (h : PRel G w (.int k n) v) : v = .int k n := by cases h; rfl
theorem PRels.str2 {G : Ghost} {w : World} {s t : Str} {vs : Array Value} (h : PRels G w [.str s, .str t] vs) : vs = #[.string (mkStr s), .string (mkStr t)] := by
  obtain ⟨u, v, rfl, h1, h2⟩ := h.of2
  rw [h1.str_inv, h2.str_inv]
theorem PRels.str1 {G : Ghost} {w : World} {s : Str} {vs : Array Value} (h : PRels G w [.str s] vs) : vs = #[.string (mkStr s)] := by
  obtain ⟨u, rfl, h1⟩ := h.of1
  rw [h1.str_inv]
theorem PRels.int1 {G : Ghost} {w : World} {k : IntKind} {n : Int} {vs : Array Value} (h : PRels G w [.int k n] vs) : vs = #[.int k n] := by
  obtain ⟨u, rfl, h1⟩ := h.of1
  rw [h1.int_inv]
@[simp] theorem mkStr_dataList (s : Str) : (mkStr s).data.toList = s := rfl
theorem mkStr_eq (s : Str) : (⟨s.toArray⟩ : ByteArray) = mkStr s := rfl

/-- What a variable of the package holds. -/
theorem SimH.var {d : Nat} {G : Ghost} {h : PHeap} {w : World} (S : SimH d G h w) {g : Nat} {cs : List PV} (hg : (h (0, g)).2 = some (.const cs)) {j : Nat} {p : PV} (hj : cs[j]? = some p) : ∃ v, w.cell? ⟨g, j, none⟩ = some v ∧ PRel G w p v := by
  have := (S.glob g cs hg).rel
  cases this with
  | iptr _ _ _ vs hM hcell hrel => exact ⟨vs j, by simpa using hcell j p hj, hrel j p hj⟩

/-- The same, by its name. -/
theorem SimH.named {P : Program} {d : Nat} {G : Ghost} {h : PHeap} {w : World} (S : SimH d G h w) {g : Nat} {name : String} (hn : P.globalNamed name = some g) {k : IntKind} {zs : List Int} (hg : (h (0, g)).2 = some (.const (zs.map (.int k)))) : Lib.TabIs P w name k zs := by
  obtain ⟨vs, el, fr, hh, hs⟩ := (S.glob g _ hg).all
  unfold Lib.TabIs World.var?
  rw [hn]
  simp only [Option.bind_some, hh, Option.some.injEq]
  apply Array.ext
  · simpa using hs
  · intro i h1 h2
    have hi : i < zs.length := by simpa using h2
    obtain ⟨v, hv, hp⟩ := S.var hg (j := i) (p := .int k zs[i]) (by simp [hi])
    rw [hp.int_inv] at hv
    unfold World.cell? at hv
    rw [hh] at hv
    simp [h1] at hv
    simpa using hv

/-- A row of texts that a call has just made. -/
theorem PRel.newStrs {d : Nat} {G : Ghost} {h : PHeap} {w : World} (S : SimH d G h w) (ss : List Str) (t : TypeId) (n : Nat) (hn : n = ss.length) :
    PRel G (w.alloc (.cells ((ss.map fun s => Value.string (mkStr s))).toArray t)) (.list .full (ss.map .str)) (.slice (some ⟨w.heap.size, 0, none⟩) n n) := by
  subst hn
  have hh : (w.alloc (.cells ((ss.map fun s => Value.string (mkStr s))).toArray t)).heap[w.heap.size]? = some (.cells ((ss.map fun s => Value.string (mkStr s))).toArray t (0, 0)) := heap_alloc_new w _
  have := PRel.of_flat (G := G) (w := w.alloc (.cells ((ss.map fun s => Value.string (mkStr s))).toArray t)) (room := .full) (es := ss.map .str) (b := w.heap.size) (off := 0) (c := ss.length) (size := 1) (cs := ss.map fun s => Value.string (mkStr s)) (by omega) (by simp) (fun e he => ?_) (by simp [Room.ok]) (fun j u hj _ => ?_) (fun o _ _ hm => ?_) (fun i e j p he hp => ?_)
  · simpa using this
  · obtain ⟨s, _, rfl⟩ := List.mem_map.1 he
    rfl
  · unfold World.cell?
    rw [hh]
    simpa using hj
  · exact Nat.lt_irrefl _ (S.lt hm)
  · rw [List.getElem?_map, Option.map_eq_some_iff] at he
    obtain ⟨s, hs, rfl⟩ := he
    cases j with
    | succ j => simp [PV.cells] at hp
    | zero =>
      simp [PV.cells] at hp
      subst hp
      exact ⟨.string (mkStr s), by simp [hs], .str s⟩

theorem below_bytesWorld (w : World) (e : TypeId) (s : ByteArray) : Below w.heap.size w (Lib.bytesWorld w e s) :=
  ⟨rfl, rfl, rfl, by rw [Lib.bytesWorld_size]; omega, fun k hk => Lib.bytesWorld_at_old w e s k hk⟩
theorem below_grow (w : World) (k : Nat) (os : Array Obj) : Below w.heap.size w (Go.Sort.grow (w.drewN k) os) :=
  ⟨rfl, rfl, rfl, by simp [Go.Sort.grow, World.drewN], fun i hi => by simp [Go.Sort.grow, World.drewN, Array.getElem?_append, hi]⟩
theorem below_drewN (w : World) (k : Nat) : Below w.heap.size w (w.drewN k) := ⟨rfl, rfl, rfl, Nat.le_refl _, fun _ _ => rfl⟩
theorem below_alloc (w : World) (o : Obj) : Below w.heap.size w (w.alloc o) := (Below.refl _ w).alloc (Nat.le_refl _) o

/-- The texts that a list of bytes is. -/
theorem splitB_strs (sep : ByteArray) (save k : Nat) (s : ByteArray) : (Lib.splitB sep save k s).map Value.string = (Lib.splitK sep.data.toList save k s.data.toList).map fun x => Value.string (mkStr x) := by
  rw [← Lib.splitB_data, List.map_map]
  rfl
theorem PRel.strs_at {G : Ghost} {w : World} {room : Room} {ss : List Str} {v : Value} (h : PRel G w (.list room (ss.map .str)) v) : ∃ A c, v = .slice A ss.length c ∧ ss.length ≤ c ∧ (ss ≠ [] → ∃ b o, A = some ⟨b, o, none⟩ ∧ b < w.heap.size ∧ ∀ (j : Nat) (x : ByteArray), (ss.map mkStr)[j]? = some x → w.cell? ⟨b, o + j, none⟩ = some (.string x)) := by
  obtain ⟨A, n, c, rfl⟩ : ∃ A n c, v = .slice A n c := by cases h; exact ⟨_, _, _, rfl⟩
  obtain ⟨hn, hc, cs, hcl, hne, hrel, _⟩ := h.flat (size := 1) (fun e he => by obtain ⟨s, _, rfl⟩ := List.mem_map.1 he; rfl) (by omega)
  simp only [List.length_map] at hn
  subst hn
  refine ⟨A, c, rfl, hc, fun h0 => ?_⟩
  obtain ⟨b, o, rfl, hcell, _, _⟩ := hne (by simpa using h0)
  have hat : ∀ (j : Nat) (x : ByteArray), (ss.map mkStr)[j]? = some x → w.cell? ⟨b, o + j, none⟩ = some (.string x) := by
    intro j x hx
    rw [List.getElem?_map, Option.map_eq_some_iff] at hx
    obtain ⟨s, hs, rfl⟩ := hx
    obtain ⟨u, hu, hp⟩ := hrel j (.str s) 0 (.str s) (by simp [hs]) rfl
    rw [hp.str_inv] at hu
    exact hcell j _ (by simpa using hu)
  refine ⟨b, o, rfl, ?_, hat⟩
  obtain ⟨s, hs⟩ : ∃ s, ss[0]? = some s := by
    cases ss with
    | nil => exact absurd rfl h0
    | cons s ss => exact ⟨s, rfl⟩
  exact cell_block (hat 0 (mkStr s) (by simp [hs]))
end Go.Fh
