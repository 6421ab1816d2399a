/- Pure values, and when a machine's value in a world is one. -/
import Derived.Tactics
import Derived.WalkKit
set_option linter.all false
namespace Go.Fh

abbrev Str := List UInt8
/-- A variable's name at the level of pure values: the depth of the call that made it, and the temporary that it was made for. -/
abbrev Key := Nat × Nat

/-- What is known of a slice's capacity: nothing, that it is its length, or that whoever holds the key may append in place. -/
inductive Room where
  | any
  | full
  | tok (k : Key) (ver sz : Nat)
  deriving DecidableEq

inductive PV where
  | dead
  | int (k : IntKind) (n : Int)
  | bool (b : Bool)
  | str (s : List UInt8)
  | agg (cs : List PV)
  | tuple (vs : List PV)
  | list (room : Room) (es : List PV)
  | row (k : Key) (ver sz off len : Nat) (cap : Option Nat)
  | iptr (cs : List PV)
  | ptr (k : Key) (ver off : Nat)
  | eptr (k : Key) (ver sz idx fo : Nat)
  | nilptr
  | fn (f : Fn) (first captured : List PV)
  | nilfn
  | iface (t : TypeId) (v : PV)
  | niliface
  | mapr (k : Key) (ver : Nat)
  | chanr (k : Key) (ver : Nat)
  | iter (k : Key) (ver : Nat)
  deriving Inhabited

def PV.cells : PV → List PV
  | .agg cs => cs
  | v => [v]
/-- A value that a cell holds. -/
def PV.one : PV → Bool
  | .dead | .agg _ | .tuple _ => false
  | _ => true
/-- A value of which is known how many cells it has. -/
def PV.solid : PV → Bool
  | .dead | .tuple _ => false
  | _ => true

structure Loc where
  b : Nat
  lo : Nat
  base : Nat
  size : Nat

structure Ghost where
  loc : Key → Option Loc
  cnt : Key → Nat

/-- The cells that may still be written. -/
def Ghost.M (G : Ghost) (b o : Nat) : Prop := ∃ k L, G.loc k = some L ∧ L.b = b ∧ L.lo ≤ o

def mkStr (s : Str) : ByteArray := ⟨s.toArray⟩

/-- A slice that may be appended to in place, if its key is the newest. -/
def Room.ok (G : Ghost) (b off sz n c : Nat) : Room → Prop
  | .any => True
  | .full => c = n
  | .tok k ver sz' => sz = sz' ∧ ver ≤ G.cnt k ∧ (ver = G.cnt k → ∀ L, G.loc k = some L → L.b = b ∧ L.base = off ∧ L.lo = off + n * sz ∧ off + c * sz ≤ L.size)

inductive PRel (G : Ghost) (w : World) : PV → Value → Prop where
  | dead (v : Value) : PRel G w .dead v
  | int (k : IntKind) (n : Int) : PRel G w (.int k n) (.int k n)
  | bool (b : Bool) : PRel G w (.bool b) (.bool b)
  | str (s : Str) : PRel G w (.str s) (.string (mkStr s))
  | agg (cs : List PV) (vs : Array Value) (hn : cs.length = vs.size) (h : ∀ (i : Nat) (p : PV) (v : Value), cs[i]? = some p → vs[i]? = some v → PRel G w p v) : PRel G w (.agg cs) (.agg vs)
  | tuple (cs : List PV) (vs : Array Value) (hn : cs.length = vs.size) (h : ∀ (i : Nat) (p : PV) (v : Value), cs[i]? = some p → vs[i]? = some v → PRel G w p v) : PRel G w (.tuple cs) (.tuple vs)
  | list (room : Room) (es : List PV) (A : Option Addr) (c b off sz : Nat) (vs : Nat → Nat → Value)
      (hc : es.length ≤ c) (hr : Room.ok G b off sz es.length c room) (hsz : 0 < sz)
      (hA : es ≠ [] → A = some ⟨b, off, none⟩)
      (hM : ∀ o, off ≤ o → o < off + es.length * sz → ¬ G.M b o)
      (hes : ∀ (i : Nat) (e : PV), es[i]? = some e → e.cells.length = sz)
      (hcell : ∀ (i : Nat) (e : PV) (j : Nat) (p : PV), es[i]? = some e → e.cells[j]? = some p → w.cell? ⟨b, off + (i * sz + j), none⟩ = some (vs i j))
      (hrel : ∀ (i : Nat) (e : PV) (j : Nat) (p : PV), es[i]? = some e → e.cells[j]? = some p → PRel G w p (vs i j)) : PRel G w (.list room es) (.slice A es.length c)
  | row (k : Key) (ver sz off len b o c : Nat) (cap : Option Nat) (hc : len ≤ c) (hcap : ∀ n, cap = some n → c = n) (hv : ver ≤ G.cnt k)
      (h : ver = G.cnt k → ∀ L, G.loc k = some L → b = L.b ∧ o = L.base ∧ L.base + (off + c) * sz ≤ L.size) : PRel G w (.row k ver sz off len cap) (.slice (some ⟨b, o + off * sz, none⟩) len c)
  | iptr (cs : List PV) (b off : Nat) (vs : Nat → Value) (hM : ∀ o, off ≤ o → o < off + cs.length → ¬ G.M b o)
      (hcell : ∀ (j : Nat) (p : PV), cs[j]? = some p → w.cell? ⟨b, off + j, none⟩ = some (vs j))
      (hrel : ∀ (j : Nat) (p : PV), cs[j]? = some p → PRel G w p (vs j)) : PRel G w (.iptr cs) (.pointer (some ⟨b, off, none⟩))
  | ptr (k : Key) (ver off b o : Nat) (hv : ver ≤ G.cnt k)
      (h : ver = G.cnt k → ∀ L, G.loc k = some L → b = L.b ∧ o = L.base) : PRel G w (.ptr k ver off) (.pointer (some ⟨b, o + off, none⟩))
  | eptr (k : Key) (ver sz idx fo b o : Nat) (hv : ver ≤ G.cnt k)
      (h : ver = G.cnt k → ∀ L, G.loc k = some L → b = L.b ∧ o = L.base) : PRel G w (.eptr k ver sz idx fo) (.pointer (some ⟨b, o + (idx * sz + fo), none⟩))
  | nilptr : PRel G w .nilptr (.pointer none)
  | fn (f : Fn) (first captured : List PV) (vf vc : Array Value) (hn : first.length = vf.size) (hm : captured.length = vc.size)
      (h : ∀ (i : Nat) (p : PV) (v : Value), first[i]? = some p → vf[i]? = some v → PRel G w p v) (h' : ∀ (i : Nat) (p : PV) (v : Value), captured[i]? = some p → vc[i]? = some v → PRel G w p v) :
      PRel G w (.fn f first captured) (.func f vf vc)
  | nilfn : PRel G w .nilfn .nilFunc
  | iface (t : TypeId) (p : PV) (v : Value) (h : PRel G w p v) : PRel G w (.iface t p) (.iface t v)
  | niliface : PRel G w .niliface .nilIface
  | mapr (k : Key) (ver : Nat) (r : Option Nat) (hv : ver ≤ G.cnt k) (h : ver = G.cnt k → ∀ L, G.loc k = some L → r = some L.b) : PRel G w (.mapr k ver) (.map r)
  | chanr (k : Key) (ver : Nat) (r : Option Nat) (hv : ver ≤ G.cnt k) (h : ver = G.cnt k → ∀ L, G.loc k = some L → r = some L.b) : PRel G w (.chanr k ver) (.chan r)
  | iter (k : Key) (ver : Nat) (A : Option Addr) (hv : ver ≤ G.cnt k) (h : ver = G.cnt k → ∀ L, G.loc k = some L → A = some ⟨L.b, 0, none⟩) : PRel G w (.iter k ver) (.pointer A)

/-- What a stretch of a run may do to the ghost and the world. -/
structure Ext (G : Ghost) (w : World) (G' : Ghost) (w' : World) : Prop where
  os : w'.os = w.os
  output : w'.output = w.output
  tape : w'.tape = w.tape
  size : w.heap.size ≤ w'.heap.size
  block : ∀ b, b < w.heap.size → (∀ o, ¬ G.M b o) → w'.heap[b]? = w.heap[b]?
  cell : ∀ b o, b < w.heap.size → ¬ G.M b o → w'.cell? ⟨b, o, none⟩ = w.cell? ⟨b, o, none⟩
  keep : ∀ b o, b < w.heap.size → ¬ G.M b o → ¬ G'.M b o
  cnt : ∀ k, G.cnt k ≤ G'.cnt k
  loc : ∀ k L, G'.loc k = some L → G'.cnt k = G.cnt k → G.loc k = some L

theorem Ext.refl (G : Ghost) (w : World) : Ext G w G w :=
  ⟨rfl, rfl, rfl, Nat.le_refl _, fun _ _ _ => rfl, fun _ _ _ _ => rfl, fun _ _ _ h => h, fun _ => Nat.le_refl _, fun _ _ h _ => h⟩

theorem Ext.trans {G G' G'' : Ghost} {w w' w'' : World} (h : Ext G w G' w') (k : Ext G' w' G'' w'') : Ext G w G'' w'' where
  os := k.os.trans h.os
  output := k.output.trans h.output
  tape := k.tape.trans h.tape
  size := Nat.le_trans h.size k.size
  block b hb hm := (k.block b (Nat.lt_of_lt_of_le hb h.size) fun o => h.keep b o hb (hm o)).trans (h.block b hb hm)
  cell b o hb hm := (k.cell b o (Nat.lt_of_lt_of_le hb h.size) (h.keep b o hb hm)).trans (h.cell b o hb hm)
  keep b o hb hm := k.keep b o (Nat.lt_of_lt_of_le hb h.size) (h.keep b o hb hm)
  cnt q := Nat.le_trans (h.cnt q) (k.cnt q)
  loc q L hL hc := by
    have h1 := h.cnt q
    have h2 := k.cnt q
    exact h.loc q L (k.loc q L hL (by omega)) (by omega)

theorem cell_block {w : World} {b o : Nat} {v : Value} (h : w.cell? ⟨b, o, none⟩ = some v) : b < w.heap.size := by
  unfold World.cell? at h
  rcases Nat.lt_or_ge b w.heap.size with hb | hb
  · exact hb
  · simp [Array.getElem?_eq_none hb] at h

theorem cell_eq {w w' : World} {b o : Nat} (h : w'.heap[b]? = w.heap[b]?) : w'.cell? ⟨b, o, none⟩ = w.cell? ⟨b, o, none⟩ := by
  unfold World.cell?
  rw [h]

theorem Ext.stays {G G' : Ghost} {w w' : World} (E : Ext G w G' w') {b o : Nat} {v : Value} (hm : ¬ G.M b o) (h : w.cell? ⟨b, o, none⟩ = some v) : w'.cell? ⟨b, o, none⟩ = some v := by
  rw [E.cell b o (cell_block h) hm]; exact h

theorem Ext.ver {G G' : Ghost} {w w' : World} (E : Ext G w G' w') {k : Key} {ver : Nat} (hv : ver ≤ G.cnt k) (e : ver = G'.cnt k) : G'.cnt k = G.cnt k := by
  have := E.cnt k
  omega

theorem Room.ok_mono {G G' : Ghost} {w w' : World} (E : Ext G w G' w') {b off sz n c : Nat} {r : Room} (h : r.ok G b off sz n c) : r.ok G' b off sz n c := by
  cases r with
  | any => trivial
  | full => exact h
  | tok k ver sz' => exact ⟨h.1, Nat.le_trans h.2.1 (E.cnt k), fun e L hL => h.2.2 (by have := E.ver h.2.1 e; omega) L (E.loc k L hL (E.ver h.2.1 e))⟩

theorem mul_add_lt {i n j sz : Nat} (hi : i < n) (hj : j < sz) : i * sz + j < n * sz :=
  Nat.lt_of_lt_of_le (by rw [Nat.succ_mul]; omega : i * sz + j < (i + 1) * sz) (Nat.mul_le_mul_right sz hi)

theorem PRel.mono {G G' : Ghost} {w w' : World} (E : Ext G w G' w') {p : PV} {v : Value} (h : PRel G w p v) : PRel G' w' p v := by
  induction h with
  | dead v => exact .dead v
  | int k n => exact .int k n
  | bool b => exact .bool b
  | str s => exact .str s
  | agg cs vs hn _ ih => exact .agg cs vs hn ih
  | tuple cs vs hn _ ih => exact .tuple cs vs hn ih
  | list room es A c b off sz vs hc hr hsz hA hM hes hcell hrel ih =>
    have hb : ∀ o, off ≤ o → o < off + es.length * sz → b < w.heap.size := by
      intro o h1 h2
      have hne : es ≠ [] := by intro h0; simp [h0] at h2; omega
      cases es with
      | nil => exact absurd rfl hne
      | cons e es =>
        have hl := hes 0 e rfl
        have hlt : 0 < e.cells.length := by omega
        exact cell_block (hcell 0 e 0 _ rfl (List.getElem?_eq_getElem hlt))
    refine .list room es A c b off sz vs hc (Room.ok_mono E hr) hsz hA (fun o h1 h2 => E.keep b o (hb o h1 h2) (hM o h1 h2)) hes ?_ ih
    intro i e j p he hp
    have hi := (List.getElem?_eq_some_iff.1 he).1
    have hj := (List.getElem?_eq_some_iff.1 hp).1
    rw [hes i e he] at hj
    exact E.stays (hM _ (by omega) (by have := mul_add_lt hi hj; omega)) (hcell i e j p he hp)
  | row k ver sz off len b o c cap hc hcap hv h =>
    exact .row k ver sz off len b o c cap hc hcap (Nat.le_trans hv (E.cnt k)) fun e L hL => h (by have := E.ver hv e; omega) L (E.loc k L hL (E.ver hv e))
  | iptr cs b off vs hM hcell _ ih =>
    have hb : ∀ o, off ≤ o → o < off + cs.length → b < w.heap.size := by
      intro o h1 h2
      cases cs with
      | nil => simp at h2; omega
      | cons p cs => exact cell_block (hcell 0 p rfl)
    refine .iptr cs b off vs (fun o h1 h2 => E.keep b o (hb o h1 h2) (hM o h1 h2)) ?_ ih
    intro j p hp
    have hj := (List.getElem?_eq_some_iff.1 hp).1
    exact E.stays (hM _ (by omega) (by omega)) (hcell j p hp)
  | ptr k ver off b o hv h => exact .ptr k ver off b o (Nat.le_trans hv (E.cnt k)) fun e L hL => h (by have := E.ver hv e; omega) L (E.loc k L hL (E.ver hv e))
  | eptr k ver sz idx fo b o hv h => exact .eptr k ver sz idx fo b o (Nat.le_trans hv (E.cnt k)) fun e L hL => h (by have := E.ver hv e; omega) L (E.loc k L hL (E.ver hv e))
  | nilptr => exact .nilptr
  | fn f first captured vf vc hn hm _ _ ih ih' => exact .fn f first captured vf vc hn hm ih ih'
  | nilfn => exact .nilfn
  | iface t p v _ ih => exact .iface t p v ih
  | niliface => exact .niliface
  | mapr k ver r hv h => exact .mapr k ver r (Nat.le_trans hv (E.cnt k)) fun e L hL => h (by have := E.ver hv e; omega) L (E.loc k L hL (E.ver hv e))
  | chanr k ver r hv h => exact .chanr k ver r (Nat.le_trans hv (E.cnt k)) fun e L hL => h (by have := E.ver hv e; omega) L (E.loc k L hL (E.ver hv e))
  | iter k ver A hv h => exact .iter k ver A (Nat.le_trans hv (E.cnt k)) fun e L hL => h (by have := E.ver hv e; omega) L (E.loc k L hL (E.ver hv e))

/-! ### Objects: what is kept in variables and rows of the call's own -/
inductive PObj where
  | cells (cs : List PV)
  | row (sz : Nat) (es : List PV)
  | tok
  | map (es : List (PV × PV))
  | iter (s : Str) (pos : Nat)
  | chan (cap : Nat) (buf : List PV) (closed : Bool)
  | const (cs : List PV)
  deriving Inhabited

def PObj.isConst : PObj → Bool
  | .const _ => true
  | _ => false

inductive ORel (G : Ghost) (w : World) (L : Loc) : PObj → Prop where
  | cells (cs : List PV) (vs : Array Value) (el : TypeId) (hlo : L.lo = 0) (hh : w.heap[L.b]? = some (.cells vs el (0, 0))) (hs : vs.size = L.size) (hl : L.base + cs.length ≤ L.size)
      (h : ∀ (j : Nat) (p : PV) (v : Value), cs[j]? = some p → vs[L.base + j]? = some v → PRel G w p v) : ORel G w L (.cells cs)
  | row (sz : Nat) (es : List PV) (vs : Array Value) (el : TypeId) (hlo : L.lo = 0) (hh : w.heap[L.b]? = some (.cells vs el (0, 0))) (hs : vs.size = L.size) (hsz : 0 < sz)
      (hl : L.base + es.length * sz ≤ L.size) (hes : ∀ (i : Nat) (e : PV), es[i]? = some e → e.cells.length = sz)
      (h : ∀ (i : Nat) (e : PV) (j : Nat) (p : PV) (v : Value), es[i]? = some e → e.cells[j]? = some p → vs[L.base + (i * sz + j)]? = some v → PRel G w p v) : ORel G w L (.row sz es)
  | tok (vs : Array Value) (el : TypeId) (hh : w.heap[L.b]? = some (.cells vs el (0, 0))) (hs : vs.size = L.size) (hl : L.lo ≤ L.size) : ORel G w L .tok
  | map (es : List (PV × PV)) (xs : Array MapEntry) (clock : Nat) (hlo : L.lo = 0) (hh : w.heap[L.b]? = some (.map xs clock)) (hn : es.length = xs.size)
      (h : ∀ (i : Nat) (p : PV × PV) (x : MapEntry), es[i]? = some p → xs[i]? = some x → PRel G w p.1 x.key ∧ PRel G w p.2 x.val) : ORel G w L (.map es)
  | iter (s : Str) (pos : Nat) (hlo : L.lo = 0) (hh : w.heap[L.b]? = some (.stringIter (mkStr s) pos)) : ORel G w L (.iter s pos)
  | chan (cap : Nat) (buf : List PV) (closed : Bool) (vs : Array Value) (sent rec_ : Nat) (hlo : L.lo = 0) (hh : w.heap[L.b]? = some (.chan cap vs closed sent rec_ false)) (hn : buf.length = vs.size)
      (h : ∀ (i : Nat) (p : PV) (v : Value), buf[i]? = some p → vs[i]? = some v → PRel G w p v) : ORel G w L (.chan cap buf closed)

/-- An object whose block stays as it is stays what it is. -/
theorem ORel.mono {G G' : Ghost} {w w' : World} (E : Ext G w G' w') {L : Loc} {o : PObj} (hb : w'.heap[L.b]? = w.heap[L.b]?) (h : ORel G w L o) : ORel G' w' L o := by
  cases h with
  | cells cs vs el hlo hh hs hl h => exact .cells cs vs el hlo (hb.trans hh) hs hl fun j p v a b => (h j p v a b).mono E
  | row sz es vs el hlo hh hs hsz hl hes h => exact .row sz es vs el hlo (hb.trans hh) hs hsz hl hes fun i e j p v a b c => (h i e j p v a b c).mono E
  | tok vs el hh hs hl => exact .tok vs el (hb.trans hh) hs hl
  | map es xs clock hlo hh hn h => exact .map es xs clock hlo (hb.trans hh) hn fun i p x a b => ⟨(h i p x a b).1.mono E, (h i p x a b).2.mono E⟩
  | iter s pos hlo hh => exact .iter s pos hlo (hb.trans hh)
  | chan cap buf closed vs sent rec_ hlo hh hn h => exact .chan cap buf closed vs sent rec_ hlo (hb.trans hh) hn fun i p v a b => (h i p v a b).mono E

abbrev PHeap := Key → Nat × Option PObj
def PHeap.set (h : PHeap) (k : Key) (x : Nat × Option PObj) : PHeap := fun q => if q = k then x else h q

/-- A package-level variable that nobody writes. -/
structure GlobOk (G : Ghost) (w : World) (g : Nat) (cs : List PV) : Prop where
  rel : PRel G w (.iptr cs) (.pointer (some ⟨g, 0, none⟩))
  own : ∀ o, ¬ G.M g o
  all : ∃ vs el fr, w.heap[g]? = some (.cells vs el fr) ∧ vs.size = cs.length
theorem GlobOk.mono {G G' : Ghost} {w w' : World} (E : Ext G w G' w') {g : Nat} {cs : List PV} (h : GlobOk G w g cs) : GlobOk G' w' g cs := by
  obtain ⟨vs, el, fr, hh, hs⟩ := h.all
  have hb := (Array.getElem?_eq_some_iff.1 hh).1
  exact ⟨h.rel.mono E, fun o => E.keep g o hb (h.own o), vs, el, fr, by rw [E.block g hb h.own]; exact hh, hs⟩

structure SimH (d : Nat) (G : Ghost) (h : PHeap) (w : World) : Prop where
  cnt : ∀ k, k.1 ≤ d → (h k).1 = G.cnt k
  obj : ∀ k L, G.loc k = some L → k.1 ≤ d ∧ L.b < w.heap.size ∧ ∃ o, (h k).2 = some o ∧ ORel G w L o
  live : ∀ k o, (h k).2 = some o → o.isConst = false → ∃ L, G.loc k = some L
  shut : ∀ k, d < k.1 → (h k).2 = none
  glob : ∀ g cs, (h (0, g)).2 = some (.const cs) → GlobOk G w g cs
  apart : ∀ k k' L L', G.loc k = some L → G.loc k' = some L' → k ≠ k' → L.b ≠ L'.b

/-- Values in order. -/
def PRels (G : Ghost) (w : World) (ps : List PV) (vs : Array Value) : Prop := ps.length = vs.size ∧ ∀ (i : Nat) (p : PV) (v : Value), ps[i]? = some p → vs[i]? = some v → PRel G w p v
theorem PRels.mono {G G' : Ghost} {w w' : World} (E : Ext G w G' w') {ps : List PV} {vs : Array Value} (h : PRels G w ps vs) : PRels G' w' ps vs := ⟨h.1, fun i p v a b => (h.2 i p v a b).mono E⟩
theorem PRels.nil (G : Ghost) (w : World) : PRels G w [] #[] := ⟨rfl, fun i p v a => by simp at a⟩
theorem PRels.get {G : Ghost} {w : World} {ps : List PV} {vs : Array Value} (h : PRels G w ps vs) {i : Nat} {p : PV} (hp : ps[i]? = some p) : ∃ v, vs[i]? = some v ∧ PRel G w p v := by
  have hi := (List.getElem?_eq_some_iff.1 hp).1
  rw [h.1] at hi
  exact ⟨vs[i], Array.getElem?_eq_getElem hi, h.2 i p _ hp (Array.getElem?_eq_getElem hi)⟩

/-- What has cells has as many as its pure value. -/
theorem PRel.cells {G : Ghost} {w : World} {p : PV} {v : Value} (h : PRel G w p v) (hs : p.solid = true) : PRels G w p.cells v.cells := by
  cases h with
  | dead v => simp [PV.solid] at hs
  | tuple cs vs => simp [PV.solid] at hs
  | agg cs vs hn h => exact ⟨hn, h⟩
  | _ =>
    refine ⟨rfl, fun i p v a b => ?_⟩
    cases i with
    | zero => cases a; cases b; constructor <;> assumption
    | succ i => simp [PV.cells] at a
theorem PRel.oneCell {G : Ghost} {w : World} {p : PV} {v : Value} (h : PRel G w p v) (ho : p.one = true) : v.oneCell' = true := by
  cases h <;> first | rfl | simp [PV.one] at ho
end Go.Fh
