/- Operations on maps, on a text's runes, and append. -/
import Derived.Test.YtdclkdcgcfkopaaGreatDoorFhApp
import Derived.Laws.RangeAny
import Derived.MapKept
set_option linter.all false
namespace Go.Fh
open Go.RowKit

def keyP (t : TK) (p q : PV) : Option Bool :=
  match t, p, q with
  | .int _, .int k a, .int k' b => if k = k' then some (a == b) else none
  | .str, .str a, .str b => some (a == b)
  | _, _, _ => none
def findP (t : TK) (p : PV) : List (PV × PV) → Nat → Option (Option (Nat × PV))
  | [], _ => some none
  | e :: es, i => match keyP t p e.1 with
    | some true => some (some (i, e.2))
    | some false => findP t p es (i + 1)
    | none => none
/-- The zero value of a type of one cell. -/
def zeroP (P : Program) (t : TypeId) : Option PV :=
  match P.info? t with
  | some { zero := some (.agg _), .. } => none
  | some { zero := some z, .. } => some (PV.ofVal z)
  | _ => none
theorem run_zeroP {P : Program} {t : TypeId} {z : PV} (h : zeroP P t = some z) (w : World) : ∃ v, (zeroValue t).run P w = .ok v w ∧ ∀ (G : Ghost) (w' : World), PRel G w' z v := by
  unfold zeroP at h
  cases hi : P.info? t with
  | none => rw [hi] at h; simp at h
  | some i =>
    rw [hi] at h
    obtain ⟨desc, str, size, bytes, hp, al, fal, zero, cmp, ms⟩ := i
    cases zero with
    | none => simp at h
    | some z' =>
      have hz : z = PV.ofVal z' := by
        cases z' <;> simp at h <;> exact h.symm
      subst hz
      exact ⟨z', by simp [zeroValue, typeInfo, hi], fun G w' => PRel.ofVal G w' z'⟩
def keyKind : TK → Bool
  | .int _ | .str => true
  | _ => false
theorem keyKind_of {d : TypeDesc} (h : keyKind (tkind d) = true) : (∃ k, d = .int k) ∨ d = .string := by
  cases d <;> first | exact .inl ⟨_, rfl⟩ | exact .inr rfl | simp [tkind, keyKind] at h
def keyOk (d : Nat) (k : Key) : Bool := decide (k.1 ≤ d) && decide (0 < k.1)
def appOk (h : PHeap) (d : Nat) (key : Key) (size bytes : Nat) (zz : List PV) (room : Room) (es xs : List PV) : Bool :=
  keyOk d key && (zz.length == size && (decide (0 < size) && (es.all (fun e => e.cells.length == size) && (xs.all (fun e => e.cells.length == size && e.cells.all PV.one) && ((xs.isEmpty || roomP h size es room) && ((match room with
    | .tok k _ _ => decide (0 < k.1)
    | _ => true) && (decide (es.length + xs.length ≤ 9223372036854775807) && decide ((es.length + xs.length) * bytes ≤ 140737488355328))))))))

def evX (P : Program) (d : Nat) (ky : Tmp → Key) (dst : Option Tmp) (op : Op) (ρ : Operand → PV) (h : PHeap) : Option (PV × PHeap) :=
  match op with
  | .range t x => match dst, tinfo P t, ρ x with
    | some n, some { k := .str, .. }, .str s => if keyOk d (ky n) = true then some (.iter (ky n) ((h (ky n)).1 + 1), h.set (ky n) ((h (ky n)).1 + 1, some (.iter s 0))) else none
    | _, _, _ => none
  | .next it true => match ρ it with
    | .iter k ver => match h k with
      | (v, some (.iter s pos)) => if v = ver then (if pos < s.length then some (.tuple [.bool true, .int .i64 pos, .int .i32 (Utf8.decode (mkStr s) pos).1], h.set k (v, some (.iter s (pos + (Utf8.decode (mkStr s) pos).2)))) else some (.tuple [.bool false], h)) else none
      | _ => none
    | _ => none
  | .makeMap _ none => match dst with
    | some n => if keyOk d (ky n) = true then some (.mapr (ky n) ((h (ky n)).1 + 1), h.set (ky n) ((h (ky n)).1 + 1, some (.map []))) else none
    | none => none
  | .mapUpdate t m k x | .insert t m k x => match tinfo P t, ρ m with
    | some { k := .map kt _, .. }, .mapr key ver => match tinfo P kt, h key with
      | some ki, (v, some (.map es)) => if v = ver ∧ keyKind ki.k = true then (match findP ki.k (ρ k) es 0 with
        | some (some (i, _)) => some (.dead, h.set key (v, some (.map (es.set i (ρ k, ρ x)))))
        | some none => some (.dead, h.set key (v, some (.map (es ++ [(ρ k, ρ x)]))))
        | none => none) else none
      | _, _ => none
    | _, _ => none
  | .lookup t m k ok => match tinfo P t, ρ m with
    | some { k := .map kt et, .. }, .mapr key ver => match tinfo P kt, zeroP P et, h key with
      | some ki, some z, (v, some (.map es)) => if v = ver ∧ keyKind ki.k = true then (match findP ki.k (ρ k) es 0 with
        | some (some (_, p)) => some (if ok = true then .tuple [p, .bool true] else p, h)
        | some none => some (if ok = true then .tuple [z, .bool false] else z, h)
        | none => none) else none
      | _, _, _ => none
    | _, _ => none
  | .call { callee := .builtin .append, args, argTypes } => match args.toList, argTypes.toList with
    | [s, x], [t, t'] => if t = t' then (match tinfo P t with
      | some { k := .slice e, .. } => match tinfo P e with
        | some { size, bytes, zero := some zz, .. } => match ρ s, ρ x, dst with
          | .list room es, .list _ xs, some n => if appOk h d (ky n) size bytes zz room es xs = true then some (appP h (ky n) size room es xs) else none
          | _, _, _ => none
        | _ => none
      | _ => none) else none
    | _, _ => none
  | _ => none

theorem run_checkKey {P : Program} {w : World} {kt : TypeId} {d : TypeDesc} (hd : P.underlying kt = some d) (b : Bool) (v : Value) (hk : (∃ k, d = .int k) ∨ d = .string) : (Instr.checkKey b 10000 kt v).run P w = .ok () w := by
  show (Instr.checkKey b (9999 + 1) kt v).run P w = .ok () w
  unfold Instr.checkKey
  rw [Sem.run_bind, run_underlying hd, Result.andThen_ok]
  rcases hk with ⟨k, rfl⟩ | rfl <;> (cases v <;> rfl)

theorem findNow_sound {G : Ghost} {w : World} {d : TypeDesc} {p : PV} {v : Value} (hp : PRel G w p v) : ∀ {es : List (PV × PV)} {xs : List MapEntry} {n : Nat} {r : Option (Nat × PV)}, es.length = xs.length → (∀ (i : Nat) (q : PV × PV) (x : MapEntry), es[i]? = some q → xs[i]? = some x → PRel G w q.1 x.key ∧ PRel G w q.2 x.val) → findP (tkind d) p es n = some r →
    (r = none ∧ Instr.findNow d v xs n = some none) ∨ ∃ i q u, r = some (i, q) ∧ n ≤ i ∧ i < n + es.length ∧ Instr.findNow d v xs n = some (some (i, u)) ∧ PRel G w q u ∧ ∃ e x, es[i - n]? = some e ∧ xs[i - n]? = some x ∧ keyP (tkind d) p e.1 = some true := by
  intro es
  induction es with
  | nil =>
    intro xs n r hl hr h
    cases xs with
    | nil => simp only [findP, Option.some.injEq] at h; subst h; exact .inl ⟨rfl, rfl⟩
    | cons x xs => simp at hl
  | cons e es ih =>
    intro xs n r hl hr h
    cases xs with
    | nil => simp at hl
    | cons x xs =>
      have h0 := hr 0 e x rfl rfl
      simp only [findP] at h
      have same : ∀ b, keyP (tkind d) p e.1 = some b → Instr.sameNow d v x.key = some b := by
        intro b hb
        have hk := h0.1
        generalize e.1 = q at hb hk
        generalize x.key = u at hk
        unfold keyP at hb
        split at hb
        · rename_i k0 k a k' b' hd
          rw [tkind_int hd]
          cases hp
          cases hk
          simp only [Instr.sameNow]
          exact hb
        · rename_i a b' hd
          rw [tkind_str hd]
          cases hp
          cases hk
          simp only [Instr.sameNow, mkStr_beq]
          exact hb
        · cases hb
      split at h
      · rename_i hk
        simp only [Option.some.injEq] at h
        subst h
        refine .inr ⟨n, e.2, x.val, rfl, Nat.le_refl _, by simp, ?_, h0.2, e, x, by simp, by simp, hk⟩
        simp only [Instr.findNow, same true hk]
      · rename_i hk
        rcases ih (by simpa using hl) (fun i q y a b => hr (i + 1) q y (by simpa using a) (by simpa using b)) h with ⟨h1, h2⟩ | ⟨i, q, u, h1, h2, h3, h4, h5, e', x', h6, h7, h8⟩
        · exact .inl ⟨h1, by simp only [Instr.findNow, same false hk, h2]⟩
        · refine .inr ⟨i, q, u, h1, by omega, by simp; omega, by simp only [Instr.findNow, same false hk, h4], h5, e', x', ?_, ?_, h8⟩
          · rw [show i - n = (i - (n + 1)) + 1 by omega]; simpa using h6
          · rw [show i - n = (i - (n + 1)) + 1 by omega]; simpa using h7
      · cases h

theorem keyP_kind {d : TypeDesc} {p q : PV} {b : Bool} (h : keyP (tkind d) p q = some b) : (∃ k, d = .int k) ∨ d = .string := by
  unfold keyP at h
  split at h
  · rename_i hd; exact .inl ⟨_, tkind_int hd⟩
  · rename_i hd; exact .inr (tkind_str hd)
  · cases h

theorem run_findKey {P : Program} {w : World} {kt : TypeId} {d : TypeDesc} (hd : P.underlying kt = some d) {v : Value} {xs : List MapEntry} {r : Option (Nat × Value)} (h : Instr.findNow d v xs 0 = some r) : (Instr.findKey kt v xs).run P w = .ok r w := by
  unfold Instr.findKey
  rw [Sem.run_bind, run_underlying hd, Result.andThen_ok]
  simp only [h, Sem.run_pure]

/-- A new object that is no row. -/
theorem new_obj {d : Nat} {G : Ghost} {h : PHeap} {w : World} (S : SimH d G h w) {k : Key} (hk : keyOk d k = true) (o : Obj) (po : PObj) (size : Nat)
    (hr : ∀ G' w' L, L.lo = 0 → w'.heap[L.b]? = some o → ORel G' w' L po) : ∃ G', Ext G w G' (w.alloc o) ∧ SimH d G' (h.set k ((h k).1 + 1, some po)) (w.alloc o) ∧ (h k).1 + 1 = G'.cnt k ∧ G'.loc k = some ⟨w.heap.size, 0, 0, size⟩ := by
  simp only [keyOk, Bool.and_eq_true, decide_eq_true_eq] at hk
  let L : Loc := ⟨w.heap.size, 0, 0, size⟩
  refine ⟨G.bind k L, Ext.of_bind_new S k o L rfl, S.new hk.1 hk.2 o L rfl po (hr _ _ L rfl ?_), by rw [Ghost.bind_cnt_self, S.cnt k hk.1], by simp [L]⟩
  show (w.heap.push o)[w.heap.size]? = _
  simp

theorem Only.setObj {w : World} {b : Nat} (o : Obj) : Only b w { w with heap := w.heap.setIfInBounds b o } :=
  ⟨rfl, rfl, rfl, by simp, fun b' hb => by simp [Ne.symm hb]⟩
theorem setObj_at {w : World} {b : Nat} (hb : b < w.heap.size) (o : Obj) : ({ w with heap := w.heap.setIfInBounds b o } : World).heap[b]? = some o := by simp [hb]

theorem run_next_at {P : Program} {w : World} {b : Nat} {s : ByteArray} {pos : Nat} (ty : TypeId) (hb : w.heap[b]? = some (.stringIter s pos)) :
    (Instr.next (.pointer (some ⟨b, 0, none⟩)) true ty).run P w = if pos < s.size then .ok (.tuple #[.bool true, .int .i64 pos, .int .i32 (Utf8.decode s pos).1]) { w with heap := w.heap.setIfInBounds b (.stringIter s (pos + (Utf8.decode s pos).2)) } else .ok (.tuple #[.bool false]) w := by
  simp only [Instr.next, getObj, setObj, Sem.run_bind, Sem.run, hb, Result.andThen]
  split <;> simp [goInt, Sem.run, hb]

theorem PRel.tuple2 {G : Ghost} {w : World} {p q : PV} {u v : Value} (h1 : PRel G w p u) (h2 : PRel G w q v) : PRel G w (.tuple [p, q]) (.tuple #[u, v]) := by
  refine .tuple _ _ rfl fun i a x ha hx => ?_
  match i with
  | 0 => cases ha; cases hx; exact h1
  | 1 => cases ha; cases hx; exact h2
  | i + 2 => simp at ha
theorem PRel.tuple1 {G : Ghost} {w : World} {p : PV} {u : Value} (h1 : PRel G w p u) : PRel G w (.tuple [p]) (.tuple #[u]) := by
  refine .tuple _ _ rfl fun i a x ha hx => ?_
  match i with
  | 0 => cases ha; cases hx; exact h1
  | i + 1 => simp at ha
theorem PRel.tuple3 {G : Ghost} {w : World} {p q r : PV} {u v x : Value} (h1 : PRel G w p u) (h2 : PRel G w q v) (h3 : PRel G w r x) : PRel G w (.tuple [p, q, r]) (.tuple #[u, v, x]) := by
  refine .tuple _ _ rfl fun i a y ha hy => ?_
  match i with
  | 0 => cases ha; cases hy; exact h1
  | 1 => cases ha; cases hy; exact h2
  | 2 => cases ha; cases hy; exact h3
  | i + 3 => simp at ha

theorem run_putMap {P : Program} {w : World} {r : Nat} {xs : Array MapEntry} {clock : Nat} (o : Obj) (hb : w.heap[r]? = some (.map xs clock)) : (setObj r o).run P w = .ok () { w with heap := w.heap.setIfInBounds r o } := by simp [setObj, Sem.run, hb]
theorem run_getMap {P : Program} {w : World} {r : Nat} {xs : Array MapEntry} {clock : Nat} (hb : w.heap[r]? = some (.map xs clock)) : (getObj r).run P w = .ok (.map xs clock) w := by simp [getObj, Sem.run, hb]
theorem sameBits_int (n : Nat) (k : IntKind) (a : Int) : Instr.sameBits n (.int k a) (.int k a) = true := by cases n <;> simp [Instr.sameBits]
theorem sameBits_str (n : Nat) (s : ByteArray) : Instr.sameBits n (.string s) (.string s) = true := by
  have h : (s == s) = true := by rw [beq_toListBytes]; exact beq_self_eq_true _
  cases n <;> simp [Instr.sameBits, h]

/-- A map with one entry written. -/
theorem mapUpdate_sound {P : Program} {d : Nat} {G : Ghost} {h : PHeap} {w : World} (S : SimH d G h w) {t kt et : TypeId} {sz0 by0 : Nat} {zt : Option (List PV)} (ht : tinfo P t = some ⟨.map kt et, sz0, by0, zt⟩) {ki : TI} (hki : tinfo P kt = some ki)
    {key : Key} {ver : Nat} {es : List (PV × PV)} (hk : h key = (ver, some (.map es))) {m k x : Value} {pk px : PV} (hm : PRel G w (.mapr key ver) m) (hpk : PRel G w pk k) (hpx : PRel G w px x) {r : Option (Nat × PV)} (hf : findP ki.k pk es 0 = some r)
    (hne : keyKind ki.k = true) :
    ∃ w', (Instr.mapUpdate t m k x).run P w = .ok () w' ∧ Ext G w G w' ∧ SimH d G (h.set key (ver, some (.map (match r with
      | some (i, _) => es.set i (pk, px)
      | none => es ++ [(pk, px)])))) w' := by
  obtain ⟨_, td, _, htd, heq⟩ := tinfo_parts ht
  simp only [TI.mk.injEq] at heq
  have htd' : P.underlying t = some (.map kt et) := by rw [htd, tkind_map heq.1.symm]
  obtain ⟨kd, hkd, hkk⟩ := tinfo_under hki
  rw [hkk] at hf hne
  obtain ⟨L, hL, hcn, hb, hO⟩ := S.at hk
  cases hm with
  | mapr _ _ rr hv hloc =>
  have hrr := hloc hcn L hL
  subst hrr
  cases hO with
  | map _ xs clock hlo hh hn hrel =>
  have hkind := keyKind_of hne
  have hck := run_checkKey (P := P) (w := w) hkd false k hkind
  have hput : ∀ (ys : Array MapEntry) (c : Nat) (qs : List (PV × PV)), qs.length = ys.size → (∀ (i : Nat) (p : PV × PV) (y : MapEntry), qs[i]? = some p → ys[i]? = some y → PRel G w p.1 y.key ∧ PRel G w p.2 y.val) →
      Ext G w G { w with heap := w.heap.setIfInBounds L.b (.map ys c) } ∧ SimH d G (h.set key (ver, some (.map qs))) { w with heap := w.heap.setIfInBounds L.b (.map ys c) } := by
    intro ys c qs hq hr
    have O := Only.setObj (w := w) (b := L.b) (.map ys c)
    have E := Ext.of_only S hL hlo O
    refine ⟨E, ?_⟩
    have := S.upd hL hlo O (po := .map qs) (.map qs ys c hlo (setObj_at hb _) hq fun i p y a b => ⟨(hr i p y a b).1.mono E, (hr i p y a b).2.mono E⟩)
    rwa [hk] at this
  have hget := run_getMap (P := P) hh
  rcases findNow_sound (v := k) hpk (es := es) (xs := xs.toList) (n := 0) (r := r) (by simp [hn]) (fun i q y a b => hrel i q y a (by simpa using b)) hf with ⟨rfl, hfn⟩ | ⟨i, q, u, rfl, h1, h2, hfn, hq, e, y, he, hy, hkp⟩
  · have hfk := run_findKey (P := P) (w := w) hkd hfn
    obtain ⟨E, S'⟩ := hput (xs.push { key := k, val := x, born := clock }) (clock + 1) (es ++ [(pk, px)]) (by simp [hn]) fun i p y a b => by
      rw [Array.getElem?_push] at b
      rw [List.getElem?_append] at a
      split at a
      · rename_i hi
        rw [if_neg (by omega)] at b
        exact hrel i p y a b
      · rename_i hi
        by_cases hi2 : i = es.length
        · subst hi2
          rw [if_pos (by omega)] at b
          simp at a b
          subst a b
          exact ⟨hpk, hpx⟩
        · rw [List.getElem?_eq_none (by simp; omega)] at a
          cases a
    refine ⟨_, ?_, E, S'⟩
    simp only [Instr.mapUpdate, Sem.run_bind, run_underlying htd', Result.andThen_ok, hget, hck, hfk]
    exact run_putMap _ hh
  · have hfk := run_findKey (P := P) (w := w) hkd hfn
    simp only [Nat.sub_zero] at he hy
    rw [Array.getElem?_toList] at hy
    have hilt := (List.getElem?_eq_some_iff.1 he).1
    have hyk := (hrel i e y he hy).1
    have hsame : k = y.key := by
      generalize y.key = z at hyk
      generalize e.1 = f at hkp hyk
      unfold keyP at hkp
      split at hkp
      · rename_i a b c
        cases hpk
        cases hyk
        split at hkp
        · rename_i e0
          subst e0
          simp at hkp
          subst hkp
          rfl
        · cases hkp
      · cases hpk
        cases hyk
        simp at hkp
        subst hkp
        rfl
      · cases hkp
    have hbits : Instr.sameBits 10000 y.key k = true := by
      rw [← hsame]
      unfold keyP at hkp
      split at hkp
      · cases hpk; exact sameBits_int _ _ _
      · cases hpk; exact sameBits_str _ _
      · cases hkp
    obtain ⟨E, S'⟩ := hput (xs.modify i fun e => { e with key := k, val := x }) clock (es.set i (pk, px)) (by simp [hn]) fun j p z a b => by
      rw [Array.getElem?_modify] at b
      rw [List.getElem?_set] at a
      by_cases hij : i = j
      · subst hij
        rw [if_pos rfl] at a b
        rw [hy] at b
        rw [if_pos hilt] at a
        simp at a b
        subst a b
        exact ⟨hpk, hpx⟩
      · rw [if_neg hij] at a b
        exact hrel j p z a b
    refine ⟨_, ?_, E, S'⟩
    have hkey : ((xs[i]?).map (·.key)).getD k = y.key := by rw [hy]; rfl
    simp only [Instr.mapUpdate, Sem.run_bind, run_underlying htd', Result.andThen_ok, hget, hck, hfk, Instr.keyThatStays, hkey, hbits, if_true, Sem.run_pure]
    exact run_putMap _ hh

theorem lookup_sound {P : Program} {d : Nat} {G : Ghost} {h : PHeap} {w : World} (S : SimH d G h w) {t kt et : TypeId} {sz0 by0 : Nat} {zt : Option (List PV)} (ht : tinfo P t = some ⟨.map kt et, sz0, by0, zt⟩) {ki : TI} (hki : tinfo P kt = some ki)
    {z : PV} (hei : zeroP P et = some z)
    {key : Key} {ver : Nat} {es : List (PV × PV)} (hk : h key = (ver, some (.map es))) {m k : Value} {pk : PV} (hm : PRel G w (.mapr key ver) m) (hpk : PRel G w pk k) {r : Option (Nat × PV)} (hf : findP ki.k pk es 0 = some r)
    (hne : keyKind ki.k = true) (ok : Bool) :
    ∃ v, (Instr.lookup t m k ok).run P w = .ok v w ∧ PRel G w (match r with
      | some (_, p) => if ok = true then .tuple [p, .bool true] else p
      | none => if ok = true then .tuple [z, .bool false] else z) v := by
  obtain ⟨_, td, _, htd, heq⟩ := tinfo_parts ht
  simp only [TI.mk.injEq] at heq
  have htd' : P.underlying t = some (.map kt et) := by rw [htd, tkind_map heq.1.symm]
  obtain ⟨kd, hkd, hkk⟩ := tinfo_under hki
  rw [hkk] at hf hne
  obtain ⟨L, hL, hcn, hb, hO⟩ := S.at hk
  cases hm with
  | mapr _ _ rr hv hloc =>
  have hrr := hloc hcn L hL
  subst hrr
  cases hO with
  | map _ xs clock hlo hh hn hrel =>
  have hkind := keyKind_of hne
  have hck := fun b => run_checkKey (P := P) (w := w) hkd b k hkind
  have hget := run_getMap (P := P) hh
  rcases findNow_sound (v := k) hpk (es := es) (xs := xs.toList) (n := 0) (r := r) (by simp [hn]) (fun i q y a b => hrel i q y a (by simpa using b)) hf with ⟨rfl, hfn⟩ | ⟨i, q, u, rfl, h1, h2, hfn, hq, e, y, he, hy, hkp⟩
  · have hfk := run_findKey (P := P) (w := w) hkd hfn
    obtain ⟨v, hzr, hzz⟩ := run_zeroP hei w
    have hrelv := hzz G w
    cases ok with
    | true =>
      refine ⟨.tuple #[v, .bool false], ?_, PRel.tuple2 hrelv (.bool false)⟩
      simp only [Instr.lookup, Sem.run_bind, run_underlying htd', Result.andThen_ok, hget, Sem.run_pure, hck, hfk, hzr, if_true]
    | false =>
      refine ⟨v, ?_, hrelv⟩
      simp only [Instr.lookup, Sem.run_bind, run_underlying htd', Result.andThen_ok, hget, Sem.run_pure, hck, hfk, hzr, Bool.false_eq_true, if_false]
  · have hfk := run_findKey (P := P) (w := w) hkd hfn
    cases ok with
    | true =>
      refine ⟨.tuple #[u, .bool true], ?_, PRel.tuple2 hq (.bool true)⟩
      simp only [Instr.lookup, Sem.run_bind, run_underlying htd', Result.andThen_ok, hget, Sem.run_pure, hck, hfk, if_true]
    | false =>
      refine ⟨u, ?_, hq⟩
      simp only [Instr.lookup, Sem.run_bind, run_underlying htd', Result.andThen_ok, hget, Sem.run_pure, hck, hfk, Bool.false_eq_true, if_false]
end Go.Fh
