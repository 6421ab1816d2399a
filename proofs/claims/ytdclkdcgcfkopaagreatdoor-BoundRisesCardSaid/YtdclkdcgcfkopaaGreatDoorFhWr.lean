/- Operations that make or write variables of the call. -/
import Derived.Test.YtdclkdcgcfkopaaGreatDoorFhHp
set_option linter.all false
namespace Go.Fh
open Go.RowKit

def NextIs (x : Next) (v : Value) : Prop := x = .value v ∨ (x = .skip ∧ v = undef)
def RunW (P : Program) (d : Nat) (G : Ghost) (h : PHeap) (w : World) (s : Sem Next) (p : PV) (h' : PHeap) : Prop :=
  ∃ x v w' G', s.run P w = .ok x w' ∧ NextIs x v ∧ Ext G w G' w' ∧ SimH d G' h' w' ∧ PRel G' w' p v
theorem RunV.toW {P : Program} {d : Nat} {G : Ghost} {h : PHeap} {w : World} {s : Sem Next} {p : PV} (hr : RunV P d G h w s p) : RunW P d G h w s p h := by
  obtain ⟨v, w', h1, h2, h3, h4⟩ := hr
  exact ⟨_, v, w', G, h1, .inl rfl, h2, h3, h4⟩

/-- A new variable with these cells. -/
theorem new_cells {P : Program} {d : Nat} {G : Ghost} {h : PHeap} {w : World} (S : SimH d G h w) (k : Key) (hk : k.1 ≤ d) (hk0 : 0 < k.1) {ps : List PV} {vs : Array Value} (hr : PRels G w ps vs) (t : TypeId) :
    ∃ G', Ext G w G' (w.alloc (.cells vs t)) ∧ SimH d G' (h.set k ((h k).1 + 1, some (.cells ps))) (w.alloc (.cells vs t)) ∧ PRel G' (w.alloc (.cells vs t)) (.ptr k ((h k).1 + 1) 0) (.pointer (some ⟨w.heap.size, 0, none⟩)) := by
  let L : Loc := ⟨w.heap.size, 0, 0, vs.size⟩
  have E := Ext.of_bind_new S k (.cells vs t) L rfl
  refine ⟨G.bind k L, E, S.new hk hk0 (.cells vs t) L rfl (.cells ps) ?_, ?_⟩
  · refine .cells ps vs t rfl ?_ rfl (by simp [L]; exact Nat.le_of_eq hr.1) fun j p v hp hv => ?_
    · show (w.heap.push _)[w.heap.size]? = _
      simp
    · simp only [L, Nat.zero_add] at hv
      exact (hr.2 j p v hp hv).mono E
  · have hc := S.cnt k hk
    refine .ptr k _ 0 w.heap.size 0 (by simp; omega) fun e L' hL' => ?_
    simp at hL'
    subst hL'
    exact ⟨rfl, rfl⟩

def spliceP {α : Type} (l : List α) (o : Nat) (vs : List α) : List α := l.take o ++ vs ++ l.drop (o + vs.length)
theorem spliceP_length {α : Type} (l : List α) (o : Nat) (vs : List α) (h : o + vs.length ≤ l.length) : (spliceP l o vs).length = l.length := by simp [spliceP]; omega
theorem spliceP_get {α : Type} (l : List α) (o : Nat) (vs : List α) (h : o + vs.length ≤ l.length) (j : Nat) : (spliceP l o vs)[j]? = if j < o then l[j]? else if j < o + vs.length then vs[j - o]? else l[j]? := by
  unfold spliceP
  by_cases h1 : j < o
  · rw [if_pos h1, List.getElem?_append_left (by simp; omega), List.getElem?_append_left (by simp; omega), List.getElem?_take, if_pos h1]
  · rw [if_neg h1]
    by_cases h2 : j < o + vs.length
    · rw [if_pos h2, List.getElem?_append_left (by simp; omega), List.getElem?_append_right (by simp; omega)]
      congr 1
      simp
      omega
    · rw [if_neg h2, List.getElem?_append_right (by simp; omega), List.getElem?_drop]
      congr 1
      simp
      omega

/-- A store of cells into a row of the heap. -/
theorem run_storeVar {P : Program} {t : TypeId} {i : TI} (hi : tinfo P t = some i) {w : World} {b o : Nat} {cur : Array Value} {el : TypeId} (hh : w.heap[b]? = some (.cells cur el (0, 0))) {v : Value} (hs : v.cells.size = i.size) (hl : o + i.size ≤ cur.size)
    (h1 : ∀ u ∈ v.cells.toList, u.oneCell' = true) : (Instr.storeAt t (.pointer (some ⟨b, o, none⟩)) v).run P w = .ok () (w.setRow b (spliceP cur.toList o v.cells.toList).toArray) := by
  have := run_storeCells_at (P := P) b o el v.cells.toList 0 cur w hh (by simp; omega) h1
  simp only [Instr.storeAt, Instr.sureAddr, storeVar, Sem.run_bind, Sem.run_pure, Result.andThen_ok, run_sizeOf' hi, ne_eq, hs, not_true_eq_false, if_false, this]
  simp [spliceP]

theorem PRels.ones {G : Ghost} {w : World} {ps : List PV} {vs : Array Value} (h : PRels G w ps vs) (ho : ps.all PV.one = true) : ∀ u ∈ vs.toList, u.oneCell' = true := by
  intro u hu
  obtain ⟨i, hi, rfl⟩ := List.getElem_of_mem hu
  rw [Array.length_toList] at hi
  have hp := List.getElem?_eq_getElem (show i < ps.length by rw [h.1]; exact hi)
  have hr := h.2 i _ vs[i] hp (Array.getElem?_eq_getElem hi)
  rw [Array.getElem_toList]
  exact hr.oneCell (List.all_eq_true.1 ho _ (List.getElem_mem _))

theorem setRow_at {w : World} {b : Nat} {cur : Array Value} {el : TypeId} (hh : w.heap[b]? = some (.cells cur el (0, 0))) (cs : Array Value) : (w.setRow b cs).heap[b]? = some (.cells cs el (0, 0)) := setRow_heap w b cur cs el _ hh

/-- A piece of a variable is written. -/
theorem write_cells {d : Nat} {G : Ghost} {h : PHeap} {w : World} (S : SimH d G h w) {k : Key} {ver : Nat} {cs : List PV} (hk : h k = (ver, some (.cells cs))) {L : Loc} (hL : G.loc k = some L) {o : Nat} {ps : List PV} {vs : Array Value} (hr : PRels G w ps vs) (hl : o + ps.length ≤ cs.length) :
    ∃ cur el, w.heap[L.b]? = some (.cells cur el (0, 0)) ∧ L.base + o + vs.size ≤ cur.size ∧ Ext G w G (w.setRow L.b (spliceP cur.toList (L.base + o) vs.toList).toArray) ∧
      SimH d G (h.set k (ver, some (.cells (spliceP cs o ps)))) (w.setRow L.b (spliceP cur.toList (L.base + o) vs.toList).toArray) := by
  obtain ⟨L', hL', hc, hb, hO⟩ := S.at hk
  rw [hL] at hL'
  cases hL'
  cases hO with
  | cells _ cur el hlo hh hs hsz hrel =>
  refine ⟨cur, el, hh, by rw [← hr.1]; omega, ?_⟩
  have O := Only.setRow w L.b (spliceP cur.toList (L.base + o) vs.toList).toArray
  have E := Ext.of_only S hL hlo O
  refine ⟨E, ?_⟩
  have hlen : vs.toList.length = ps.length := by rw [Array.length_toList, hr.1]
  have hvs := hr.1
  have := S.upd hL hlo O (po := .cells (spliceP cs o ps)) (.cells _ _ el hlo (setRow_at hh _) (by simp; rw [spliceP_length _ _ _ (by simp; omega)]; simpa using hs) (by rw [spliceP_length _ _ _ hl]; exact hsz) fun j p v hp hv => ?_)
  · rw [hk] at this
    exact this
  · rw [spliceP_get _ _ _ hl] at hp
    rw [List.getElem?_toArray, spliceP_get _ _ _ (by simp; omega), hlen] at hv
    by_cases h1 : j < o
    · rw [if_pos h1] at hp
      rw [if_pos (by omega), Array.getElem?_toList] at hv
      exact (hrel j p v hp hv).mono E
    · rw [if_neg h1] at hp
      rw [if_neg (by omega)] at hv
      by_cases h2 : j < o + ps.length
      · rw [if_pos h2] at hp
        rw [if_pos (by omega), Array.getElem?_toList, show L.base + j - (L.base + o) = j - o by omega] at hv
        exact (hr.2 _ p v hp hv).mono E
      · rw [if_neg h2] at hp
        rw [if_neg (by omega), Array.getElem?_toList] at hv
        exact (hrel j p v hp hv).mono E

/-- A piece of an element of a row is written. -/
theorem write_row {d : Nat} {G : Ghost} {h : PHeap} {w : World} (S : SimH d G h w) {k : Key} {ver sz : Nat} {es : List PV} (hk : h k = (ver, some (.row sz es))) {L : Loc} (hL : G.loc k = some L) {idx fo : Nat} {e e' : PV} (he : es[idx]? = some e) {ps : List PV} {vs : Array Value} (hr : PRels G w ps vs) (hl : fo + ps.length ≤ e.cells.length)
    (he' : e'.cells = spliceP e.cells fo ps) :
    ∃ cur el, w.heap[L.b]? = some (.cells cur el (0, 0)) ∧ L.base + (idx * sz + fo) + vs.size ≤ cur.size ∧ Ext G w G (w.setRow L.b (spliceP cur.toList (L.base + (idx * sz + fo)) vs.toList).toArray) ∧
      SimH d G (h.set k (ver, some (.row sz (es.set idx e')))) (w.setRow L.b (spliceP cur.toList (L.base + (idx * sz + fo)) vs.toList).toArray) := by
  obtain ⟨L', hL', hc, hb, hO⟩ := S.at hk
  rw [hL] at hL'
  cases hL'
  cases hO with
  | row _ _ cur el hlo hh hs hsz hsize hes hrel =>
  have hi := (List.getElem?_eq_some_iff.1 he).1
  have hel := hes idx e he
  have hfit : idx * sz + fo + ps.length ≤ es.length * sz := by
    have := Nat.mul_le_mul_right sz (show idx + 1 ≤ es.length from hi)
    rw [Nat.succ_mul] at this
    omega
  refine ⟨cur, el, hh, by rw [← hr.1]; omega, ?_⟩
  have O := Only.setRow w L.b (spliceP cur.toList (L.base + (idx * sz + fo)) vs.toList).toArray
  have E := Ext.of_only S hL hlo O
  refine ⟨E, ?_⟩
  have hlen : vs.toList.length = ps.length := by rw [Array.length_toList, hr.1]
  have hvs := hr.1
  have := S.upd hL hlo O (po := .row sz (es.set idx e')) (.row _ _ _ el hlo (setRow_at hh _) (by simp; rw [spliceP_length _ _ _ (by simp; omega)]; simpa using hs) hsz (by simpa using hsize) (fun i q hq => ?_) fun i q j p v hq hp hv => ?_)
  · rw [hk] at this
    exact this
  · rw [List.getElem?_set] at hq
    split at hq
    · first
      | (cases hq; rw [he', spliceP_length _ _ _ hl]; exact hel)
      | (split at hq
         · cases hq; rw [he', spliceP_length _ _ _ hl]; exact hel
         · cases hq)
    · exact hes i q hq
  · rw [List.getElem?_toArray, spliceP_get _ _ _ (by simp; omega), hlen] at hv
    rw [List.getElem?_set] at hq
    by_cases hidx : idx = i
    · subst hidx
      rw [if_pos rfl, if_pos hi] at hq
      cases hq
      rw [he', spliceP_get _ _ _ hl] at hp
      by_cases h1 : j < fo
      · rw [if_pos h1] at hp
        rw [if_pos (by omega), Array.getElem?_toList] at hv
        exact (hrel idx e j p v he hp hv).mono E
      · rw [if_neg h1] at hp
        rw [if_neg (by omega)] at hv
        by_cases h2 : j < fo + ps.length
        · rw [if_pos h2] at hp
          rw [if_pos (by omega), Array.getElem?_toList, show L.base + (idx * sz + j) - (L.base + (idx * sz + fo)) = j - fo by omega] at hv
          exact (hr.2 _ p v hp hv).mono E
        · rw [if_neg h2] at hp
          rw [if_neg (by omega), Array.getElem?_toList] at hv
          exact (hrel idx e j p v he hp hv).mono E
    · rw [if_neg hidx] at hq
      have hj := (List.getElem?_eq_some_iff.1 hp).1
      rw [hes i q hq] at hj
      have hout : i * sz + j < idx * sz + fo ∨ idx * sz + fo + ps.length ≤ i * sz + j := by
        rcases Nat.lt_or_ge i idx with hlt | hge
        · left
          have := mul_add_lt hlt hj
          omega
        · right
          have := Nat.mul_le_mul_right sz (show idx + 1 ≤ i by omega)
          rw [Nat.succ_mul] at this
          omega
      have hv' : cur[L.base + (i * sz + j)]? = some v := by
        rcases hout with h1 | h1
        · rwa [if_pos (by omega), Array.getElem?_toList] at hv
        · rwa [if_neg (by omega), if_neg (by omega), Array.getElem?_toList] at hv
      exact (hrel i q j p v hq hp hv').mono E

/-- What is written: a new variable, or a piece of one. -/
def evW (P : Program) (d : Nat) (mu : Nat → Bool) (dst : Option Tmp) (op : Op) (ρ : Operand → PV) (h : PHeap) : Option (PV × PHeap) :=
  match op with
  | .alloc t =>
    match dst, tinfo P t with
    | some n, some { zero := some z, .. } => some (.ptr (d, n) ((h (d, n)).1 + 1) 0, h.set (d, n) ((h (d, n)).1 + 1, some (.cells z)))
    | _, _ => none
  | .box _ x =>
    match dst with
    | some n => if mu n = true ∧ (ρ x).solid = true then some (.ptr (d, n) ((h (d, n)).1 + 1) 0, h.set (d, n) ((h (d, n)).1 + 1, some (.cells (ρ x).cells))) else none
    | none => none
  | .store t a x =>
    match tinfo P t with
    | some i => if (ρ x).solid = true ∧ (ρ x).cells.length = i.size ∧ (ρ x).cells.all PV.one = true then
      (match ρ a with
      | .ptr k ver o => match h k with
        | (v, some (.cells cs)) => if v = ver ∧ o + i.size ≤ cs.length then some (.dead, h.set k (ver, some (.cells (spliceP cs o (ρ x).cells)))) else none
        | _ => none
      | .eptr k ver sz idx fo => match h k with
        | (v, some (.row sz' es)) => if v = ver ∧ sz' = sz then (match es[idx]? with
          | some e => if fo + i.size ≤ e.cells.length then some (.dead, h.set k (ver, some (.row sz (es.set idx (if fo = 0 ∧ i.size = e.cells.length then ρ x else .agg (spliceP e.cells fo (ρ x).cells)))))) else none
          | none => none) else none
        | (v, some (.cells cs)) => if v = ver ∧ idx * sz + fo + i.size ≤ cs.length then some (.dead, h.set k (ver, some (.cells (spliceP cs (idx * sz + fo) (ρ x).cells)))) else none
        | _ => none
      | _ => none) else none
    | none => none
  | _ => none

theorem evW_sound {P : Program} {d : Nat} {mu : Nat → Bool} {o : Oper} {ρ : Operand → PV} {ρv : Operand → Value} {r : PV} {G : Ghost} {h h' : PHeap} {w : World} (hd0 : 0 < d) (S : SimH d G h w) (hρ : ∀ x, PRel G w (ρ x) (ρv x))
    (hev : evW P d mu o.dst o.op ρ h = some (r, h')) : RunW P d G h w (execOp ρv o) r h' := by
  unfold evW at hev
  unfold execOp
  split at hev <;> rename_i hop <;> simp only [hop]
  · rename_i t
    split at hev
    · rename_i n k sz by0 z hd hi
      cases hev
      obtain ⟨v, hz, hzs, hzr⟩ := run_zeroValue' hi rfl w
      obtain ⟨G', E, S', hp⟩ := new_cells (P := P) S (d, n) (Nat.le_refl d) hd0 (hzr G w) t
      refine ⟨_, _, _, G', ?_, .inl rfl, E, S', hp⟩
      simp only [Instr.alloc, newVar, newRow, Sem.run_bind, hz, Result.andThen_ok, run_newObj, Sem.run_pure]
      rfl
    · cases hev
  · rename_i t x
    split at hev
    · rename_i n hd
      split at hev
      · rename_i hc
        cases hev
        obtain ⟨G', E, S', hp⟩ := new_cells (P := P) S (d, n) (Nat.le_refl d) hd0 ((hρ x).cells hc.2) t
        refine ⟨_, _, _, G', ?_, .inl rfl, E, S', hp⟩
        simp only [Instr.box, newVar, newRow, Sem.run_bind, Result.andThen_ok, run_newObj, Sem.run_pure]
        rfl
      · cases hev
    · cases hev
  · rename_i t a x
    split at hev
    · rename_i i hi
      split at hev
      · rename_i hcond
        obtain ⟨hsol, hlen, hone⟩ := hcond
        have hcs := (hρ x).cells hsol
        have hones := hcs.ones hone
        split at hev
        · rename_i k ver o' ha
          have hp := hρ a
          rw [ha] at hp
          split at hev
          · rename_i v cs hk
            split at hev
            · rename_i hc
              obtain ⟨rfl, hl⟩ := hc
              cases hev
              obtain ⟨L, hL, hcn, hb, hO⟩ := S.at hk
              generalize ρv a = u at *
              cases hp with
              | ptr _ _ _ b o hv hl' =>
              obtain ⟨rfl, rfl⟩ := hl' hcn L hL
              obtain ⟨cur, el, hh, hfit, E, S'⟩ := write_cells S hk hL hcs (o := o') (by omega)
              have hrun := run_storeVar (P := P) hi hh (v := ρv x) (o := L.base + o') (by rw [← hcs.1, hlen]) (by rw [← hcs.1] at hfit; omega) hones
              exact ⟨.skip, undef, _, G, by simp only [Sem.run_bind, hrun, Result.andThen_ok, Sem.run_pure], .inr ⟨rfl, rfl⟩, E, S', .dead _⟩
            · cases hev
          · cases hev
        · rename_i k ver sz idx fo ha
          have hp := hρ a
          rw [ha] at hp
          split at hev
          · rename_i v sz' es hk
            split at hev
            · rename_i hc
              obtain ⟨rfl, rfl⟩ := hc
              split at hev
              · rename_i e he
                split at hev
                · rename_i hl
                  cases hev
                  obtain ⟨L, hL, hcn, hb, hO⟩ := S.at hk
                  generalize ρv a = u at *
                  cases hp with
                  | eptr _ _ _ _ _ b o hv hl' =>
                  obtain ⟨rfl, rfl⟩ := hl' hcn L hL
                  have he' : (if fo = 0 ∧ i.size = e.cells.length then ρ x else PV.agg (spliceP e.cells fo (ρ x).cells)).cells = spliceP e.cells fo (ρ x).cells := by
                    split
                    · rename_i hc
                      obtain ⟨rfl, hc⟩ := hc
                      simp only [spliceP, List.take_zero, List.nil_append, Nat.zero_add]
                      rw [List.drop_eq_nil_of_le (by omega), List.append_nil]
                    · rfl
                  obtain ⟨cur, el, hh, hfit, E, S'⟩ := write_row S hk hL he hcs (fo := fo) (by omega) he'
                  have hrun := run_storeVar (P := P) hi hh (v := ρv x) (o := L.base + (idx * sz' + fo)) (by rw [← hcs.1, hlen]) (by rw [← hcs.1] at hfit; omega) hones
                  exact ⟨.skip, undef, _, G, by simp only [Sem.run_bind, hrun, Result.andThen_ok, Sem.run_pure], .inr ⟨rfl, rfl⟩, E, S', .dead _⟩
                · cases hev
              · cases hev
            · cases hev
          · rename_i v cs hk
            split at hev
            · rename_i hc
              obtain ⟨rfl, hl⟩ := hc
              cases hev
              obtain ⟨L, hL, hcn, hb, hO⟩ := S.at hk
              generalize ρv a = u at *
              cases hp with
              | eptr _ _ _ _ _ b o hv hl' =>
              obtain ⟨rfl, rfl⟩ := hl' hcn L hL
              obtain ⟨cur, el, hh, hfit, E, S'⟩ := write_cells S hk hL hcs (o := idx * sz + fo) (by omega)
              have hrun := run_storeVar (P := P) hi hh (v := ρv x) (o := L.base + (idx * sz + fo)) (by rw [← hcs.1, hlen]) (by rw [← hcs.1] at hfit; omega) hones
              exact ⟨.skip, undef, _, G, by simp only [Sem.run_bind, hrun, Result.andThen_ok, Sem.run_pure], .inr ⟨rfl, rfl⟩, E, S', .dead _⟩
            · cases hev
          · cases hev
        · cases hev
      · cases hev
    · cases hev
  · cases hev
end Go.Fh
