/- What a function does, over pure values; how one is called; how its body shows it. -/
import Derived.Test.YtdclkdcgcfkopaaGreatDoorFhLogic
set_option linter.all false
namespace Go.Fh
open Go.RowKit

inductive POut where
  | ret (r : PV)
  | pan (p : PV)
inductive OutIs (G : Ghost) (w : World) : POut → Ending → Prop where
  | ret (r : PV) (v : Value) (h : PRel G w r v) : OutIs G w (.ret r) (.returned v)
  | pan (p : PV) (v : Value) (h : PRel G w p v) : OutIs G w (.pan p) (.panicked [{ v, recovered := false }])

def Into (P : Program) (f : FuncId) : Prop := ∃ fn, P.funcs[f]? = some fn ∧ (fn.name == "runtime.NumGoroutine") = false ∧ fn.body.isNone = false

/-- Called at depth d with these values, over these variables, a function ends so. -/
def FnSpec (P : Program) (d : Nat) (f : FuncId) (args : List PV) (h : PHeap) (Post : POut → PHeap → Prop) : Prop :=
  Into P f ∧ ∀ G w vs, SimH d G h w → PRels G w args vs → Calls P f vs w fun e w' => ∃ po G' h', Ext G w G' w' ∧ SimH d G' h' w' ∧ OutIs G' w' po e ∧ Post po h'
/-- It returns that, and leaves the variables alone. -/
def FnRet (P : Program) (d : Nat) (f : FuncId) (args : List PV) (h : PHeap) (r : PV) : Prop := FnSpec P d f args h fun po h' => po = .ret r ∧ h' = h

theorem FnSpec.mono {P : Program} {d : Nat} {f : FuncId} {args : List PV} {h : PHeap} {Post Post' : POut → PHeap → Prop} (hs : FnSpec P d f args h Post) (hp : ∀ po h', Post po h' → Post' po h') : FnSpec P d f args h Post' :=
  ⟨hs.1, fun G w vs S R => (hs.2 G w vs S R).mono fun e w' ⟨po, G', h', a, b, c, q⟩ => ⟨po, G', h', a, b, c, hp _ _ q⟩⟩

/-- A call of a function that returns that. -/
theorem FnRet.use {P : Program} {d : Nat} {f : FuncId} {args : List PV} {h : PHeap} {r : PV} {Post : POut → PHeap → Prop} (hs : FnRet P d f args h r) (k : Post (.ret r) h) : FnSpec P d f args h Post :=
  FnSpec.mono hs fun po h' ⟨e1, e2⟩ => by rw [e1, e2]; exact k

theorem PRels.append {G : Ghost} {w : World} {ps qs : List PV} {vs us : Array Value} (h : PRels G w ps vs) (k : PRels G w qs us) : PRels G w (ps ++ qs) (vs ++ us) := by
  refine ⟨by simp [h.1, k.1], fun i p v hp hv => ?_⟩
  rw [List.getElem?_append] at hp
  rw [Array.getElem?_append, ← h.1] at hv
  split at hp
  · rename_i hi; rw [if_pos hi] at hv; exact h.2 i p v hp hv
  · rename_i hi; rw [if_neg hi] at hv; exact k.2 _ p v hp hv

theorem Sim.rels {d m : Nat} {G : Ghost} {σ : St} {a : Act} {w : World} (S : Sim d m G σ a w) (xs : Array Operand) : PRels G w (xs.toList.map (rho σ)) (xs.map a.eval) := by
  refine ⟨by simp, fun i p v hp hv => ?_⟩
  simp only [List.getElem?_map, Array.getElem?_toList, Array.getElem?_map, Option.map_eq_some_iff] at hp hv
  obtain ⟨x, hx, rfl⟩ := hp
  obtain ⟨y, hy, rfl⟩ := hv
  rw [hx] at hy
  cases hy
  exact S.eval x

def PCall (next : PV → PHeap → Prop) (Q : PExit → St → Prop) (σ : St) : POut → PHeap → Prop
  | .ret r, h' => next r h'
  | .pan p, h' => Q (.panic p) { σ with h := h' }

section
variable {P : Program} {d m : Nat} {Q : PExit → St → Prop} {σ : St} {ops : Array Oper} {o : Oper} {l : List Oper}
theorem TOps.call {fo : Operand} {args : Array Operand} {ts : Array TypeId} {f : FuncId} {first cap : List PV} {Post : POut → PHeap → Prop} (ok : opsOk m ops [o] = true) (hg : guardP ops σ o = some true)
    (ho : o.op = .call { callee := .value fo, args, argTypes := ts }) (hf : rho σ fo = .fn (.func f) first cap) (hs : FnSpec P d f (first ++ args.toList.map (rho σ) ++ cap) σ.h Post)
    (h : ∀ po h', Post po h' → PCall (fun r h' => TOps P d m ops l Q (σ.put o.dst r h')) Q σ po h') : TOps P d m ops (o :: l) Q σ := fun G a w S => by
  simp only [opsOk, List.all_cons, List.all_nil, Bool.and_true, Bool.and_eq_true] at ok
  refine wpList_step fun K hK => ?_
  rw [if_pos (guardP_sound S hg (guardOk_lt ok.2))]
  have hv := S.eval fo
  rw [hf] at hv
  generalize hfv : a.eval fo = fv at hv
  cases hv with
  | fn _ _ _ vf vc hn hm hr1 hr2 =>
  obtain ⟨⟨fn, hfn, hname, hbody⟩, hcalls⟩ := hs
  have hrun : (execOp a.eval o).run P w = .ok (.enter f (vf ++ args.map a.eval ++ vc)) w := by
    unfold execOp
    simp only [ho, resolve, hfv, Deferred.ofValue, invoke, callFunc, Sem.run_bind, Sem.run_pure, Result.andThen_ok, run_program, hfn, hname, Bool.false_eq_true, if_false, hbody]
  unfold Oper.wp
  rw [hrun, Oper.upon_enter]
  have R : PRels G w (first ++ args.toList.map (rho σ) ++ cap) (vf ++ args.map a.eval ++ vc) := (PRels.append ⟨hn, hr1⟩ (S.rels args)).append ⟨hm, hr2⟩
  refine (hcalls G w _ S.heap R).mono fun e w' hp => ?_
  obtain ⟨po, G', h', E, S', hO, hPost⟩ := hp
  have hk := h po h' hPost
  cases hO with
  | ret r v hr =>
    exact hK _ _ (wpList_mono (fun e a w hp => hp.later E) (hk G' _ w' (S.put E S' hr (dstOk_lt ok.1))))
  | pan p v hr =>
    exact ⟨.panic p, G', { σ with h := h' }, .panic p v hr, E, ⟨S.size, S.defers, fun i => (S.tmps i).mono E, S'⟩, hk⟩
theorem TOps.skip (ok : opsOk m ops [o] = true) (hg : guardP ops σ o = some false) (h : TOps P d m ops l Q (σ.put o.dst (.tuple []) σ.h)) : TOps P d m ops (o :: l) Q σ := fun G a w S => by
  simp only [opsOk, List.all_cons, List.all_nil, Bool.and_true, Bool.and_eq_true] at ok
  refine wpList_step fun K hK => ?_
  rw [if_neg (by rw [guardP_sound S hg (guardOk_lt ok.2)]; simp)]
  exact hK _ _ (h G _ w (S.put (Ext.refl G w) S.heap (PRel.undef G w) (dstOk_lt ok.1)))
theorem TWp.region {id : Nat} (h : TOps P d m ops ops.toList Q σ) : TWp P d m (.region id ops false) Q σ := fun G a w S => wp_region_list (h G a w S)

/-- A state of which less is told. -/
theorem TOps.weaken {σ' : St} (hw : ∀ G a w, Sim d m G σ a w → Sim d m G σ' a w) (h : TOps P d m ops l Q σ') : TOps P d m ops l Q σ := fun G a w S => h G a w (hw G a w S)
theorem TWp.weaken {c : Code} {σ' : St} (hw : ∀ G a w, Sim d m G σ a w → Sim d m G σ' a w) (h : TWp P d m c Q σ') : TWp P d m c Q σ := fun G a w S => h G a w (hw G a w S)

def isCall : Op → Bool
  | .call { callee := .value _, .. } => true
  | _ => false
/-- As far as there is no call. -/
def runOps (P : Program) (d : Nat) (mu : Nat → Bool) (ops : Array Oper) : List Oper → St → Option (St × List Oper)
  | [], σ => some (σ, [])
  | o :: l, σ =>
    match guardP ops σ o with
    | some false => runOps P d mu ops l (σ.put o.dst (.tuple []) σ.h)
    | some true => if isCall o.op = true then some (σ, o :: l) else
      match ev P d mu o (rho σ) σ.h with
      | some (v, h') => runOps P d mu ops l (σ.put o.dst v h')
      | none => none
    | none => none
theorem opsOk_tail (h : opsOk m ops (o :: l) = true) : opsOk m ops [o] = true ∧ opsOk m ops l = true := by
  simp only [opsOk, List.all_cons, List.all_nil, Bool.and_true, Bool.and_eq_true] at h ⊢
  exact h
theorem TOps.run (hd0 : 0 < d) {mu : Nat → Bool} : ∀ {l : List Oper} {σ σ' : St} {l' : List Oper}, opsOk m ops l = true → runOps P d mu ops l σ = some (σ', l') → TOps P d m ops l' Q σ' → TOps P d m ops l Q σ
  | [], σ, σ', l', _, h, k => by simp only [runOps, Option.some.injEq, Prod.mk.injEq] at h; obtain ⟨rfl, rfl⟩ := h; exact k
  | o :: l, σ, σ', l', ok, h, k => by
    have ok' := opsOk_tail ok
    simp only [runOps] at h
    split at h
    · rename_i hg
      exact TOps.skip ok'.1 hg (TOps.run hd0 ok'.2 h k)
    · rename_i hg
      split at h
      · simp only [Option.some.injEq, Prod.mk.injEq] at h; obtain ⟨rfl, rfl⟩ := h; exact k
      · split at h
        · rename_i v h' hev
          exact TOps.of_run ok'.1 hg (fun G a w S => ev_sound hd0 S.heap S.eval hev) (TOps.run hd0 ok'.2 h k)
        · cases h
    · cases h
end

/-! ### From the body to the function -/
def enterH (d : Nat) (c : Key → Nat) (h : PHeap) : PHeap := fun k => if k.1 ≤ d then h k else (c k, none)
def leaveH (d : Nat) (h' h : PHeap) : PHeap := fun k => if k.1 ≤ d then h' k else h k
def Ghost.cut (d : Nat) (G : Ghost) : Ghost := { loc := fun k => if k.1 ≤ d then G.loc k else none, cnt := G.cnt }

theorem SimH.enter {d : Nat} {G : Ghost} {h : PHeap} {w : World} (S : SimH d G h w) : SimH (d + 1) G (enterH d G.cnt h) w where
  cnt k hk := by
    unfold enterH
    split
    · rename_i h1; exact S.cnt k h1
    · rfl
  obj k L hk := by
    obtain ⟨h1, h2, o, h3, h4⟩ := S.obj k L hk
    exact ⟨by omega, h2, o, by unfold enterH; rw [if_pos h1]; exact h3, h4⟩
  live k o ho hc := by
    unfold enterH at ho
    split at ho
    · exact S.live k o ho hc
    · cases ho
  shut k hk := by
    unfold enterH
    rw [if_neg (by omega)]
  glob g cs hg := by
    unfold enterH at hg
    rw [if_pos (Nat.zero_le d)] at hg
    exact S.glob g cs hg
  apart := S.apart
theorem Ext.cut (d : Nat) (G : Ghost) (w : World) : Ext G w (G.cut d) w where
  os := rfl
  output := rfl
  tape := rfl
  size := Nat.le_refl _
  block b hb hm := rfl
  cell b o hb hm := rfl
  keep b o hb hm := by
    rintro ⟨k, L, hk, h1, h2⟩
    simp only [Ghost.cut] at hk
    split at hk
    · exact hm ⟨k, L, hk, h1, h2⟩
    · cases hk
  cnt k := Nat.le_refl _
  loc k L hk _ := by
    simp only [Ghost.cut] at hk
    split at hk
    · exact hk
    · cases hk
theorem SimH.leave {d : Nat} {G : Ghost} {h' : PHeap} {w : World} (S : SimH (d + 1) G h' w) (h : PHeap) (hd : ∀ k, d < k.1 → (h k).2 = none) : SimH d (G.cut d) (leaveH d h' h) w where
  cnt k hk := by
    unfold leaveH
    rw [if_pos hk]
    exact S.cnt k (by omega)
  obj k L hk := by
    simp only [Ghost.cut] at hk
    split at hk
    · rename_i hkd
      obtain ⟨h1, h2, o, h3, h4⟩ := S.obj k L hk
      exact ⟨hkd, h2, o, by unfold leaveH; rw [if_pos hkd]; exact h3, h4.mono (Ext.cut d G w) rfl⟩
    · cases hk
  live k o ho hc := by
    unfold leaveH at ho
    split at ho
    · rename_i hkd
      obtain ⟨L, hL⟩ := S.live k o ho hc
      exact ⟨L, by simp [Ghost.cut, hkd, hL]⟩
    · rw [hd k (by omega)] at ho; cases ho
  shut k hk := by
    unfold leaveH
    rw [if_neg (by omega)]
    exact hd k hk
  glob g cs hg := by
    unfold leaveH at hg
    rw [if_pos (Nat.zero_le d)] at hg
    exact (S.glob g cs hg).mono (Ext.cut d G w)
  apart k k' L L' h1 h2 hne := by
    simp only [Ghost.cut] at h1 h2
    split at h1
    · split at h2
      · exact S.apart k k' L L' h1 h2 hne
      · cases h2
    · cases h1

/-- What was a row or a variable of the call's own is handed back as something that nobody writes any more. -/
inductive Froze (d : Nat) (h : PHeap) : PV → PV → Prop where
  | same (r : PV) : Froze d h r r
  | row (k : Key) (ver sz off len : Nat) (cap : Option Nat) (es : List PV) (hk : d < k.1) (he : h k = (ver, some (.row sz es))) (hl : off + len ≤ es.length) : Froze d h (.row k ver sz off len cap) (.list .any ((es.drop off).take len))
  | cells (k : Key) (ver off len : Nat) (cap : Option Nat) (cs : List PV) (hk : d < k.1) (he : h k = (ver, some (.cells cs))) (hl : off + len ≤ cs.length) (ho : ∀ c ∈ cs, c.cells.length = 1 ∧ c.cells = [c]) : Froze d h (.row k ver 1 off len cap) (.list .any ((cs.drop off).take len))
  | ptr (k : Key) (ver off : Nat) (cs : List PV) (hk : d < k.1) (he : h k = (ver, some (.cells cs))) : Froze d h (.ptr k ver off) (.iptr (cs.drop off))
  | any (r : Room) (es : List PV) : Froze d h (.list r es) (.list .any es)
  | agg (cs cs' : List PV) (hn : cs.length = cs'.length) (hh : ∀ (i : Nat) (p q : PV), cs[i]? = some p → cs'[i]? = some q → Froze d h p q) : Froze d h (.agg cs) (.agg cs')
  | tuple (cs cs' : List PV) (hn : cs.length = cs'.length) (hh : ∀ (i : Nat) (p q : PV), cs[i]? = some p → cs'[i]? = some q → Froze d h p q) : Froze d h (.tuple cs) (.tuple cs')

theorem not_M_cut {d : Nat} {G : Ghost} {h : PHeap} {w : World} (S : SimH (d + 1) G h w) {k : Key} {L : Loc} (hL : G.loc k = some L) (hk : d < k.1) (o : Nat) : ¬ (G.cut d).M L.b o := by
  rintro ⟨q, L', hq, h1, _⟩
  simp only [Ghost.cut] at hq
  split at hq
  · exact S.apart q k L' L hq hL (by intro e; subst e; omega) h1
  · cases hq

theorem Froze.sound {d : Nat} {G : Ghost} {h : PHeap} {w : World} (S : SimH (d + 1) G h w) {p q : PV} (hf : Froze d h p q) : ∀ {v : Value}, PRel G w p v → PRel (G.cut d) w q v := by
  induction hf with
  | same r => exact fun hp => hp.mono (Ext.cut d G w)
  | any r es =>
    intro v hp
    have := hp.mono (Ext.cut d G w)
    cases this with
    | list _ _ A c b off sz vs hc hr hsz hA hM hes hcell hrel => exact .list .any es A c b off sz vs hc trivial hsz hA hM hes hcell hrel
  | row k ver sz off len cap es hk he hl =>
    intro v hp
    obtain ⟨L, hL, hc, hb, hO⟩ := S.at he
    cases hp with
    | row _ _ _ _ _ b o c _ hcc hcap hv hll =>
    obtain ⟨rfl, rfl, hsize⟩ := hll hc L hL
    have hsz : 0 < sz := by cases hO; assumption
    have hes : ∀ (i : Nat) (e : PV), es[i]? = some e → e.cells.length = sz := by cases hO; assumption
    have hget : ∀ (i : Nat) (e : PV), ((es.drop off).take len)[i]? = some e → es[off + i]? = some e := by
      intro i e h1
      rw [List.getElem?_take] at h1
      split at h1
      · rwa [List.getElem?_drop] at h1
      · cases h1
    have := PRel.list (G := G.cut d) (w := w) .any ((es.drop off).take len) (some ⟨L.b, L.base + off * sz, none⟩) c L.b (L.base + off * sz) sz (fun i j => (w.cell? ⟨L.b, L.base + off * sz + (i * sz + j), none⟩).getD undef)
      (by simp; omega) trivial hsz (fun _ => rfl) (fun o' _ _ => not_M_cut S hL hk o') (fun i e h1 => hes _ e (hget i e h1)) (fun i e j p h1 h2 => ?_) (fun i e j p h1 h2 => ?_)
    · rwa [show ((es.drop off).take len).length = len by simp; omega] at this
    · obtain ⟨u, h3, _⟩ := hO.row_at (hget i e h1) h2
      rw [Nat.add_mul] at h3
      have e1 : L.base + off * sz + (i * sz + j) = L.base + (off * sz + i * sz + j) := by omega
      rw [e1, h3]
      rfl
    · obtain ⟨u, h3, h4⟩ := hO.row_at (hget i e h1) h2
      rw [Nat.add_mul] at h3
      have e1 : L.base + off * sz + (i * sz + j) = L.base + (off * sz + i * sz + j) := by omega
      show PRel _ _ _ ((w.cell? _).getD undef)
      rw [e1, h3]
      exact h4.mono (Ext.cut d G w)
  | cells k ver off len cap cs hk he hl ho =>
    intro v hp
    obtain ⟨L, hL, hc, hb, hO⟩ := S.at he
    cases hp with
    | row _ _ _ _ _ b o c _ hcc hcap hv hll =>
    obtain ⟨rfl, rfl, hsize⟩ := hll hc L hL
    have hget : ∀ (i : Nat) (e : PV), ((cs.drop off).take len)[i]? = some e → cs[off + i]? = some e := by
      intro i e h1
      rw [List.getElem?_take] at h1
      split at h1
      · rwa [List.getElem?_drop] at h1
      · cases h1
    have hone : ∀ (i : Nat) (e : PV), ((cs.drop off).take len)[i]? = some e → e.cells.length = 1 := fun i e h1 => (ho e (List.mem_of_getElem? (hget i e h1))).1
    have hsame : ∀ (i : Nat) (e : PV) (j : Nat) (p : PV), ((cs.drop off).take len)[i]? = some e → e.cells[j]? = some p → j = 0 ∧ cs[off + i]? = some p := by
      intro i e j p h1 h2
      have hj := (List.getElem?_eq_some_iff.1 h2).1
      rw [hone i e h1] at hj
      obtain rfl : j = 0 := by omega
      have := (ho e (List.mem_of_getElem? (hget i e h1))).2
      rw [this] at h2
      simp at h2
      subst h2
      exact ⟨rfl, hget i _ h1⟩
    have := PRel.list (G := G.cut d) (w := w) .any ((cs.drop off).take len) (some ⟨L.b, L.base + off * 1, none⟩) c L.b (L.base + off * 1) 1 (fun i j => (w.cell? ⟨L.b, L.base + off * 1 + (i * 1 + j), none⟩).getD undef)
      (by simp; omega) trivial (by omega) (fun _ => rfl) (fun o' _ _ => not_M_cut S hL hk o') hone (fun i e j p h1 h2 => ?_) (fun i e j p h1 h2 => ?_)
    · rwa [show ((cs.drop off).take len).length = len by simp; omega] at this
    · obtain ⟨rfl, h3⟩ := hsame i e j p h1 h2
      obtain ⟨u, h4, _⟩ := hO.cells_at h3
      have e1 : L.base + off * 1 + (i * 1 + 0) = L.base + (off + i) := by omega
      rw [e1, h4]
      rfl
    · obtain ⟨rfl, h3⟩ := hsame i e j p h1 h2
      obtain ⟨u, h4, h5⟩ := hO.cells_at h3
      have e1 : L.base + off * 1 + (i * 1 + 0) = L.base + (off + i) := by omega
      show PRel _ _ _ ((w.cell? _).getD undef)
      rw [e1, h4]
      exact h5.mono (Ext.cut d G w)
  | ptr k ver off cs hk he =>
    intro v hp
    obtain ⟨L, hL, hc, hb, hO⟩ := S.at he
    cases hp with
    | ptr _ _ _ b o hv hll =>
    obtain ⟨rfl, rfl⟩ := hll hc L hL
    refine .iptr _ _ _ (fun j => (w.cell? ⟨L.b, L.base + off + j, none⟩).getD undef) (fun o' _ _ => not_M_cut S hL hk o') (fun j p h1 => ?_) (fun j p h1 => ?_)
    · rw [List.getElem?_drop] at h1
      obtain ⟨u, h3, _⟩ := hO.cells_at h1
      rw [Nat.add_assoc, h3]
      rfl
    · rw [List.getElem?_drop] at h1
      obtain ⟨u, h3, h4⟩ := hO.cells_at h1
      show PRel _ _ _ ((w.cell? _).getD undef)
      rw [Nat.add_assoc, h3]
      exact h4.mono (Ext.cut d G w)
  | agg cs cs' hn hh ih =>
    intro v hp
    cases hp with
    | agg _ vs hm hr =>
    refine .agg _ _ (by omega) fun i q v hq hv => ?_
    have hi := (List.getElem?_eq_some_iff.1 hq).1
    exact ih i cs[i] q (List.getElem?_eq_getElem (by omega)) hq (hr i _ v (List.getElem?_eq_getElem (by omega)) hv)
  | tuple cs cs' hn hh ih =>
    intro v hp
    cases hp with
    | tuple _ vs hm hr =>
    refine .tuple _ _ (by omega) fun i q v hq hv => ?_
    have hi := (List.getElem?_eq_some_iff.1 hq).1
    exact ih i cs[i] q (List.getElem?_eq_getElem (by omega)) hq (hr i _ v (List.getElem?_eq_getElem (by omega)) hv)

def resOne (P : Program) (σ : St) : ResultVar → Option PV
  | .tmp t => some (σ.t t)
  | .cell a t => match tinfo P t, σ.t a with
    | some i, .ptr k ver o => match σ.h k with
      | (v, some (.cells cs)) => if v = ver then partP i.agg i.size (cs.drop o) else none
      | _ => none
    | _, _ => none
def resAll (P : Program) (σ : St) : List ResultVar → Option (List PV)
  | [] => some []
  | r :: rs => match resOne P σ r, resAll P σ rs with
    | some p, some ps => some (p :: ps)
    | _, _ => none
def resP (P : Program) (fn : Func) (σ : St) : Option PV :=
  match resAll P σ fn.results.toList with
  | some [p] => some p
  | some ps => some (.tuple ps)
  | none => none

theorem resOne_sound {P : Program} {d m : Nat} {G : Ghost} {σ : St} {a : Act} {w : World} (S : Sim d m G σ a w) {r : ResultVar} {p : PV} (h : resOne P σ r = some p) :
    ∃ v, (match r with
      | .tmp t => pure (a.tmps.getD t undef)
      | .cell c t => do loadVar t (← asAddr (a.tmps.getD c undef)) : Sem Value).run P w = .ok v w ∧ PRel G w p v := by
  cases r with
  | tmp t =>
    simp only [resOne, Option.some.injEq] at h
    subst h
    exact ⟨_, rfl, S.tmps t⟩
  | cell c t =>
    simp only [resOne] at h
    show ∃ v, (do loadVar t (← asAddr (a.tmps.getD c undef)) : Sem Value).run P w = .ok v w ∧ _
    split at h
    · rename_i i k ver o hi ht
      have hp := S.tmps c
      rw [ht] at hp
      split at h
      · rename_i v cs hk
        split at h
        · rename_i hv
          subst hv
          obtain ⟨L, hL, hc, hb, hO⟩ := S.heap.at hk
          generalize a.tmps.getD c undef = u at *
          cases hp with
          | ptr _ _ _ b o' hv hl =>
          obtain ⟨rfl, rfl⟩ := hl hc L hL
          obtain ⟨v', h1, h2⟩ := loadVar_cells hi (cs := cs.drop o) (b := L.b) (off := L.base + o) (fun j p hp => by
            rw [List.getElem?_drop] at hp
            obtain ⟨v, h1, h2⟩ := hO.cells_at hp
            exact ⟨v, by rw [Nat.add_assoc]; exact h1, h2⟩) h
          exact ⟨v', by simpa [Instr.loadAt, Instr.sureAddr, asAddr] using h1, h2⟩
        · cases h
      · cases h
    · cases h

theorem resAll_sound {P : Program} {d m : Nat} {G : Ghost} {σ : St} {a : Act} {w : World} (S : Sim d m G σ a w) : ∀ {rs : List ResultVar} {ps : List PV}, resAll P σ rs = some ps → ∀ acc : Array Value,
    ∃ vs : List Value, (rs.foldlM (fun (bs : Array Value) r => bs.push <$> (match r with
      | .tmp t => pure (a.tmps.getD t undef)
      | .cell c t => do loadVar t (← asAddr (a.tmps.getD c undef)) : Sem Value)) acc).run P w = .ok (acc ++ vs.toArray) w ∧ PRels G w ps vs.toArray := by
  intro rs
  induction rs with
  | nil =>
    intro ps h acc
    simp only [resAll, Option.some.injEq] at h
    subst h
    exact ⟨[], by simp, PRels.nil G w⟩
  | cons r rs ih =>
    intro ps h acc
    simp only [resAll] at h
    split at h
    · rename_i p ps' h1 h2
      cases h
      obtain ⟨v, hv, hp⟩ := resOne_sound S h1
      obtain ⟨vs, hvs, hps⟩ := ih h2 (acc.push v)
      refine ⟨v :: vs, ?_, ?_⟩
      · simp only [List.foldlM_cons, Sem.run_bind, Sem.run_map, hv, Result.andThen_ok, hvs]
        simp
      · refine ⟨by simpa using hps.1, fun i q u hq hu => ?_⟩
        cases i with
        | zero =>
          simp at hq hu
          subst hq; subst hu
          exact hp
        | succ i => exact hps.2 i q u (by simpa using hq) (by simpa using hu)
    · cases h

theorem resP_sound {P : Program} {d m : Nat} {G : Ghost} {σ : St} {a : Act} {w : World} (S : Sim d m G σ a w) {fn : Func} {p : PV} (h : resP P fn σ = some p) : ∃ v, (results fn a.tmps).run P w = .ok v w ∧ PRel G w p v := by
  unfold resP at h
  unfold results
  have key : ∀ ps, resAll P σ fn.results.toList = some ps → ∃ vs : List Value, (fn.results.mapM (fun r => (match r with
      | .tmp t => pure (a.tmps.getD t undef)
      | .cell c t => do loadVar t (← asAddr (a.tmps.getD c undef)) : Sem Value))).run P w = .ok vs.toArray w ∧ PRels G w ps vs.toArray := by
    intro ps hps
    obtain ⟨vs, h1, h2⟩ := resAll_sound S hps #[]
    refine ⟨vs, ?_, h2⟩
    rw [Array.mapM_eq_foldlM, ← Array.foldlM_toList, h1]
    simp
  split at h
  · rename_i p' hp
    cases h
    obtain ⟨vs, h1, h2⟩ := key _ hp
    have hl : vs.length = 1 := by simpa using h2.1.symm
    obtain ⟨v, rfl⟩ := List.length_eq_one_iff.1 hl
    refine ⟨v, ?_, h2.2 0 p v rfl rfl⟩
    rw [Sem.run_bind]
    refine (congrArg (fun r => Result.andThen r _) h1).trans ?_
    rfl
  · rename_i ps hne hp
    cases h
    obtain ⟨vs, h1, h2⟩ := key _ hp
    refine ⟨.tuple vs.toArray, ?_, .tuple _ _ h2.1 h2.2⟩
    rw [Sem.run_bind]
    refine (congrArg (fun r => Result.andThen r _) h1).trans ?_
    simp only [Result.andThen_ok, Sem.run_pure]
    rw [dif_neg]
    intro hs
    have : ps.length = 1 := by rw [h2.1]; simpa using hs
    obtain ⟨q, rfl⟩ := List.length_eq_one_iff.1 this
    exact hne q rfl
  · cases h

/-- How a body may end. -/
def FnPost (P : Program) (d : Nat) (fn : Func) (h : PHeap) (Post : POut → PHeap → Prop) : PExit → St → Prop
  | .normal, σ | .ret, σ => ∃ r r', resP P fn σ = some r ∧ Froze d σ.h r r' ∧ Post (.ret r') (leaveH d σ.h h)
  | .panic p, σ => ∃ p', Froze d σ.h p p' ∧ Post (.pan p') (leaveH d σ.h h)
  | _, _ => False

def startT (args : List PV) : Nat → PV := fun i => args.getD i (.tuple [])

theorem FnSpec.of_body {P : Program} {d : Nat} {f : FuncId} {fn : Func} {c : Code} {args : List PV} {h : PHeap} {Post : POut → PHeap → Prop} (hf : P.funcs[f]? = some fn) (hb : fn.body = some c) (hn : (fn.name == "runtime.NumGoroutine") = false) (hl : args.length ≤ fn.ntmps)
    (body : ∀ c0 : Key → Nat, TWp P (d + 1) fn.ntmps c (FnPost P d fn h Post) ⟨startT args, enterH d c0 h⟩) : FnSpec P d f args h Post := by
  refine ⟨⟨fn, hf, hn, by rw [hb]; rfl⟩, fun G w vs S R => ?_⟩
  refine calls_of_wp hf hb ?_
  have hvl : vs.size = args.length := R.1.symm
  have S0 : Sim (d + 1) fn.ntmps G ⟨startT args, enterH d G.cnt h⟩ { tmps := vs ++ Array.replicate (fn.ntmps - vs.size) undef, defers := [] } w := by
    refine ⟨by simp; omega, rfl, fun i => ?_, S.enter⟩
    simp only [startT]
    rw [Array.getD_eq_getD_getElem?, Array.getElem?_append]
    by_cases hi : i < vs.size
    · rw [if_pos hi]
      have h1 : args[i]? = some args[i] := List.getElem?_eq_getElem (by omega)
      rw [List.getD_eq_getElem?_getD, h1, Array.getElem?_eq_getElem hi]
      exact R.2 i _ _ h1 (Array.getElem?_eq_getElem hi)
    · rw [if_neg hi, List.getD_eq_getElem?_getD, List.getElem?_eq_none (by omega)]
      have : ((Array.replicate (fn.ntmps - vs.size) undef)[i - vs.size]?).getD undef = undef := by
        rw [Array.getElem?_replicate]
        split <;> rfl
      rw [this]
      exact PRel.undef G w
  refine wp_mono (body G.cnt G _ w S0) fun e a' w' hp => ?_
  obtain ⟨pe, G', σ', h1, h2, h3, h4⟩ := hp
  have S' := h3.heap.leave h S.shut
  have E' := h2.trans (Ext.cut d G' w')
  have fin : ∀ (e : Exit) (r : PV), (∃ v, (results fn a'.tmps).run P w' = .ok v w' ∧ PRel (G'.cut d) w' r v) → Post (.ret r) (leaveH d σ'.h h) → a'.defers = [] ∧ ∃ v, (results fn a'.tmps).run P w' = .ok v w' ∧ ∃ po G'' h', Ext G w G'' w' ∧ SimH d G'' h' w' ∧ OutIs G'' w' po (.returned v) ∧ Post po h' := by
    intro e r ⟨v, hv, hr⟩ hP
    exact ⟨h3.defers, v, hv, .ret r, G'.cut d, _, E', S', .ret r v hr, hP⟩
  cases h1 with
  | normal =>
    obtain ⟨r, r', k1, k2, k3⟩ := h4
    obtain ⟨v, hv, hr⟩ := resP_sound h3 k1
    exact fin .normal r' ⟨v, hv, k2.sound h3.heap hr⟩ k3
  | ret =>
    obtain ⟨r, r', k1, k2, k3⟩ := h4
    obtain ⟨v, hv, hr⟩ := resP_sound h3 k1
    exact fin .ret r' ⟨v, hv, k2.sound h3.heap hr⟩ k3
  | panic p v hp =>
    obtain ⟨p', k1, k2⟩ := h4
    exact ⟨h3.defers, .pan p', G'.cut d, _, E', S', .pan p' v (k1.sound h3.heap hp), k2⟩
  | exit id => exact h4.elim
  | goto l => exact h4.elim
end Go.Fh
