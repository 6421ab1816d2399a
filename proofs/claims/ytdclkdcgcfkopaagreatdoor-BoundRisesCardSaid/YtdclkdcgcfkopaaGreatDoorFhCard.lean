/- From a law as a function to the row of a card: the package's variables, as they are laid; the wrap. -/
import Derived.Test.YtdclkdcgcfkopaaGreatDoorFhArg
import Derived.Handed
import Derived.HandedShaped
import Derived.Stop.Joined
import Derived.JoinedOf
import Derived.LaidMore
import Derived.LaidLaws
import Derived.LaidHandle
import Derived.Lib.LaidTab
import Derived.MakeChecks
import Derived.OpenShut
import Derived.ShutString
import Derived.ProofKit
import Derived.SizedLaws
set_option linter.all false
namespace Go.Fh
open Go.RowKit

/-- What a listed variable reads as. -/
theorem laid_at {P : Program} {w : World} {l : List (String × DataW Unit)} (h : laidMet P l w) {n : String} {d : DataW Unit} (hm : (n, d) ∈ l) :
    ∃ g t cs fuel p, P.globalNamed n = some g ∧ (P.globals[g]?).map (·.type) = some t ∧ w.var? P n = some cs ∧ DataW.trod (fun _ => ()) P w 0 (fun _ => true) false fuel t cs.toList = some (d, p) := by
  obtain ⟨ps, hv, _⟩ := h
  have key : ∀ (l : List (String × DataW Unit)) (ps : List MemPlace), DataW.LaidVars P w l ps → (n, d) ∈ l → ∃ g t cs fuel p, P.globalNamed n = some g ∧ (P.globals[g]?).map (·.type) = some t ∧ w.var? P n = some cs ∧ DataW.trod (fun _ => ()) P w 0 (fun _ => true) false fuel t cs.toList = some (d, p) := by
    intro l
    induction l with
    | nil => intro ps _ h; cases h
    | cons x l ih =>
      intro ps hv hm
      obtain ⟨n', d'⟩ := x
      obtain ⟨g, t, cs, fuel, p, q, h1, h2, h3, h4, h5, _⟩ := hv
      rcases List.mem_cons.1 hm with e | hm
      · cases e
        exact ⟨g, t, cs, fuel, p, h1, h2, h3, h4⟩
      · exact ih _ h5 hm
  exact key l ps hv hm
theorem trod_iface {P : Program} {w : World} {H : Type} {enc : TypeId × Value → H} {base : Nat} {sp : Nat → Bool} {fuel : Nat} {t : TypeId} {ms : Array (String × TypeId)} {cs : List Value} {name : String} {d : DataW H} {q : List MemPlace}
    (ht : P.underlying t = some (.interface ms)) (h : DataW.trod enc P w base sp false fuel t cs = some (.iface name d, q)) : ∃ u v, cs = [.iface u v] := by
  cases fuel with
  | zero => simp [DataW.trod] at h
  | succ n =>
    unfold DataW.trod at h
    rw [ht] at h
    split at h <;> simp_all
theorem GlobOk.of_cells {w : World} {g : Nat} {t : TypeId} {cells : Array Value} {ps : List PV} (hh : w.heap[g]? = some (.cells cells t (0, 0))) (hn : cells.size = ps.length)
    (hr : ∀ (j : Nat) (p : PV) (v : Value), ps[j]? = some p → cells[j]? = some v → PRel ghost0 w p v) : GlobOk ghost0 w g ps where
  rel := .iptr ps g 0 (fun j => cells.getD j undef) (fun o _ _ => ghost0_M _ _) (fun j p hp => by
      have hj := (List.getElem?_eq_some_iff.1 hp).1
      unfold World.cell?
      rw [hh]
      simp [Array.getD, show j < cells.size by omega]) fun j p hp => by
      have hj := (List.getElem?_eq_some_iff.1 hp).1
      have hc : cells[j]? = some (cells.getD j undef) := by simp [Array.getD, show j < cells.size by omega]
      exact hr j p _ hp hc
  own := fun o => ghost0_M g o
  all := ⟨cells, t, (0, 0), hh, hn⟩
/-- A variable of the shape, whose cells are known. -/
theorem GlobOk.of_var {P : Program} {w : World} (hs : w.ShapedOpen P) {n : String} {g : Nat} {t : TypeId} {zero cs : Array Value} {ps : List PV} (hg : P.globalNamed n = some g) (hlt : g < P.globals.size) (h0 : ((begin P (fun _ _ => 0) default).world.heap[g]?).bind Obj.row? = some (zero, t))
    (hv : w.var? P n = some cs) (hn : cs.size = ps.length) (hr : ∀ (j : Nat) (p : PV) (v : Value), ps[j]? = some p → cs[j]? = some v → PRel ghost0 w p v) : GlobOk ghost0 w g ps := by
  obtain ⟨cs', hh, _, _⟩ := hs.1 g zero t hlt h0
  unfold World.var? at hv
  rw [hg] at hv
  simp only [Option.bind_some, hh, Option.some.injEq] at hv
  subst hv
  exact .of_cells hh hn hr
theorem GlobOk.ints {P : Program} {w : World} (hs : w.ShapedOpen P) {n : String} {g : Nat} {t : TypeId} {zero : Array Value} {k : IntKind} {zs : List Int} (hg : P.globalNamed n = some g) (hlt : g < P.globals.size) (h0 : ((begin P (fun _ _ => 0) default).world.heap[g]?).bind Obj.row? = some (zero, t))
    (hv : Lib.TabIs P w n k zs) : GlobOk ghost0 w g (zs.map (.int k)) := by
  refine .of_var hs hg hlt h0 hv (by simp) fun j p v hp hx => ?_
  simp only [List.getElem?_map, List.getElem?_toArray, Option.map_eq_some_iff] at hp hx
  obtain ⟨z, hz, rfl⟩ := hp
  obtain ⟨z', hz', rfl⟩ := hx
  rw [hz] at hz'
  cases hz'
  exact .int k z
theorem GlobOk.someInt {P : Program} {w : World} (hs : w.ShapedOpen P) {g : Nat} {t : TypeId} {zero : Array Value} {k : IntKind} (hlt : g < P.globals.size) (h0 : ((begin P (fun _ _ => 0) default).world.heap[g]?).bind Obj.row? = some (zero, t)) (hz : zero.size = 1)
    (hb : P.buildable t = true) (hc : P.cellTypes P.depth t = some [t]) (hu : P.underlying t = some (.int k)) : ∃ m, GlobOk ghost0 w g [.int k m] := by
  obtain ⟨cs, hh, hsz, hrow⟩ := hs.1 g zero t hlt h0
  obtain ⟨ts, hts, _, hall⟩ := hrow hb
  rw [hc] at hts
  cases hts
  have h1 : 0 < cs.size := by omega
  obtain ⟨u, hu', hok⟩ := hall 0 cs[0] (by simp [h1])
  have : u = t := by simpa using hu'.symm
  subst this
  unfold Cell.ok at hok
  rw [hu] at hok
  cases hv : cs[0] <;> rw [hv] at hok <;> first
    | (rename_i k' m
       simp at hok
       obtain ⟨rfl, _⟩ := hok
       refine ⟨m, .of_cells hh (by simp; omega) fun j p v hp hx => ?_⟩
       cases j with
       | zero =>
         simp at hp
         subst hp
         have : v = cs[0] := by simpa [h1] using hx.symm
         rw [this, hv]
         exact .int _ m
       | succ j => simp at hp)
    | simp at hok
theorem GlobOk.iface {P : Program} {w : World} (hs : w.ShapedOpen P) {n : String} {g : Nat} {t : TypeId} {zero : Array Value} {ms : Array (String × TypeId)} {l : List (String × DataW Unit)} {name : String} {d : DataW Unit} (hl : laidMet P l w) (hm : (n, .iface name d) ∈ l) (hg : P.globalNamed n = some g) (hlt : g < P.globals.size) (hty : (P.globals[g]?).map (·.type) = some t)
    (h0 : ((begin P (fun _ _ => 0) default).world.heap[g]?).bind Obj.row? = some (zero, t)) (hu : P.underlying t = some (.interface ms)) : ∃ u, GlobOk ghost0 w g [.iface u .dead] := by
  obtain ⟨g', t', cs, fuel, p, h1, h2, h3, h4⟩ := laid_at hl hm
  rw [hg] at h1
  cases h1
  rw [hty] at h2
  cases h2
  obtain ⟨u, v, hcs⟩ := trod_iface hu h4
  obtain ⟨l⟩ := cs
  simp only at hcs
  subst hcs
  refine ⟨u, .of_var hs hg hlt h0 h3 rfl fun j p v' hp hx => ?_⟩
  cases j with
  | zero =>
    simp at hp hx
    subst hp; subst hx
    exact .iface u .dead v (.dead v)
  | succ j => simp at hp
theorem tab_laid {P : Program} {w : World} {l : List (String × DataW Unit)} {n : String} {k : IntKind} {zs : List Int} {g : Nat} {t e : TypeId} {m : Nat} (hl : laidMet P l w) (hm : (n, Lib.tabData k zs) ∈ l) (hg : P.globalNamed n = some g) (hty : (P.globals[g]?).map (·.type) = some t)
    (ht : P.underlying t = some (.array m e)) (he : P.underlying e = some (.int k)) (hce : P.cellsOf e = 1) (hct : P.cellsOf t = m) : Lib.TabIs P w n k zs := by
  obtain ⟨g', t', cs, fuel, p, h1, h2, h3, h4⟩ := laid_at hl hm
  rw [hg] at h1
  cases h1
  rw [hty] at h2
  cases h2
  unfold Lib.TabIs
  rw [h3, ← Lib.cells_of_tab ht he hce hct h4]

variable {H : Type} {enc : TypeId × Value → H}
/-- The wrap, with the world's shape and what is laid. -/
theorem returns_laid {a : Assume} {C : Checked} {os : Os} {f : FuncId} {fn : Func} {s : ChangeSpec} {conds : List PathCond} {apart fresh handsOn again : Bool} {X : World → Array Value → Prop}
    (hX : ∀ (w w' : World) (args : Array Value), w.heap = w'.heap → X w args → X w' args)
    (own : ownKnob C.prog.godebug = none) (started : os.Started) (noInit : C.prog.inits.idxOf? f = none) (hfn : C.prog.funcs[f]? = some fn)
    (witness : ∃ (w : World) (tape : Tape) (i : Input), w.os = os ∧ (w.forCall tape i).Shaped C.prog ∧ i.vars = [] ∧ Input.okWide C.prog (w.forCall tape i) .any w.heap.size f i ∧
      ((s.pre enc C.prog fn conds apart (w.forCall tape i).memory i.args ∧ X (w.forCall tape i).memory i.args) ∧ sizedMet enc C.prog fn (OpenSpec.ofChange s) apart (w.forCall tape i).memory i.args) ∧ a.holds C.prog (lone (Frame.enter C.prog f i.args .normal) [] (w.forCall tape i)))
    (contract : ∀ (W : World) (base : Nat) (args : Array Value) (ds gs : List (DataW H)) (before : List MemPlace),
      (∀ (j : Nat) t v, fn.params[j]? = some t → args[j]? = some v → Value.okWide C.prog W .any base t v) →
      DataW.Whole enc C.prog fn.params.toList s.vars apart W args.toList ds gs before →
      (DataW.weightsEach C.prog (fn.params.toList ++ s.plain.varTypes C.prog) (ds ++ gs)).all (· ≤ reachBytes) = true → X W args → W.ShapedOpen C.prog →
      Calls C.prog f args W fun e W' => ∃ v, e = .returned v ∧ s.post enc C.prog fn apart fresh handsOn again W args v W') :
    ReturnsInHanded a C os f .any (fun w args => (s.pre enc C.prog fn conds apart w args ∧ X w args) ∧ sizedMet enc C.prog fn (OpenSpec.ofChange s) apart w args) (s.post enc C.prog fn apart fresh handsOn again) := by
  refine returnsInHanded_of_calls own started noInit witness ?_
  intro w tape i _ hsh _ hok hpre hholds
  obtain ⟨_, _, _, fn', hfn', _, _, _, _, hval⟩ := hok
  have e : fn' = fn := Option.some.inj (hfn'.symm.trans hfn)
  subst e
  obtain ⟨⟨⟨ds, gs, before, hw, hc⟩, hx⟩, hz⟩ := hpre
  have hw' := DataW.Whole.of_heap (w' := w.forCall tape i) (by rfl) hw
  refine (contract (w.forCall tape i) w.heap.size i.args ds gs before hval hw' (hz.weights hw) (hX _ _ _ (by rfl) hx) hsh).mono fun e W' ⟨v, he, hp⟩ => ?_
  subst he
  exact ChangeSpec.post_blind hp
end Go.Fh
