/- Regions whose order is open: the walk in the text's order serves. -/
import Derived.Test.YtdclkdcgcfkopaaGreatDoorFhDraw2
set_option linter.all false
namespace Go.Fh
open Go.RowKit

theorem Ext.drew (G : Ghost) (w : World) : Ext G w G { w with drawn := w.drawn + 1 } :=
  ⟨rfl, rfl, rfl, Nat.le_refl _, fun _ _ _ => rfl, fun _ _ _ _ => rfl, fun _ _ _ h => h, fun _ => Nat.le_refl _, fun _ _ h _ => h⟩
theorem SimH.drew {d : Nat} {G : Ghost} {h : PHeap} {w : World} (S : SimH d G h w) : SimH d G h { w with drawn := w.drawn + 1 } where
  cnt := S.cnt
  obj k L hk := by
    obtain ⟨h1, h2, o, h3, h4⟩ := S.obj k L hk
    exact ⟨h1, h2, o, h3, h4.mono (Ext.drew G w) rfl⟩
  live := S.live
  shut := S.shut
  glob g cs hg := (S.glob g cs hg).mono (Ext.drew G w)
  apart := S.apart
theorem Sim.drew {d m : Nat} {G : Ghost} {σ : St} {a : Act} {w : World} (S : Sim d m G σ a w) : Sim d m G σ a { w with drawn := w.drawn + 1 } :=
  ⟨S.size, S.defers, fun i => (S.tmps i).mono (Ext.drew G w), S.heap.drew⟩

theorem guardP_congr {ops : Array Oper} {o : Oper} {σ σ' : St} (h : ∀ t ∈ names ops o, σ.t t = σ'.t t) : guardP ops σ o = guardP ops σ' o := by
  unfold guardP
  split
  · rfl
  · rename_i j want hg
    cases ht : (ops[j]?).bind (·.dst) with
    | none => rfl
    | some t => simp only [h t (by simp [names, hg, ht])]

section
variable {P : Program} {d m : Nat} {mu : Nat → Bool} {ops : Array Oper} {Q : PExit → St → Prop} {σ : St} {R : List (PV × Option (Key × (Nat × Option PObj)))}

theorem DStep.key {o : Oper} {σ : St} {v : PV} {e : Option (Key × (Nat × Option PObj))} (h : DStep P d mu ops o σ v e) : ∀ k x, e = some (k, x) → k.1 ≠ 0 := by
  cases h <;> intro k x he <;> cases he <;> assumption
theorem DrawData.glob (D : DrawData P d m mu ops σ R) (S : Nat → Bool) (g n : Nat) : (stN ops R σ S n).h (0, g) = (stN ops R σ (fun _ => true) n).h (0, g) := by
  refine stN_h _ _ _ n fun i hi v x hR => ?_
  have hlt := (List.getElem?_eq_some_iff.1 hR).1
  rw [D.len] at hlt
  exact absurd rfl ((D.step i ops[i] v _ (Array.getElem?_eq_getElem hlt) hR).key (0, g) x rfl)
theorem DrawData.glob0 (D : DrawData P d m mu ops σ R) (g : Nat) : ∀ n, (stN ops R σ (fun _ => true) n).h (0, g) = σ.h (0, g) := by
  intro n
  induction n with
  | zero => rfl
  | succ n ih =>
    rw [← ih]
    simp only [stN]
    cases ho : ops[n]? with
    | none => rfl
    | some o =>
      cases hR : R[n]? with
      | none => rfl
      | some ve =>
        obtain ⟨v, e⟩ := ve
        simp only [St.put_h]
        cases e with
        | none => rfl
        | some kx =>
          obtain ⟨k, x⟩ := kx
          have h0 := (D.step n o v _ ho hR).key k x rfl
          simp only [effH]
          exact PHeap.set_ne _ _ (by intro e; rw [← e] at h0; exact h0 rfl)

theorem DrawData.rho (D : DrawData P d m mu ops σ R) {S : Nat → Bool} (hS : Closed ops S) {i : Nat} {o : Oper} (ho : ops[i]? = some o) (hi : S i = false) (he : ∀ e ∈ o.after, Region.binds .any e = true → S e.on = true) :
    ∀ x ∈ o.op.operands, Fh.rho (stN ops R σ (fun _ => true) i) x = Fh.rho (stN ops R σ S ops.size) x := by
  intro x hx
  cases x with
  | tmp t =>
    simp only [Fh.rho]
    refine (D.agree_t hS ho hi he ?_).symm
    simp only [names, List.mem_append, List.mem_filterMap]
    exact .inl (.inr ⟨.tmp t, by simpa using hx, rfl⟩)
  | const v => rfl
  | global g =>
    simp only [Fh.rho]
    rw [D.glob S g, D.glob0 g, D.glob0 g]
  | func f => rfl

/-- One operation that calls nothing. -/
theorem wpOp_run {i : Nat} {o : Oper} {K : Act → World → Prop} {Q : Exit → Act → World → Prop} {σ : St} {G : Ghost} {a : Act} {w : World} {v : PV} {h' : PHeap} (ho : ops[i]? = some o) (ok : opsOk m ops [o] = true) (S : Sim d m G σ a w) (hg : guardP ops σ o = some true)
    (hr : RunW P d G σ.h w (execOp a.eval o) v h') (h : ∀ G' a' w', Ext G w G' w' → Sim d m G' (σ.put o.dst v h') a' w' → K a' w') : wpOp P ops Q i K a w := by
  simp only [opsOk, List.all_cons, List.all_nil, Bool.and_true, Bool.and_eq_true] at ok
  unfold wpOp
  rw [ho]
  simp only
  rw [if_pos (guardP_sound S hg (guardOk_lt ok.2))]
  left
  obtain ⟨x, v, w', G', h1, h2, h3, h4, h5⟩ := hr
  have S' := S.put h3 h4 h5 (dstOk_lt ok.1)
  unfold Oper.wp
  rw [h1]
  rcases h2 with rfl | ⟨rfl, rfl⟩
  · exact h G' _ w' h3 S'
  · exact h G' _ w' h3 S'

theorem wpOp_skip {i : Nat} {o : Oper} {K : Act → World → Prop} {Q : Exit → Act → World → Prop} {σ : St} {G : Ghost} {a : Act} {w : World} (ho : ops[i]? = some o) (ok : opsOk m ops [o] = true) (S : Sim d m G σ a w) (hg : guardP ops σ o = some false)
    (h : ∀ a', Sim d m G (σ.put o.dst (.tuple []) σ.h) a' w → K a' w) : wpOp P ops Q i K a w := by
  simp only [opsOk, List.all_cons, List.all_nil, Bool.and_true, Bool.and_eq_true] at ok
  unfold wpOp
  rw [ho]
  simp only
  rw [if_neg (by rw [guardP_sound S hg (guardOk_lt ok.2)]; simp)]
  exact h _ (S.put (Ext.refl G w) S.heap (PRel.undef G w) (dstOk_lt ok.1))

theorem wpOp_call {i : Nat} {o : Oper} {K : Act → World → Prop} {Q : Exit → Act → World → Prop} {σ : St} {G : Ghost} {a : Act} {w : World} {v : PV} {f : FuncId} {fo : Operand} {args : Array Operand} {ts : Array TypeId} {first cap : List PV} (hops : ops[i]? = some o) (ok : opsOk m ops [o] = true) (S : Sim d m G σ a w) (hg : guardP ops σ o = some true)
    (ho : o.op = .call { callee := .value fo, args, argTypes := ts }) (hf : Fh.rho σ fo = .fn (.func f) first cap) (hs : FnRet P d f (first ++ args.toList.map (Fh.rho σ) ++ cap) σ.h v)
    (h : ∀ G' a' w', Ext G w G' w' → Sim d m G' (σ.put o.dst v σ.h) a' w' → K a' w') : wpOp P ops Q i K a w := by
  simp only [opsOk, List.all_cons, List.all_nil, Bool.and_true, Bool.and_eq_true] at ok
  unfold wpOp
  rw [hops]
  simp only
  rw [if_pos (guardP_sound S hg (guardOk_lt ok.2))]
  left
  have hv := S.eval fo
  rw [hf] at hv
  generalize hfv : a.eval fo = fv at hv
  cases hv with
  | fn _ _ _ vf vc hn hm hr1 hr2 =>
  obtain ⟨⟨fn, hfn, hname, hbody⟩, hcalls⟩ := hs
  have hrun : (execOp a.eval o).run P w = .ok (.enter f (vf ++ args.map a.eval ++ vc)) w := by
    unfold execOp
    simp only [ho, resolve, hfv, Deferred.ofValue, invoke, callFunc, Sem.run_bind, Sem.run_pure, Result.andThen_ok, run_program, hfn, hname, Bool.false_eq_true, if_false, hbody]
  unfold Oper.wp
  rw [hrun, Oper.upon_enter]
  have R : PRels G w (first ++ args.toList.map (Fh.rho σ) ++ cap) (vf ++ args.map a.eval ++ vc) := (PRels.append ⟨hn, hr1⟩ (S.rels args)).append ⟨hm, hr2⟩
  refine (hcalls G w _ S.heap R).mono fun e w' hp => ?_
  obtain ⟨po, G', h', E, S', hO, rfl, rfl⟩ := hp
  cases hO with
  | ret r v hr => exact h G' _ w' E (S.put E S' hr (dstOk_lt ok.1))

theorem ready_mem {listed : Array Bool} {i : Nat} (h : i ∈ Region.ready .any ops listed) : ∃ o, ops[i]? = some o ∧ listed.getD i true = false ∧ ∀ e ∈ o.after, Region.binds .any e = true → listed.getD e.on false = true := by
  unfold Region.ready at h
  rw [List.mem_filter, List.mem_range] at h
  obtain ⟨h1, h2⟩ := h
  rw [Bool.and_eq_true] at h2
  refine ⟨ops[i], Array.getElem?_eq_getElem h1, by simpa using h2.1, fun e he hb => ?_⟩
  rw [Array.getElem?_eq_getElem h1] at h2
  have := h2.2
  simp only [Option.map_some, Option.getD_some, Array.all_eq_true'] at this
  have := this e he
  simpa [hb] using this

theorem getD_swap {l : Array Bool} {k : Nat} (h : k < l.size) : l.getD k true = l.getD k false := by simp [Array.getD, h]

theorem DrawData.none_ready (D : DrawData P d m mu ops σ R) {listed : Array Bool} (hl : listed.size = ops.size) (h : Region.ready .any ops listed = []) : ∀ k, k < ops.size → listed.getD k false = true := by
  intro k
  induction k using Nat.strongRecOn with
  | _ k ih =>
    intro hk
    cases hv : listed.getD k false with
    | true => rfl
    | false =>
      have hmem : k ∈ Region.ready .any ops listed := by
        unfold Region.ready
        rw [List.mem_filter, List.mem_range]
        refine ⟨hk, ?_⟩
        rw [Bool.and_eq_true]
        refine ⟨by rw [getD_swap (by omega), hv]; rfl, ?_⟩
        rw [Array.getElem?_eq_getElem hk]
        simp only [Option.map_some, Option.getD_some, Array.all_eq_true']
        intro e he
        cases hb : Region.binds .any e with
        | false => rfl
        | true =>
          have hlt := D.early (Array.getElem?_eq_getElem hk) e he hb
          rw [ih e.on hlt (by omega)]
          rfl
      rw [h] at hmem
      cases hmem

theorem opsOk_at (ok : opsOk m ops ops.toList = true) {i : Nat} {o : Oper} (ho : ops[i]? = some o) : opsOk m ops [o] = true := by
  unfold opsOk at ok ⊢
  rw [List.all_eq_true] at ok
  have := ok o (List.mem_iff_getElem?.2 ⟨i, by rw [Array.getElem?_toList]; exact ho⟩)
  simpa using this

theorem DrawData.any (D : DrawData P d m mu ops σ R) (hd0 : 0 < d) (hQ : Q .normal (stN ops R σ (fun _ => true) ops.size)) : ∀ (fuel : Nat) (listed : Array Bool), listed.size = ops.size →
    (List.range ops.size).countP (fun k => !listed.getD k false) = fuel → Closed ops (fun k => listed.getD k false) → ∀ G0 w0 G a w, Ext G0 w0 G w → Sim d m G (stN ops R σ (fun k => listed.getD k false) ops.size) a w → wpAny P .any ops (TPost d m G0 w0 Q) fuel listed a w := by
  have done : ∀ (listed : Array Bool), (∀ k, k < ops.size → listed.getD k false = true) → ∀ G0 w0 G a w, Ext G0 w0 G w → Sim d m G (stN ops R σ (fun k => listed.getD k false) ops.size) a w → TPost d m G0 w0 Q .normal a w := by
    intro listed hall G0 w0 G a w E S
    rw [stN_beyond _ (fun _ => true) _ fun k hk => hall k hk] at S
    exact ⟨.normal, G, _, .normal, E, S, hQ⟩
  intro fuel
  induction fuel with
  | zero =>
    intro listed hl hc hS G0 w0 G a w E S
    rw [List.countP_eq_zero] at hc
    have hall : ∀ k, k < ops.size → listed.getD k false = true := by
      intro k hk
      have := hc k (List.mem_range.2 hk)
      simpa using this
    refine ⟨?_, done listed hall G0 w0 G a w E S⟩
    rw [List.eq_nil_iff_forall_not_mem]
    intro i hi
    obtain ⟨o, ho, h1, _⟩ := ready_mem hi
    have hlt := (Array.getElem?_eq_some_iff.1 ho).1
    rw [getD_swap (by omega), hall i hlt] at h1
    cases h1
  | succ fuel ih =>
    intro listed hl hc hS G0 w0 G a w E S
    refine ⟨fun hnil => done listed (D.none_ready hl hnil) G0 w0 G a w E S, fun i hi => ?_⟩
    obtain ⟨o, ho, h1, he⟩ := ready_mem hi
    have hlt := (Array.getElem?_eq_some_iff.1 ho).1
    rw [getD_swap (by omega)] at h1
    obtain ⟨⟨v, e⟩, hR⟩ : ∃ ve, R[i]? = some ve := ⟨R[i]'(by rw [D.len]; exact hlt), List.getElem?_eq_getElem _⟩
    have hset : ∀ k, (listed.setIfInBounds i true).getD k false = if k = i then true else listed.getD k false := by
      intro k
      rw [Array.getD_eq_getD_getElem?, Array.getElem?_setIfInBounds]
      by_cases hk : k = i
      · subst hk; rw [if_pos rfl, if_pos (by omega), if_pos rfl]; rfl
      · rw [if_neg (Ne.symm hk), if_neg hk, ← Array.getD_eq_getD_getElem?]
    have hi' : (listed.setIfInBounds i true).getD i false = true := by rw [hset, if_pos rfl]
    have hsame : ∀ k, k ≠ i → (listed.setIfInBounds i true).getD k false = listed.getD k false := fun k hk => by rw [hset, if_neg hk]
    have hcl : Closed ops (fun k => (listed.setIfInBounds i true).getD k false) := by
      intro j q hj hq e he' hb
      simp only at hj ⊢
      by_cases hji : j = i
      · subst hji
        rw [ho] at hq
        cases hq
        rw [hset]
        split
        · rfl
        · exact he e he' hb
      · rw [hsame j hji] at hj
        have := hS j q hj hq e he' hb
        simp only at this
        rw [hset]
        split
        · rfl
        · exact this
    have hcount : (List.range ops.size).countP (fun k => !(listed.setIfInBounds i true).getD k false) = fuel := by
      have := count_set (fun k => listed.getD k false) (fun k => (listed.setIfInBounds i true).getD k false) i h1 hi' hsame ops.size hlt
      omega
    have next := D.next (S' := fun k => (listed.setIfInBounds i true).getD k false) hS ho hR h1 he hi' hsame
    have hok := opsOk_at D.ok ho
    have hat : ∀ t ∈ names ops o, (stN ops R σ (fun _ => true) i).t t = (stN ops R σ (fun k => listed.getD k false) ops.size).t t := fun t ht => (D.agree_t hS ho h1 he ht).symm
    have hrho := D.rho hS ho h1 he
    have hD := D.step i o v e ho hR
    have K : ∀ G' a' w', Ext G w G' w' → Sim d m G' ((stN ops R σ (fun k => listed.getD k false) ops.size).put o.dst v (effH (stN ops R σ (fun k => listed.getD k false) ops.size).h e)) a' w' → wpAny P .any ops (TPost d m G0 w0 Q) fuel (listed.setIfInBounds i true) a' w' := by
      intro G' a' w' E' S'
      rw [← next] at S'
      exact ih _ (by simpa using hl) hcount hcl G0 w0 G' a' w' (E.trans E') S'
    cases hD with
    | skip hg =>
      rw [guardP_congr hat] at hg
      exact wpOp_skip ho hok S hg fun a' S' => K G a' w (Ext.refl G w) S'
    | pure _ hg hev =>
      rw [guardP_congr hat] at hg
      rw [evP_congr hrho] at hev
      exact wpOp_run ho hok S hg (evP_sound S.heap S.eval hev).toW K
    | read _ k hg hk ha hev =>
      rw [guardP_congr hat] at hg
      have htouch : touches mu o = true := by
        unfold touches
        revert hk
        cases o.op <;> simp [readKey]
      have hh := D.agree_h hS ho h1 he htouch (kk := k) fun j q v' x n hne hq hRj hal hn hkk => by
        subst hkk
        have := mem_allocs hq hal hn
        rw [ha rfl] at this
        cases this
      rw [evR_congr hrho hk hh.symm] at hev
      exact wpOp_run ho hok S hg (evR_sound S.heap S.eval hev).toW K
    | app _ ky n x hg h0 hdst hev =>
      rw [guardP_congr hat] at hg
      obtain ⟨args, ts, hop⟩ := evAp_op hev
      have hst : isStore o = true := by simp [isStore, hop]
      have htouch : touches mu o = true := by simp [touches, hst]
      have hh := D.agree_h hS ho h1 he htouch (kk := ky n) fun j q v' x n' hne hq hRj hal hn hkk => by
        have := D.store hq ho (Ne.symm hne) hst (by simp [touches, hal])
        unfold ordered at this ⊢
        rwa [Nat.max_comm, Nat.min_comm] at this
      rw [evAp_congr hrho] at hev
      have hx := evAp_evX (h := (stN ops R σ (fun k => listed.getD k false) ops.size).h) hev hh
      rw [← hdst] at hx
      exact wpOp_run ho hok S hg (evX_sound S.heap S.eval hx) K
    | look _ k hg hk ha hev =>
      rw [guardP_congr hat] at hg
      have htouch : touches mu o = true := by
        unfold touches
        revert hk
        cases o.op <;> simp [lkKey]
      have hh := D.agree_h hS ho h1 he htouch (kk := k) fun j q v' x n hne hq hRj hal hn hkk => by
        subst hkk
        have := mem_allocs hq hal hn
        rw [ha rfl] at this
        cases this
      rw [evLk_congr hrho hk hh.symm] at hev
      exact wpOp_run ho hok S hg (evX_sound (ky := fun n => (d, n)) S.heap S.eval (evLk_evX hev)) K
    | write _ k x hg h0 hk hev =>
      rw [guardP_congr hat] at hg
      obtain ⟨k', x', hk', heq, hall⟩ := evW_eff hrho hev
      rw [hk] at hk'
      cases hk'
      have hxx : x' = x := by
        have := congrFun heq k
        rw [PHeap.set_self, PHeap.set_self] at this
        exact this.symm
      subst hxx
      have htouch : touches mu o = true := by
        rcases write_kind hev hk with h | ⟨h, _⟩ <;> simp [touches, h]
      have hh := D.agree_h hS ho h1 he htouch (kk := k) fun j q v' x n hne hq hRj hal hn hkk => by
        rcases write_kind hev hk with h | ⟨_, n', hn', hk'⟩
        · have := D.store hq ho (Ne.symm hne) h (by simp [touches, hal])
          unfold ordered at this ⊢
          rwa [Nat.max_comm, Nat.min_comm] at this
        · subst hkk
          cases hk'
          exact D.dst ho hq hne hn (by simp [names, hn'])
      exact wpOp_run ho hok S hg (evW_sound hd0 S.heap S.eval (hall _ hh)) K
    | call _ f fo args ts first cap hg hop hf hs =>
      rw [guardP_congr hat] at hg
      have htouch : touches mu o = true := by simp [touches, hop]
      have hfo := hrho fo (by rw [hop]; simp [Op.operands, Call.operands])
      rw [hf] at hfo
      refine wpOp_call ho hok S hg hop hfo.symm ?_ K
      have := hs (stN ops R σ (fun k => listed.getD k false) ops.size).h fun k hk => D.agree_h hS ho h1 he htouch fun j q v' x n hne hq hRj hal hn hkk => by
        subst hkk
        have h2 := mem_allocs hq hal hn
        rw [hk rfl] at h2
        cases h2
      rwa [List.map_congr_left fun x hx => hrho x (by rw [hop]; simp [Op.operands, Call.operands]; exact .inr (by simpa using hx))] at this

theorem TWp.draw {id : Nat} (hm : P.follows .mixedOrders = true) (hd0 : 0 < d) (ok : opsOk m ops ops.toList = true) (dok : drawOk mu ops = true) {σ' : St} (hR : DRun P d mu ops ops.toList σ R σ') (hQ : Q .normal σ') : TWp P d m (.region id ops true) Q σ := fun G a w S => by
  obtain ⟨hsteps, hend⟩ := hR.steps (R := R) 0 rfl rfl rfl
  have D : DrawData P d m mu ops σ R := ⟨ok, dok, by rw [hR.length]; simp, fun j o v e ho he => hsteps j o v e (Nat.zero_le j) ho he⟩
  refine wp_region_any hm ?_
  have h0 : ∀ k, (Array.replicate ops.size false).getD k false = false := by
    intro k
    rw [Array.getD_eq_getD_getElem?, Array.getElem?_replicate]
    split <;> rfl
  have hst : stN ops R σ (fun k => (Array.replicate ops.size false).getD k false) ops.size = σ := by
    have : ∀ n, stN ops R σ (fun k => (Array.replicate ops.size false).getD k false) n = σ := by
      intro n
      induction n with
      | zero => rfl
      | succ n ih => rw [stN]; simp only [h0]; simpa only [h0] using ih
    exact this _
  refine D.any hd0 (by rw [hend] at hQ; simpa using hQ) ops.size (Array.replicate ops.size false) (by simp) ?_ (fun j o hj => by simp only [h0] at hj; cases hj) G w G a _ (Ext.drew G w) (by rw [hst]; exact S.drew)
  simp only [h0]
  simp
end
end Go.Fh
