/- Values of which less is told: rooms forgotten. And a loop whose other temporaries stay. -/
import Derived.Test.YtdclkdcgcfkopaaGreatDoorFhDrawGo
import Derived.Scope
set_option linter.all false
namespace Go.Fh
open Go.RowKit

inductive Wk : PV → PV → Prop where
  | refl (p : PV) : Wk p p
  | list (r : Room) (es es' : List PV) (hn : es.length = es'.length) (hc : ∀ (i : Nat) (e e' : PV), es[i]? = some e → es'[i]? = some e' → e.cells.length = e'.cells.length)
      (h : ∀ (i : Nat) (e e' : PV) (j : Nat) (p q : PV), es[i]? = some e → es'[i]? = some e' → e.cells[j]? = some p → e'.cells[j]? = some q → Wk p q) : Wk (.list r es) (.list .any es')
  | agg (cs cs' : List PV) (hn : cs.length = cs'.length) (h : ∀ (i : Nat) (p q : PV), cs[i]? = some p → cs'[i]? = some q → Wk p q) : Wk (.agg cs) (.agg cs')
  | tuple (cs cs' : List PV) (hn : cs.length = cs'.length) (h : ∀ (i : Nat) (p q : PV), cs[i]? = some p → cs'[i]? = some q → Wk p q) : Wk (.tuple cs) (.tuple cs')

theorem PRel.weak {G : Ghost} {w : World} {p q : PV} (hw : Wk p q) : ∀ {v : Value}, PRel G w p v → PRel G w q v := by
  induction hw with
  | refl p => exact fun h => h
  | list r es es' hn hc h ih =>
    intro v hp
    cases hp with
    | list _ _ A c b off sz vs hcap hr hsz hA hM hes hcell hrel =>
    have back : ∀ (i : Nat) (e' : PV), es'[i]? = some e' → ∃ e, es[i]? = some e ∧ e.cells.length = e'.cells.length := by
      intro i e' he'
      have hi := (List.getElem?_eq_some_iff.1 he').1
      have he : es[i]? = some es[i] := List.getElem?_eq_getElem (by omega)
      exact ⟨_, he, hc i _ _ he he'⟩
    have := PRel.list (G := G) (w := w) .any es' A c b off sz vs (by omega) trivial hsz (fun h0 => hA fun h1 => h0 (by rw [h1] at hn; exact List.length_eq_zero_iff.1 hn.symm)) (fun o h1 h2 => hM o h1 (by rw [hn]; exact h2))
      (fun i e' he' => by obtain ⟨e, he, hl⟩ := back i e' he'; rw [← hl]; exact hes i e he)
      (fun i e' j q he' hq => by
        obtain ⟨e, he, hl⟩ := back i e' he'
        have hj := (List.getElem?_eq_some_iff.1 hq).1
        exact hcell i e j _ he (List.getElem?_eq_getElem (by omega)))
      (fun i e' j q he' hq => by
        obtain ⟨e, he, hl⟩ := back i e' he'
        have hj := (List.getElem?_eq_some_iff.1 hq).1
        have hp : e.cells[j]? = some e.cells[j] := List.getElem?_eq_getElem (by omega)
        exact ih i e e' j _ q he he' hp hq (hrel i e j _ he hp))
    rwa [← hn] at this
  | agg cs cs' hn h ih =>
    intro v hp
    cases hp with
    | agg _ vs hl hr =>
    refine .agg _ _ (by omega) fun i q u hq hu => ?_
    have hi := (List.getElem?_eq_some_iff.1 hq).1
    have hp : cs[i]? = some cs[i] := List.getElem?_eq_getElem (by omega)
    exact ih i _ q hp hq (hr i _ u hp hu)
  | tuple cs cs' hn h ih =>
    intro v hp
    cases hp with
    | tuple _ vs hl hr =>
    refine .tuple _ _ (by omega) fun i q u hq hu => ?_
    have hi := (List.getElem?_eq_some_iff.1 hq).1
    have hp : cs[i]? = some cs[i] := List.getElem?_eq_getElem (by omega)
    exact ih i _ q hp hq (hr i _ u hp hu)

theorem FnSpec.weak {P : Program} {d : Nat} {f : FuncId} {args : List PV} {h : PHeap} {Post Post' : POut → PHeap → Prop} (hs : FnSpec P d f args h Post) (hp : ∀ po h', Post po h' → (∃ r r', po = .ret r ∧ Wk r r' ∧ Post' (.ret r') h') ∨ Post' po h') : FnSpec P d f args h Post' :=
  ⟨hs.1, fun G w vs S R => (hs.2 G w vs S R).mono fun e w' ⟨po, G', h', a, b, c, q⟩ => by
    rcases hp po h' q with ⟨r, r', rfl, hw, hk⟩ | hk
    · cases c with
      | ret _ v hr => exact ⟨.ret r', G', h', a, b, .ret r' v (hr.weak hw), hk⟩
    · exact ⟨po, G', h', a, b, c, hk⟩⟩
/-- A function of which less is told. -/
theorem FnRet.weak {P : Program} {d : Nat} {f : FuncId} {args : List PV} {h : PHeap} {r r' : PV} (hs : FnRet P d f args h r) (hw : Wk r r') : FnRet P d f args h r' :=
  FnSpec.weak hs fun po h' ⟨e1, e2⟩ => .inl ⟨r, r', e1, hw, rfl, e2⟩

theorem Wk.mapAgg {α β : Type} {f : α → List PV} {g : β → List PV} (r : Room) (l : List α) (l' : List β) (hn : l.length = l'.length) (h : ∀ (i : Nat) (a : α) (b : β), l[i]? = some a → l'[i]? = some b → (f a).length = (g b).length ∧ ∀ (j : Nat) (p q : PV), (f a)[j]? = some p → (g b)[j]? = some q → Wk p q) :
    Wk (.list r (l.map fun a => .agg (f a))) (.list .any (l'.map fun b => .agg (g b))) := by
  refine .list _ _ _ (by simpa using hn) (fun i e e' he he' => ?_) fun i e e' j p q he he' hp hq => ?_
  · rw [List.getElem?_map, Option.map_eq_some_iff] at he he'
    obtain ⟨a, ha, rfl⟩ := he
    obtain ⟨b, hb, rfl⟩ := he'
    exact (h i a b ha hb).1
  · rw [List.getElem?_map, Option.map_eq_some_iff] at he he'
    obtain ⟨a, ha, rfl⟩ := he
    obtain ⟨b, hb, rfl⟩ := he'
    exact (h i a b ha hb).2 j p q hp hq
theorem Wk.room (r : Room) (es : List PV) : Wk (.list r es) (.list .any es) :=
  .list _ _ _ rfl (fun i e e' he he' => by rw [he] at he'; cases he'; rfl) fun i e e' j p q he he' hp hq => by rw [he] at he'; cases he'; rw [hp] at hq; cases hq; exact .refl _
theorem Wk.cells2 {a b a' b' : PV} (h1 : Wk a a') (h2 : Wk b b') (i : Nat) (p q : PV) (hp : [a, b][i]? = some p) (hq : [a', b'][i]? = some q) : Wk p q := by
  match i with
  | 0 => cases hp; cases hq; exact h1
  | 1 => cases hp; cases hq; exact h2
  | i + 2 => simp at hp
theorem Wk.cells3 {a b c a' b' c' : PV} (h1 : Wk a a') (h2 : Wk b b') (h3 : Wk c c') (i : Nat) (p q : PV) (hp : [a, b, c][i]? = some p) (hq : [a', b', c'][i]? = some q) : Wk p q := by
  match i with
  | 0 => cases hp; cases hq; exact h1
  | 1 => cases hp; cases hq; exact h2
  | 2 => cases hp; cases hq; exact h3
  | i + 3 => simp at hp
theorem Wk.cells4 {a b c e a' b' c' e' : PV} (h1 : Wk a a') (h2 : Wk b b') (h3 : Wk c c') (h4 : Wk e e') (i : Nat) (p q : PV) (hp : [a, b, c, e][i]? = some p) (hq : [a', b', c', e'][i]? = some q) : Wk p q := by
  match i with
  | 0 => cases hp; cases hq; exact h1
  | 1 => cases hp; cases hq; exact h2
  | 2 => cases hp; cases hq; exact h3
  | 3 => cases hp; cases hq; exact h4
  | i + 4 => simp at hp

/-- What is not listed is as it was. -/
def Frame (W : List Nat) (t' t : Nat → PV) : Prop := ∀ j, W.contains j = false → t' j = t j
@[simp] theorem Frame.refl (W : List Nat) (t : Nat → PV) : Frame W t t = True := eq_true fun _ _ => rfl
@[simp] theorem Frame.put {W : List Nat} {σ : St} {d : Tmp} {v : PV} {h : PHeap} {t : Nat → PV} (hd : W.contains d = true) : Frame W (σ.put (some d) v h).t t = Frame W σ.t t := by
  refine propext ⟨fun hf j hj => ?_, fun hf j hj => ?_⟩
  · have := hf j hj
    rw [St.put_t, if_neg (by intro e; subst e; rw [hd] at hj; cases hj)] at this
    exact this
  · rw [St.put_t, if_neg (by intro e; subst e; rw [hd] at hj; cases hj)]
    exact hf j hj
@[simp] theorem Frame.put_none {W : List Nat} {σ : St} {v : PV} {h : PHeap} {t : Nat → PV} : Frame W (σ.put none v h).t t = Frame W σ.t t := (rfl)
theorem Frame.trans {W W' : List Nat} {a b c : Nat → PV} (h : Frame W a b) (hs : W.all W'.contains = true) (k : Frame W' b c) : Frame W' a c := fun j hj => by
  refine (h j ?_).trans (k j hj)
  cases hc : W.contains j with
  | false => rfl
  | true =>
    have := List.all_eq_true.1 hs j (by simpa using hc)
    rw [this] at hj
    cases hj
def hInv [p : Hid (St → Prop)] (σ : St) : Prop := p.val σ
theorem hInv.intro {I : St → Prop} {σ : St} (k : I σ) : @hInv ⟨I⟩ σ := k
/-- A loop: what its rounds do not write stays. -/
theorem hLoop.walkW {P : Program} {d m : Nat} (hm : P.follows .mixedOrders = true) (hd0 : 0 < d) (mu : Nat → Bool) (ky : Tmp → Key) {Q : PExit → St → Prop} {σ : St} {c : Code} (ok : codeOkE m mu c = true) (W : List Nat) (I : Nat → St → Prop) (n : Nat) (h0 : I n σ)
    (round : ∀ n t h, Frame W t σ.t → I n ⟨t, h⟩ → @hE P d m mu ky ⟨c⟩ (PThen (@hInv ⟨fun σ' => Frame W σ'.t t ∧ ∃ k, k < n ∧ I k σ'⟩) Q) ⟨t, h⟩) : @hLoop P d m ⟨c⟩ Q σ := by
  refine TWp.loop (fun n σ' => Frame W σ'.t σ.t ∧ I n σ') n ⟨fun _ _ => rfl, h0⟩ fun n σ' hI => ?_
  refine (goE_sound hm hd0 ok (round n σ'.t σ'.h hI.1 hI.2)).mono fun e σ'' hq => ?_
  cases e with
  | normal =>
    obtain ⟨hf, k, hk, hIk⟩ := hq
    exact ⟨k, hk, fun j hj => (hf j hj).trans (hI.1 j hj), hIk⟩
  | exit id => exact hq
  | goto l => exact hq
  | ret => exact hq
  | panic p => exact hq
/-- What is to be shown at the end, out of simp's sight. -/
def hPost [p : Hid (POut → PHeap → Prop)] (po : POut) (h : PHeap) : Prop := p.val po h
theorem hPost.intro {Post : POut → PHeap → Prop} {po : POut} {h : PHeap} (k : Post po h) : @hPost ⟨Post⟩ po h := k
theorem FnSpec.walkH {P : Program} {d : Nat} {f : FuncId} {fn : Func} {c : Code} {rs : List ResultVar} {m : Nat} {args : List PV} {h : PHeap} {Post : POut → PHeap → Prop} (hm : P.follows .mixedOrders = true) (mu : Nat → Bool) (ky : Tmp → Key) (hf : P.funcs[f]? = some fn) (hb : fn.body = some c) (hrs : fn.results.toList = rs) (hnt : fn.ntmps = m) (hn : (fn.name == "runtime.NumGoroutine") = false) (hl : Nat.ble args.length m = true) (ok : codeOkE m mu c = true)
    (body : ∀ c0 : Key → Nat, @hE P (d + 1) m mu ky ⟨c⟩ (EndR P d rs h (@hPost ⟨Post⟩)) ⟨startT args, enterH d c0 h⟩) : FnSpec P d f args h Post :=
  FnSpec.walk hm mu ky hf hb hrs hnt hn hl ok body
theorem FnSpec.walkFH {P : Program} {d : Nat} {f : FuncId} {fn : Func} {c : Code} {rs : List ResultVar} {m : Nat} {args : List PV} {h : PHeap} {Post : POut → PHeap → Prop} (hm : P.follows .mixedOrders = true) (mu : Nat → Bool) (ky : Tmp → Key) (hf : P.funcs[f]? = some fn) (hb : fn.body = some c) (hrs : fn.results.toList = rs) (hnt : fn.ntmps = m) (hn : (fn.name == "runtime.NumGoroutine") = false) (hl : Nat.ble args.length m = true) (ok : codeOkE m mu c = true)
    (body : ∀ c0 : Key → Nat, @hE P (d + 1) m mu ky ⟨c⟩ (EndF P d rs h (@hPost ⟨Post⟩)) ⟨startT args, enterH d c0 h⟩) : FnSpec P d f args h Post :=
  FnSpec.walkF hm mu ky hf hb hrs hnt hn hl ok body
theorem leave_set_keep {d : Nat} {h' h : PHeap} {k : Key} {x : Nat × Option PObj} (hk : k.1 ≤ d) : leaveH d (h'.set k x) h = (leaveH d h' h).set k x := by
  funext q
  simp only [leaveH, PHeap.set]
  split
  · split <;> rfl
  · rename_i h1
    rw [if_neg (by intro e; rw [e] at h1; exact h1 hk)]
theorem leave_set_drop {d : Nat} {h' h : PHeap} {k : Key} {x : Nat × Option PObj} (hk : d < k.1) : leaveH d (h'.set k x) h = leaveH d h' h := by
  funext q
  simp only [leaveH, PHeap.set]
  split
  · rename_i h1
    rw [if_neg (by intro e; rw [e] at h1; omega)]
  · rfl
theorem set_same {h : PHeap} {k : Key} {x : Nat × Option PObj} (e : h k = x) : h.set k x = h := by
  funext q
  simp only [PHeap.set]
  split
  · rename_i hq; rw [hq, e]
  · rfl
theorem set_skip {h : PHeap} {k q : Key} {x : Nat × Option PObj} (hne : q ≠ k) : (h.set k x).set q (h q) = h.set k x := set_same (PHeap.set_ne _ _ hne)
theorem set_comm {h : PHeap} {k q : Key} {x y : Nat × Option PObj} (hne : q ≠ k) : (h.set k x).set q y = (h.set q y).set k x := by
  funext r
  simp only [PHeap.set]
  split
  · rename_i e; subst e; rw [if_neg hne]
  · rfl
theorem key_ne {k : Key} {d : Nat} (hk : k.1 ≤ d) (n : Nat) : (k = (d + 1, n)) = False := eq_false (by intro e; rw [e] at hk; exact Nat.not_succ_le_self d hk)
/-- Only variables of the call's own are changed. -/
def Own (d : Nat) (h' h : PHeap) : Prop := ∀ q : Key, q.1 ≠ d + 1 → h' q = h q
theorem Own.refl (d : Nat) (h : PHeap) : Own d h h := fun _ _ => rfl
@[simp] theorem Own_set {d n : Nat} {h' h : PHeap} {x : Nat × Option PObj} : Own d (h'.set (d + 1, n) x) h = Own d h' h := by
  refine propext ⟨fun H q hq => ?_, fun H q hq => ?_⟩
  · have := H q hq
    rwa [PHeap.set_ne _ _ (by intro e; subst e; exact hq rfl)] at this
  · rw [PHeap.set_ne _ _ (by intro e; subst e; exact hq rfl)]
    exact H q hq
theorem Own.leave {d : Nat} {c : Key → Nat} {h' h : PHeap} (H : Own d h' (enterH d c h)) : leaveH d h' h = h := by
  funext q
  unfold leaveH
  split
  · rename_i hq
    rw [H q (by omega)]
    exact if_pos hq
  · rfl
theorem Own.at {d : Nat} {c : Key → Nat} {h' h : PHeap} (H : Own d h' (enterH d c h)) {k : Key} (hk : k.1 ≤ d) : h' k = h k := (H k (by omega)).trans (if_pos hk)
@[simp] theorem take_map_len {α β : Type} (f : α → β) (l : List α) : List.take l.length (List.map f l) = List.map f l := List.take_of_length_le (by simp)
theorem set_other {h : PHeap} {k q : Key} {x : Nat × Option PObj} (hne : k ≠ q) : (h.set q x) k = h k := PHeap.set_ne _ _ hne
theorem take_succ_ne {α : Type} {l : List α} {i : Nat} (h : i < l.length) : l.take (i + 1) ≠ [] := by
  intro e
  have := congrArg List.length e
  rw [List.length_take] at this
  simp only [List.length_nil] at this
  omega
@[simp] theorem range_lit1 : List.range 1 = [0] := (rfl)
@[simp] theorem range_lit2 : List.range 2 = [0, 1] := (rfl)
@[simp] theorem range_lit3 : List.range 3 = [0, 1, 2] := (rfl)
@[simp] theorem range_lit4 : List.range 4 = [0, 1, 2, 3] := (rfl)
@[simp] theorem range_lit5 : List.range 5 = [0, 1, 2, 3, 4] := (rfl)
@[simp] theorem range_lit6 : List.range 6 = [0, 1, 2, 3, 4, 5] := (rfl)
@[simp] theorem range_lit7 : List.range 7 = [0, 1, 2, 3, 4, 5, 6] := (rfl)
@[simp] theorem range_lit8 : List.range 8 = [0, 1, 2, 3, 4, 5, 6, 7] := (rfl)
@[simp] theorem range_lit9 : List.range 9 = [0, 1, 2, 3, 4, 5, 6, 7, 8] := (rfl)
@[simp] theorem range_lit10 : List.range 10 = [0, 1, 2, 3, 4, 5, 6, 7, 8, 9] := (rfl)
@[simp] theorem range_lit11 : List.range 11 = [0, 1, 2, 3, 4, 5, 6, 7, 8, 9, 10] := (rfl)
@[simp] theorem range_lit12 : List.range 12 = [0, 1, 2, 3, 4, 5, 6, 7, 8, 9, 10, 11] := (rfl)
theorem key_neq {k : Key} {d : Nat} (hk : k.1 ≤ d) (n : Nat) : k ≠ (d + 1, n) := fun e => (key_ne hk n).mp e
theorem pos1 (d : Nat) : 0 < d + 1 := Nat.succ_pos d
/-- A scope that nobody jumps within. -/
def PNoGoto (Q : PExit → St → Prop) : PExit → St → Prop
  | .goto _, _ => False
  | e, σ => Q e σ
@[simp] theorem PNoGoto_normal (Q : PExit → St → Prop) (σ : St) : PNoGoto Q .normal σ = Q .normal σ := (rfl)
@[simp] theorem PNoGoto_ret (Q : PExit → St → Prop) (σ : St) : PNoGoto Q .ret σ = Q .ret σ := (rfl)
@[simp] theorem PNoGoto_exit (Q : PExit → St → Prop) (i : Nat) (σ : St) : PNoGoto Q (.exit i) σ = Q (.exit i) σ := (rfl)
@[simp] theorem PNoGoto_panic (Q : PExit → St → Prop) (p : PV) (σ : St) : PNoGoto Q (.panic p) σ = Q (.panic p) σ := (rfl)
theorem hE.scope {P : Program} {d m : Nat} (hm : P.follows .mixedOrders = true) (hd0 : 0 < d) {mu : Nat → Bool} {ky : Tmp → Key} {Q : PExit → St → Prop} {σ : St} {c : Code} (ok : codeOkE m mu c = true) (h : @hE P d m mu ky ⟨c⟩ (PNoGoto Q) σ) : @hE P d m mu ky ⟨.scope c⟩ Q σ := fun G a w S =>
  wp_scope_straight (wp_mono (goE_sound hm hd0 ok h G a w S) fun e a' w' ⟨pe, G', σ', h1, h2, h3, h4⟩ => by
    cases h1 with
    | goto l => exact h4.elim
    | normal => exact ⟨_, G', σ', .normal, h2, h3, h4⟩
    | exit id => exact ⟨_, G', σ', .exit id, h2, h3, h4⟩
    | ret => exact ⟨_, G', σ', .ret, h2, h3, h4⟩
    | panic p v hp => exact ⟨_, G', σ', .panic p v hp, h2, h3, h4⟩)
end Go.Fh
