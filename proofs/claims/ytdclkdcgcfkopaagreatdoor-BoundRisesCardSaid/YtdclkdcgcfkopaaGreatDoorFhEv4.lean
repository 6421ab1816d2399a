/- Operations without a trace in the variables, all together. -/
import Derived.Test.YtdclkdcgcfkopaaGreatDoorFhEq
set_option linter.all false
namespace Go.Fh
open Go.RowKit

def PV.byte : PV → Option UInt8
  | .int .u8 n => some (UInt8.ofNat n.toNat)
  | _ => none
def bytesP : List PV → Option Str
  | [] => some []
  | p :: ps => match p.byte, bytesP ps with
    | some b, some s => some (b :: s)
    | _, _ => none
theorem bytesP_ints : ∀ {es : List PV} {s : Str}, bytesP es = some s → ∃ xs : List Int, es = xs.map (PV.int .u8) ∧ s = xs.map fun n => UInt8.ofNat n.toNat := by
  intro es
  induction es with
  | nil => intro s h; simp only [bytesP, Option.some.injEq] at h; subst h; exact ⟨[], rfl, rfl⟩
  | cons p ps ih =>
    intro s h
    simp only [bytesP] at h
    split at h
    · rename_i b s' hb hs
      cases h
      obtain ⟨xs, rfl, rfl⟩ := ih hs
      unfold PV.byte at hb
      split at hb
      · rename_i n
        cases hb
        exact ⟨n :: xs, rfl, rfl⟩
      · cases hb
    · cases h

def evConv (P : Program) (s t : TypeId) (x : PV) : Option PV :=
  match tinfo P s, tinfo P t, x with
  | some _, some { k := .int k, .. }, .int _ n => some (.int k (k.wrap n))
  | some { k := .str, .. }, some { k := .str, .. }, .str l => some (.str l)
  | some { k := .int _, .. }, some { k := .str, .. }, .int _ n => some (.str (Utf8.encode n).data.toList)
  | some { k := .slice e, .. }, some { k := .str, .. }, .list _ es =>
    match tinfo P e with
    | some { k := .int .u8, .. } => match bytesP es with
      | some l => some (.str l)
      | none => none
    | _ => none
  | _, _, _ => none
theorem evConv_sound {P : Program} {s t : TypeId} {p : PV} {x : Value} {r : PV} {G : Ghost} {w : World} (h : evConv P s t p = some r) (hx : PRel G w p x) : ∃ v, (convert s t x).run P w = .ok v w ∧ PRel G w r v := by
  unfold evConv at h
  split at h
  · rename_i i k sz by0 z k' n hs ht
    cases hx; cases h
    obtain ⟨d, hd, _⟩ := tinfo_under hs
    obtain ⟨d', hd', hk⟩ := tinfo_under ht
    have := tkind_int hk.symm
    subst this
    exact ⟨_, by simp [convert, run_underlying hd, run_underlying hd', Conv.intToInt], .int _ _⟩
  · rename_i l hs ht
    cases hx; cases h
    obtain ⟨d, hd, hk0⟩ := tinfo_under hs
    obtain ⟨d', hd', hk⟩ := tinfo_under ht
    have := tkind_str hk.symm
    subst this
    have := tkind_str hk0.symm
    subst this
    exact ⟨_, by simp [convert, run_underlying hd, run_underlying hd'], .str _⟩
  · rename_i k0 _ _ _ _ _ _ k n hs ht
    cases hx; cases h
    obtain ⟨d, hd, hk0⟩ := tinfo_under hs
    obtain ⟨d', hd', hk⟩ := tinfo_under ht
    have := tkind_str hk.symm
    subst this
    have := tkind_int hk0.symm
    subst this
    refine ⟨.string (Utf8.encode n), by simp [convert, run_underlying hd, run_underlying hd', Conv.intToString], ?_⟩
    exact PRel.str (G := G) (w := w) (Utf8.encode n).data.toList
  · rename_i e _ _ _ _ _ _ room es hs ht
    obtain ⟨d, hd, hk0⟩ := tinfo_under hs
    obtain ⟨d', hd', hk⟩ := tinfo_under ht
    have := tkind_str hk.symm
    subst this
    have := tkind_slice hk0.symm
    subst this
    split at h
    · rename_i he
      obtain ⟨d2, hd2, hk2⟩ := tinfo_under he
      have := tkind_int hk2.symm
      subst this
      split at h
      · rename_i l hb
        cases h
        obtain ⟨xs, rfl, rfl⟩ := bytesP_ints hb
        cases hx with
        | list _ _ A c b off sz vs hc hr hsz hA hM hes hcell hrel =>
        cases xs with
        | nil =>
          refine ⟨.string ByteArray.empty, ?_, ?_⟩
          · cases A with
            | none => exact run_convert_bytes_nil w s e hd hd2 0 c t hd'
            | some a =>
              simp only [List.map_nil, List.length_nil]
              rw [run_convert_bytes_string w s t e _ 0 c hd hd2 hd']
              simp [Conv.bytesToString, loadCells, loadCellsFrom]
          · exact PRel.str (G := G) (w := w) []
        | cons x xs =>
          have hsz1 : sz = 1 := (hes 0 _ rfl).symm
          subst hsz1
          rw [hA (by simp)]
          refine ⟨_, run_convert_bytes_arg w s e hd hd2 b off _ c (x :: xs) (by simp) (fun i hi => ?_) t hd', ?_⟩
          · simp only [List.length_map] at hi
            have hg : (x :: xs)[i]? = some ((x :: xs).getD i 0) := by
              rw [List.getElem?_eq_getElem hi, List.getD_eq_getElem?_getD, List.getElem?_eq_getElem hi]
              rfl
            have he' : ((x :: xs).map (PV.int .u8))[i]? = some (.int .u8 ((x :: xs).getD i 0)) := by
              rw [List.getElem?_map, hg]
              rfl
            have h1 := hcell i _ 0 _ he' rfl
            have h2 := hrel i _ 0 _ he' rfl
            simp only [Nat.mul_one, Nat.add_zero] at h1
            rw [h1]
            generalize vs i 0 = u at h2
            cases h2
            rfl
          · exact PRel.str (G := G) (w := w) _
      · cases h
    · cases h
  · cases h

def evLen (P : Program) (t : TypeId) (x : PV) : Option PV :=
  match tinfo P t, x with
  | some { k := .str, .. }, .str s => some (.int .i64 s.length)
  | some { k := .slice _, .. }, .list _ es => some (.int .i64 es.length)
  | some { k := .slice _, .. }, .row _ _ _ _ len _ => some (.int .i64 len)
  | some { k := .array n _, .. }, _ => some (.int .i64 n)
  | _, _ => none
theorem evLen_sound {P : Program} {t : TypeId} {p : PV} {x : Value} {r : PV} {G : Ghost} {w : World} (tt : TypeId) (h : evLen P t p = some r) (hx : PRel G w p x) : ∃ v, (Builtin.len_ #[t] tt #[x]).run P w = .ok v w ∧ PRel G w r v := by
  unfold evLen at h
  split at h
  · rename_i s hi
    obtain ⟨d, hd, hk⟩ := tinfo_under hi
    have := tkind_str hk.symm
    subst this
    cases hx; cases h
    refine ⟨.int .i64 s.length, ?_, .int _ _⟩
    simp [Builtin.len_, run_underlying hd, goInt]
  · rename_i room es hi
    obtain ⟨d, hd, hk⟩ := tinfo_under hi
    have := tkind_slice hk.symm
    subst this
    cases hx; cases h
    exact ⟨.int .i64 es.length, by simp [Builtin.len_, run_underlying hd, goInt], .int _ _⟩
  · rename_i len _ hi
    obtain ⟨d, hd, hk⟩ := tinfo_under hi
    have := tkind_slice hk.symm
    subst this
    cases hx; cases h
    exact ⟨.int .i64 len, by simp [Builtin.len_, run_underlying hd, goInt], .int _ _⟩
  · rename_i n e0 sz0 by0 z0 hi
    obtain ⟨d, hd, hk⟩ := tinfo_under hi
    have := tkind_array hk.symm
    subst this
    cases h
    exact ⟨.int .i64 n, by simp [Builtin.len_, run_underlying hd, goInt], .int _ _⟩
  · cases h

/-- The greatest, the least, of whole numbers. -/
def evMax (mx : Bool) : PV → List PV → Option PV
  | .int k a, [] => some (.int k a)
  | .int k a, .int k' b :: ps => if k = k' then evMax mx (.int k (if mx then max a b else min a b)) ps else none
  | _, _ => none
theorem evMax_sound {P : Program} {G : Ghost} {w : World} : ∀ (ps : List PV) (vs : List Value) {p : PV} {x : Value} {r : PV}, evMax true p ps = some r → PRel G w p x → ps.length = vs.length → (∀ (i : Nat) (p : PV) (v : Value), ps[i]? = some p → vs[i]? = some v → PRel G w p v) →
    ∃ v, (vs.foldlM Builtin.max2 x).run P w = .ok v w ∧ PRel G w r v := by
  intro ps
  induction ps with
  | nil =>
    intro vs p x r h hx hl _
    cases vs with
    | cons v vs => simp at hl
    | nil =>
      cases p <;> simp only [evMax, Option.some.injEq, reduceCtorEq] at h
      subst h
      exact ⟨x, rfl, hx⟩
  | cons q ps ih =>
    intro vs p x r h hx hl hr
    cases vs with
    | nil => simp at hl
    | cons v vs =>
      cases p <;> cases q <;> simp only [evMax, reduceCtorEq] at h
      split at h
      · rename_i hk
        subst hk
        have hv := hr 0 _ _ rfl rfl
        cases hx; cases hv
        rename_i k a b
        have e : (Builtin.max2 (.int k a) (.int k b)).run P w = .ok (.int k (if b > a then b else a)) w := by simp [Builtin.max2]
        obtain ⟨u, h1, h2⟩ := ih vs (p := .int k (max a b)) (x := .int k (if b > a then b else a)) h (by
          have : (if b > a then b else a) = max a b := by split <;> omega
          rw [this]; exact .int _ _) (by simpa using hl) fun i p v hp hv => hr (i + 1) p v hp hv
        exact ⟨u, by simp only [List.foldlM_cons, Sem.run_bind, e, Result.andThen_ok, h1], h2⟩
      · cases h
theorem evMin_sound {P : Program} {G : Ghost} {w : World} : ∀ (ps : List PV) (vs : List Value) {p : PV} {x : Value} {r : PV}, evMax false p ps = some r → PRel G w p x → ps.length = vs.length → (∀ (i : Nat) (p : PV) (v : Value), ps[i]? = some p → vs[i]? = some v → PRel G w p v) →
    ∃ v, (vs.foldlM Builtin.min2 x).run P w = .ok v w ∧ PRel G w r v := by
  intro ps
  induction ps with
  | nil =>
    intro vs p x r h hx hl _
    cases vs with
    | cons v vs => simp at hl
    | nil =>
      cases p <;> simp only [evMax, Option.some.injEq, reduceCtorEq] at h
      subst h
      exact ⟨x, rfl, hx⟩
  | cons q ps ih =>
    intro vs p x r h hx hl hr
    cases vs with
    | nil => simp at hl
    | cons v vs =>
      cases p <;> cases q <;> simp only [evMax, reduceCtorEq] at h
      split at h
      · rename_i hk
        subst hk
        have hv := hr 0 _ _ rfl rfl
        cases hx; cases hv
        rename_i k a b
        have e : (Builtin.min2 (.int k a) (.int k b)).run P w = .ok (.int k (if b < a then b else a)) w := by simp [Builtin.min2]
        obtain ⟨u, h1, h2⟩ := ih vs (p := .int k (min a b)) (x := .int k (if b < a then b else a)) h (by
          have : (if b < a then b else a) = min a b := by split <;> omega
          rw [this]; exact .int _ _) (by simpa using hl) fun i p v hp hv => hr (i + 1) p v hp hv
        exact ⟨u, by simp only [List.foldlM_cons, Sem.run_bind, e, Result.andThen_ok, h1], h2⟩
      · cases h

/-- A variable's cells are read. -/
theorem loadVar_cells {P : Program} {t : TypeId} {i : TI} (hi : tinfo P t = some i) {G : Ghost} {w : World} {cs : List PV} {b off : Nat} (hc : ∀ (j : Nat) (p : PV), cs[j]? = some p → ∃ v, w.cell? ⟨b, off + j, none⟩ = some v ∧ PRel G w p v) {r : PV}
    (h : partP i.agg i.size cs = some r) : ∃ v, (Instr.loadAt t (.pointer (some ⟨b, off, none⟩))).run P w = .ok v w ∧ PRel G w r v := by
  unfold partP at h
  simp only [Instr.loadAt, Instr.sureAddr, loadVar, Sem.run_bind, Sem.run_pure, Result.andThen_ok, run_isAgg' hi]
  split at h
  · rename_i ha
    split at h
    · rename_i hn
      cases h
      rw [if_pos ha]
      have hv : ∀ j, j < i.size → ∃ v, w.cell? ⟨b, off + j, none⟩ = some v ∧ ∀ p, cs[j]? = some p → PRel G w p v := by
        intro j hj
        obtain ⟨v, h1, h2⟩ := hc j cs[j] (List.getElem?_eq_getElem (by omega))
        exact ⟨v, h1, fun p hp => by rw [List.getElem?_eq_getElem (by omega)] at hp; cases hp; exact h2⟩
      have hl := run_loadCells (P := P) w ⟨b, off, none⟩ i.size (fun j => (w.cell? ⟨b, off + j, none⟩).getD undef) fun j hj => by
        obtain ⟨v, h1, _⟩ := hv j hj
        rw [add_none, h1]
        rfl
      simp only [Sem.run_bind, run_sizeOf' hi, Result.andThen_ok, hl, Sem.run_pure]
      refine ⟨_, rfl, .agg _ _ (by simp; omega) fun j p v hp hx => ?_⟩
      rw [List.getElem?_take] at hp
      split at hp
      · rename_i hj
        obtain ⟨u, h1, h2⟩ := hv j hj
        simp only [List.getElem?_toArray, List.getElem?_map, List.getElem?_range hj, Option.map_some, h1, Option.getD_some, Option.some.injEq] at hx
        subst hx
        exact h2 p hp
      · cases hp
    · cases h
  · rename_i ha
    rw [if_neg ha]
    obtain ⟨v, h1, h2⟩ := hc 0 r (by rwa [← List.head?_eq_getElem?])
    rw [Nat.add_zero] at h1
    exact ⟨v, by simp [h1], h2⟩

def TK.isIface : TK → Bool
  | .iface => true
  | _ => false
def PV.there : PV → Bool
  | .ptr .. | .iptr _ | .eptr .. => true
  | .fn (.func _) _ _ => true
  | _ => false

/-- A nil interface against the literal nil. -/
def evNil (P : Program) (op : BinOp) (t : TypeId) (yo : Operand) (x y : PV) : Option PV :=
  match yo, x, y with
  | .const _, .niliface, .niliface =>
    match tinfo P t with
    | some { k := .iface, .. } =>
      match op with
      | .eql => some (.bool true)
      | .neq => some (.bool false)
      | _ => none
    | _ => none
  | _, _, _ => none
theorem equalIn_nil_nil {P : Program} (d : Nat) {t : TypeId} {ms : Array (String × TypeId)} (h : P.underlying t = some (.interface ms)) (w : World) : (Op.equalIn (d + 1) t .nilIface .nilIface).run P w = .ok true w := by
  simp [Op.equalIn, run_underlying h]
theorem evNil_sound {P : Program} {op : BinOp} {t : TypeId} {xo yo : Operand} {p q : PV} {x y : Value} {r : PV} {G : Ghost} {w : World} (h : evNil P op t yo p q = some r) (hx : PRel G w p x) (hy : PRel G w q y) :
    (eqGuard op t xo yo x y).run P w = .ok () w ∧ ∃ v, (binOp op t x y).run P w = .ok v w ∧ PRel G w r v := by
  unfold evNil at h
  split at h
  · cases hx; cases hy
    split at h
    · rename_i hi
      obtain ⟨d, hd, hk⟩ := tinfo_under hi
      obtain ⟨ms, hd'⟩ := tkind_iface hk.symm
      subst hd'
      split at h
      · cases h
        exact ⟨by simp [eqGuard], _, by simp only [binOp, Op.equal, Op.maxDepth, Sem.run_bind, equalIn_nil_nil 9999 hd]; rfl, .bool _⟩
      · cases h
        exact ⟨by simp [eqGuard], _, by simp only [binOp, Op.equal, Op.maxDepth, Sem.run_bind, equalIn_nil_nil 9999 hd]; rfl, .bool _⟩
      · cases h
    · cases h
  · cases h


def evP (P : Program) (mu : Nat → Bool) (dst : Option Tmp) (op : Op) (ρ : Operand → PV) : Option PV :=
  match op with
  | .move x | .assign x => some (ρ x)
  | .pick c a b => match ρ c with
    | .bool v => some (if v = true then ρ a else ρ b)
    | _ => none
  | .box _ x => match dst with
    | some d => if mu d = true then none else if (ρ x).solid = true then some (.iptr (ρ x).cells) else none
    | none => none
  | .build t parts => evBuild P t (parts.toList.map fun x => (x.1, ρ x.2))
  | .buildSlice t len parts => evBuildSlice P t len (parts.toList.map fun x => (x.1, ρ x.2))
  | .nilCheck x => if (ρ x).there = true then some (ρ x) else none
  | .binOp op t x y _ => match evBin P op t (ρ x) (ρ y) with
    | some r => some r
    | none => match evEq P op t (ρ x) (ρ y) with
      | some r => some r
      | none => evNil P op t y (ρ x) (ρ y)
  | .unOp op _ x => evUn op (ρ x)
  | .convert s t x => evConv P s t (ρ x)
  | .load t x => match tinfo P t, ρ x with
    | some i, .iptr cs => partP i.agg i.size cs
    | _, _ => none
  | .makeInterface t x => match tinfo P t with
    | some i => if i.k.isIface = true then none else some (.iface t (ρ x))
    | none => none
  | .makeFunc fn first cap => some (.fn fn (first.toList.map ρ) (cap.toList.map ρ))
  | .slice t x lo hi mx => evSlice P t (ρ x) (lo.map ρ) (hi.map ρ) (mx.map ρ)
  | .fieldAddr t x f => evFieldAddr P t (ρ x) f
  | .field t x f => evField P t (ρ x) f
  | .indexAddr t x i => evIndexAddr P t (ρ x) (ρ i)
  | .index t x i => evIndex P t (ρ x) (ρ i)
  | .extract x i => match ρ x with
    | .tuple vs => vs[i]?
    | _ => none
  | .call { callee := .builtin .len, args, argTypes } => match args.toList, argTypes.toList with
    | [x], [t] => evLen P t (ρ x)
    | _, _ => none
  | .call { callee := .builtin .max, args, .. } => match args.toList with
    | x :: xs => evMax true (ρ x) (xs.map ρ)
    | _ => none
  | .call { callee := .builtin .min, args, .. } => match args.toList with
    | x :: xs => evMax false (ρ x) (xs.map ρ)
    | _ => none
  | _ => none

/-- An operation ends in a value. -/
def RunV (P : Program) (d : Nat) (G : Ghost) (h : PHeap) (w : World) (s : Sem Next) (p : PV) : Prop :=
  ∃ v w', s.run P w = .ok (.value v) w' ∧ Ext G w G w' ∧ SimH d G h w' ∧ PRel G w' p v
theorem RunV.same {P : Program} {d : Nat} {G : Ghost} {h : PHeap} {w : World} {s : Sem Value} {p : PV} (S : SimH d G h w) (hr : ∃ v, s.run P w = .ok v w ∧ PRel G w p v) : RunV P d G h w (do pure (.value (← s))) p := by
  obtain ⟨v, h1, h2⟩ := hr
  exact ⟨v, w, by simp [h1], Ext.refl G w, S, h2⟩
theorem RunV.of {P : Program} {d : Nat} {G : Ghost} {h : PHeap} {w : World} {s : Sem Value} {p : PV} (hr : RunP P d G h w s p) : RunV P d G h w (do pure (.value (← s))) p := by
  obtain ⟨v, w', h1, h2⟩ := hr
  exact ⟨v, w', by simp [h1], h2⟩

theorem evP_sound {P : Program} {d : Nat} {mu : Nat → Bool} {o : Oper} {ρ : Operand → PV} {ρv : Operand → Value} {r : PV} {G : Ghost} {h : PHeap} {w : World} (S : SimH d G h w) (hρ : ∀ x, PRel G w (ρ x) (ρv x))
    (hev : evP P mu o.dst o.op ρ = some r) : RunV P d G h w (execOp ρv o) r := by
  unfold evP at hev
  unfold execOp
  split at hev <;> rename_i hop <;> simp only [hop]
  · cases hev; exact ⟨_, w, rfl, Ext.refl G w, S, hρ _⟩
  · cases hev; exact ⟨_, w, rfl, Ext.refl G w, S, hρ _⟩
  · rename_i c a b
    split at hev
    · rename_i v hv
      cases hev
      have hc := hρ c
      rw [hv] at hc
      generalize hcv : ρv c = cv at *
      cases hc
      refine ⟨if v = true then ρv a else ρv b, w, ?_, Ext.refl G w, S, ?_⟩
      · simp [asBool]
      · split
        · exact hρ a
        · exact hρ b
    · cases hev
  · rename_i x
    split at hev
    · split at hev
      · cases hev
      · split at hev
        · rename_i hs
          cases hev
          have hx := hρ x
          have hc := hx.cells hs
          refine RunV.of ⟨.pointer (some ⟨w.heap.size, 0, none⟩), w.alloc (.cells (ρv x).cells _), rfl, Ext.of_alloc S _, S.of_alloc _, ?_⟩
          refine .iptr _ _ _ (fun j => (ρv x).cells.getD j undef) (fun o _ _ => not_M_new S o) (fun j p hp => ?_) (fun j p hp => ?_)
          · obtain ⟨v, hv, _⟩ := hc.get hp
            rw [Nat.zero_add, World.cell?_alloc_at _ _ _ _ rfl, hv]
            simp [Array.getD_eq_getD_getElem?, hv]
          · obtain ⟨v, hv, hr⟩ := hc.get hp
            simp only [Array.getD_eq_getD_getElem?, hv, Option.getD_some]
            exact hr.mono (Ext.of_alloc S _)
        · cases hev
    · cases hev
  · rename_i t parts
    refine RunV.same S (evBuild_sound hev (by simp) fun i p v hp hv => ?_)
    simp only [List.getElem?_map, Array.getElem?_toList, Array.getElem?_map, Option.map_eq_some_iff] at hp hv
    obtain ⟨x, hx, rfl⟩ := hp
    obtain ⟨y, hy, rfl⟩ := hv
    rw [hx] at hy
    cases hy
    exact ⟨rfl, hρ _⟩
  · rename_i t len parts
    refine RunV.of (evBuildSlice_sound S hev (by simp) fun i p v hp hv => ?_)
    simp only [List.getElem?_map, Array.getElem?_toList, Array.getElem?_map, Option.map_eq_some_iff] at hp hv
    obtain ⟨x, hx, rfl⟩ := hp
    obtain ⟨y, hy, rfl⟩ := hv
    rw [hx] at hy
    cases hy
    exact ⟨rfl, hρ _⟩
  · rename_i x
    split at hev
    · rename_i ht
      cases hev
      have hx := hρ x
      refine ⟨ρv x, w, ?_, Ext.refl G w, S, hx⟩
      generalize ρ x = p at *
      generalize ρv x = v at *
      cases hx <;> first | rfl | simp [PV.there] at ht | skip
      rename_i f first cap vf vc _ _ _ _
      cases f <;> first | rfl | simp at ht
    · cases hev
  · rename_i op t x y u
    cases hb : evBin P op t (ρ x) (ρ y) with
    | some r' =>
      rw [hb] at hev
      cases hev
      obtain ⟨v, h1, h2⟩ := evBin_sound hb (hρ x) (hρ y)
      have hg := evGuard_sound x y hb (hρ x) (hρ y)
      exact ⟨v, w, by simp [hg, h1], Ext.refl G w, S, h2⟩
    | none =>
      rw [hb] at hev
      cases hq : evEq P op t (ρ x) (ρ y) with
      | some r' =>
        rw [hq] at hev
        cases hev
        obtain ⟨hg, v, h1, h2⟩ := evEq_sound x y hq (hρ x) (hρ y)
        exact ⟨v, w, by simp [hg, h1], Ext.refl G w, S, h2⟩
      | none =>
        rw [hq] at hev
        obtain ⟨hg, v, h1, h2⟩ := evNil_sound (xo := x) hev (hρ x) (hρ y)
        exact ⟨v, w, by simp [hg, h1], Ext.refl G w, S, h2⟩
  · exact RunV.same S (evUn_sound hev (hρ _))
  · exact RunV.same S (evConv_sound hev (hρ _))
  · rename_i t x
    split at hev
    · rename_i i cs hi hx
      have hp := hρ x
      rw [hx] at hp
      generalize ρv x = v at *
      cases hp with
      | iptr _ b off vs hM hcell hrel => exact RunV.same S (loadVar_cells hi (fun j p hp => ⟨vs j, hcell j p hp, hrel j p hp⟩) hev)
    · cases hev
  · rename_i t x
    split at hev
    · rename_i i hi
      split at hev
      · cases hev
      · rename_i hk
        cases hev
        obtain ⟨d', hd, hkk⟩ := tinfo_under hi
        refine RunV.same S ⟨.iface t (ρv x), ?_, .iface _ _ _ (hρ x)⟩
        simp only [Instr.makeInterface, Sem.run_bind, run_underlying hd, Result.andThen_ok]
        cases d' <;> first | rfl | (rw [hkk] at hk; simp [tkind, TK.isIface] at hk)
    · cases hev
  · rename_i fn first cap
    cases hev
    refine RunV.same S ⟨.func fn (first.map ρv) (cap.map ρv), rfl, ?_⟩
    refine .fn _ _ _ _ _ (by simp) (by simp) (fun i p v hp hv => ?_) (fun i p v hp hv => ?_) <;>
    · simp only [List.getElem?_map, Array.getElem?_toList, Array.getElem?_map, Option.map_eq_some_iff] at hp hv
      obtain ⟨x, hx, rfl⟩ := hp
      obtain ⟨y, hy, rfl⟩ := hv
      rw [hx] at hy
      cases hy
      exact hρ _
  · rename_i t x lo hi mx
    have ho : ∀ y : Option Operand, ORelO G w (y.map ρ) (y.map ρv) := fun y => by
      cases y with
      | none => trivial
      | some y => exact hρ y
    exact RunV.same S (evSlice_sound hev (hρ x) (ho lo) (ho hi) (ho mx))
  · exact RunV.same S (evFieldAddr_sound hev (hρ _))
  · exact RunV.same S (evField_sound hev (hρ _))
  · exact RunV.same S (evIndexAddr_sound hev (hρ _) (hρ _))
  · exact RunV.same S (evIndex_sound hev (hρ _) (hρ _))
  · rename_i x i
    split at hev
    · rename_i vs hv
      have hx := hρ x
      rw [hv] at hx
      generalize ρv x = v at *
      cases hx with
      | tuple _ us hn hh =>
      obtain ⟨u, hu, hr⟩ := PRels.get (G := G) (w := w) ⟨hn, hh⟩ hev
      exact RunV.same S ⟨u, by simp [Instr.extract, hu], hr⟩
    · cases hev
  · rename_i args argTypes
    split at hev
    · rename_i x t ha ht
      obtain ⟨v, h1, h2⟩ := evLen_sound o.type hev (hρ x)
      have ha' : args = #[x] := Array.toList_inj.1 ha
      have ht' : argTypes = #[t] := Array.toList_inj.1 ht
      subst ha'; subst ht'
      exact ⟨v, w, by simp [resolve, invoke, builtin, h1], Ext.refl G w, S, h2⟩
    · cases hev
  · rename_i args argTypes
    split at hev
    · rename_i x xs ha
      obtain ⟨v, h1, h2⟩ := evMax_sound (P := P) (xs.map ρ) (xs.map ρv) hev (hρ x) (by simp) fun i p v hp hv => by
        simp only [List.getElem?_map, Option.map_eq_some_iff] at hp hv
        obtain ⟨y, hy, rfl⟩ := hp
        obtain ⟨z, hz, rfl⟩ := hv
        rw [hy] at hz; cases hz; exact hρ _
      have ha' : args = (x :: xs).toArray := by rw [← ha]
      subst ha'
      exact ⟨v, w, by simp [resolve, invoke, builtin, Builtin.max_, h1], Ext.refl G w, S, h2⟩
    · cases hev
  · rename_i args argTypes
    split at hev
    · rename_i x xs ha
      obtain ⟨v, h1, h2⟩ := evMin_sound (P := P) (xs.map ρ) (xs.map ρv) hev (hρ x) (by simp) fun i p v hp hv => by
        simp only [List.getElem?_map, Option.map_eq_some_iff] at hp hv
        obtain ⟨y, hy, rfl⟩ := hp
        obtain ⟨z, hz, rfl⟩ := hv
        rw [hy] at hz; cases hz; exact hρ _
      have ha' : args = (x :: xs).toArray := by rw [← ha]
      subst ha'
      exact ⟨v, w, by simp [resolve, invoke, builtin, Builtin.min_, h1], Ext.refl G w, S, h2⟩
    · cases hev
  · cases hev
end Go.Fh
