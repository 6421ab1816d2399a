/- Regions whose order is open: one walk in the text's order serves every order. -/
import Derived.Test.YtdclkdcgcfkopaaGreatDoorFhGo
import Derived.Test.YtdclkdcgcfkopaaGreatDoorFhAp
import Derived.Orders
import Derived.Eval
set_option linter.all false
namespace Go.Fh
open Go.RowKit

/-! ### What an operation asks of -/
theorem evP_congr {P : Program} {mu : Nat → Bool} {dst : Option Tmp} {op : Op} {ρ ρ' : Operand → PV} (h : ∀ x ∈ op.operands, ρ x = ρ' x) : evP P mu dst op ρ = evP P mu dst op ρ' := by
  have hm : ∀ (xs : Array Operand), (∀ x ∈ xs, ρ x = ρ' x) → xs.toList.map ρ = xs.toList.map ρ' := fun xs hx => List.map_congr_left fun x hxm => hx x (by simpa using hxm)
  cases op with
  | move x => simp only [evP]; rw [h x (by simp [Op.operands])]
  | assign x => simp only [evP]; rw [h x (by simp [Op.operands])]
  | pick c a b => simp only [evP]; rw [h c (by simp [Op.operands]), h a (by simp [Op.operands]), h b (by simp [Op.operands])]
  | box t x => simp only [evP]; rw [h x (by simp [Op.operands])]
  | build t parts =>
    simp only [evP]
    congr 1
    refine List.map_congr_left fun x hx => ?_
    rw [h x.2 (by simp only [Op.operands, List.mem_toArray, List.mem_map]; exact ⟨x, hx, rfl⟩)]
  | buildSlice t len parts =>
    simp only [evP]
    congr 1
    refine List.map_congr_left fun x hx => ?_
    rw [h x.2 (by simp only [Op.operands, List.mem_toArray, List.mem_map]; exact ⟨x, hx, rfl⟩)]
  | nilCheck x => simp only [evP]; rw [h x (by simp [Op.operands])]
  | binOp o t x y u => simp only [evP]; rw [h x (by simp [Op.operands]), h y (by simp [Op.operands])]
  | unOp o t x => simp only [evP]; rw [h x (by simp [Op.operands])]
  | convert s t x => simp only [evP]; rw [h x (by simp [Op.operands])]
  | load t x => simp only [evP]; rw [h x (by simp [Op.operands])]
  | makeInterface t x => simp only [evP]; rw [h x (by simp [Op.operands])]
  | makeFunc fn first cap =>
    simp only [evP]
    rw [hm first fun x hx => h x (by simp [Op.operands, hx]), hm cap fun x hx => h x (by simp [Op.operands, hx])]
  | slice t x lo hi mx =>
    have ho : ∀ y : Option Operand, (∀ z, y = some z → ρ z = ρ' z) → y.map ρ = y.map ρ' := fun y hy => by
      cases y with
      | none => rfl
      | some z => simp [hy z rfl]
    simp only [evP]
    rw [h x (by simp [Op.operands]), ho lo fun z hz => h z (by simp [Op.operands, hz]), ho hi fun z hz => h z (by simp [Op.operands, hz]), ho mx fun z hz => h z (by simp [Op.operands, hz])]
  | fieldAddr t x f => simp only [evP]; rw [h x (by simp [Op.operands])]
  | field t x f => simp only [evP]; rw [h x (by simp [Op.operands])]
  | indexAddr t x i => simp only [evP]; rw [h x (by simp [Op.operands]), h i (by simp [Op.operands])]
  | index t x i => simp only [evP]; rw [h x (by simp [Op.operands]), h i (by simp [Op.operands])]
  | extract x i => simp only [evP]; rw [h x (by simp [Op.operands])]
  | call c =>
    obtain ⟨callee, args, ts⟩ := c
    cases callee with
    | value f => simp only [evP]
    | invoke r n => simp only [evP]
    | builtin b =>
      have ha : ∀ x ∈ args.toList, ρ x = ρ' x := fun x hx => h x (by simp [Op.operands, Call.operands]; simpa using hx)
      cases b <;> simp only [evP] <;> (split <;> first | rfl | skip)
      · rename_i x t hx ht; rw [ha x (by rw [hx]; simp)]
      · rename_i x xs hx; rw [ha x (by rw [hx]; simp), List.map_congr_left fun y hy => ha y (by rw [hx]; simp [hy])]
      · rename_i x xs hx; rw [ha x (by rw [hx]; simp), List.map_congr_left fun y hy => ha y (by rw [hx]; simp [hy])]
  | _ => simp only [evP]

/-- The variable that an operation reads or writes through its address. -/
def addrKey : PV → Option Key
  | .ptr k _ _ => some k
  | .eptr k _ _ _ _ => some k
  | .row k _ _ _ _ _ => some k
  | .mapr k _ => some k
  | _ => none
def readKey (op : Op) (ρ : Operand → PV) : Option Key :=
  match op with
  | .load _ x | .slice _ x _ _ _ | .convert _ _ x => addrKey (ρ x)
  | _ => none

theorem evR_congr {P : Program} {op : Op} {ρ ρ' : Operand → PV} (hx : ∀ x ∈ op.operands, ρ x = ρ' x) {h h' : PHeap} {k : Key} (hk : readKey op ρ = some k) (he : h k = h' k) : evR P op ρ h = evR P op ρ' h' := by
  cases op with
  | load t x =>
    have e := hx x (by simp [Op.operands])
    simp only [readKey] at hk
    simp only [evR, ← e]
    generalize ρ x = p at hk
    cases p <;> simp only [addrKey, Option.some.injEq, reduceCtorEq] at hk
    case ptr => subst hk; simp only [he]
    case eptr => subst hk; simp only [he]
    all_goals (generalize tinfo P t = ti; rcases ti with _ | _ <;> rfl)
  | slice t x lo hi mx =>
    have e := hx x (by simp [Op.operands])
    have ho : ∀ y : Option Operand, (∀ z, y = some z → ρ z = ρ' z) → y.map ρ = y.map ρ' := fun y hy => by
      cases y with
      | none => rfl
      | some z => simp [hy z rfl]
    have h1 := ho lo fun z hz => hx z (by simp [Op.operands, hz])
    have h2 := ho hi fun z hz => hx z (by simp [Op.operands, hz])
    have h3 : ∀ m, mx = some m → ρ m = ρ' m := fun z hz => hx z (by simp [Op.operands, hz])
    simp only [readKey] at hk
    simp only [evR, ← e, h1, h2]
    generalize ρ x = p at hk
    cases p <;> simp only [addrKey, Option.some.injEq, reduceCtorEq] at hk
    case ptr kk vv oo =>
      subst hk
      generalize tinfo P t = ti
      rcases ti with _ | ⟨k0, _, _, _⟩
      · rfl
      · cases k0 <;> first
          | rfl
          | (cases oo with
             | succ n => rfl
             | zero =>
               cases mx with
               | none => simp only [he]
               | some m => simp only [he, h3 m rfl])
    all_goals (generalize tinfo P t = ti; rcases ti with _ | ⟨k0, _, _, _⟩ <;> first | rfl | (cases k0 <;> rfl))
  | convert s t x =>
    have e := hx x (by simp [Op.operands])
    simp only [readKey] at hk
    simp only [evR, ← e]
    generalize ρ x = p at hk
    cases p <;> simp only [addrKey, Option.some.injEq, reduceCtorEq] at hk
    case row kk vv s1 o1 l1 c1 =>
      subst hk
      generalize tinfo P s = si
      generalize tinfo P t = ti
      rcases si with _ | ⟨k0, _, _, _⟩
      · rfl
      · rcases ti with _ | ⟨k1, _, _, _⟩
        · cases k0 <;> rfl
        · cases k0 <;> cases k1 <;> first | rfl | simp only [he]
    all_goals (generalize tinfo P s = si; generalize tinfo P t = ti; rcases si with _ | ⟨k0, _, _, _⟩ <;> first | rfl | (rcases ti with _ | ⟨k1, _, _, _⟩ <;> cases k0 <;> first | rfl | (cases k1 <;> rfl)))
  | _ => simp [readKey] at hk

/-- A look into a map. -/
def evLk (P : Program) (op : Op) (ρ : Operand → PV) (h : PHeap) : Option PV :=
  match op with
  | .lookup t m k ok => match tinfo P t, ρ m with
    | some { k := .map kt et, .. }, .mapr key ver => match tinfo P kt, zeroP P et, h key with
      | some ki, some z, (v, some (.map es)) => if v = ver ∧ keyKind ki.k = true then (match findP ki.k (ρ k) es 0 with
        | some (some (_, p)) => some (if ok = true then .tuple [p, .bool true] else p)
        | some none => some (if ok = true then .tuple [z, .bool false] else z)
        | none => none) else none
      | _, _, _ => none
    | _, _ => none
  | _ => none
def lkKey (op : Op) (ρ : Operand → PV) : Option Key :=
  match op with
  | .lookup _ m _ _ => addrKey (ρ m)
  | _ => none
theorem evLk_evX {P : Program} {d : Nat} {ky : Tmp → Key} {dst : Option Tmp} {op : Op} {ρ : Operand → PV} {h : PHeap} {r : PV} (he : evLk P op ρ h = some r) : evX P d ky dst op ρ h = some (r, h) := by
  unfold evLk at he
  split at he
  · rename_i t m k ok
    simp only [evX]
    split at he
    · rename_i kt et sz by0 z0 key ver h1 h2
      rw [h1, h2]
      simp only []
      split at he
      · rename_i ki z v es h3 h4 h5
        rw [h3, h4, h5]
        simp only []
        split at he
        · rename_i hc
          rw [if_pos hc]
          split at he
          · rename_i h6; rw [h6]; cases he; rfl
          · rename_i h6; rw [h6]; cases he; rfl
          · cases he
        · cases he
      · cases he
    · cases he
  · cases he
theorem evLk_congr {P : Program} {op : Op} {ρ ρ' : Operand → PV} (hx : ∀ x ∈ op.operands, ρ x = ρ' x) {h h' : PHeap} {k : Key} (hk : lkKey op ρ = some k) (he : h k = h' k) : evLk P op ρ h = evLk P op ρ' h' := by
  cases op with
  | lookup t m i ok =>
    have e := hx m (by simp [Op.operands])
    have e2 := hx i (by simp [Op.operands])
    simp only [lkKey] at hk
    simp only [evLk, ← e, ← e2]
    generalize ρ m = p at hk
    cases p <;> simp only [addrKey, Option.some.injEq, reduceCtorEq] at hk
    case mapr =>
      subst hk
      generalize tinfo P t = ti
      rcases ti with _ | ⟨k0, _, _, _⟩
      · rfl
      · cases k0 <;> first
          | rfl
          | simp only [he]
    all_goals (generalize tinfo P t = ti; rcases ti with _ | ⟨k0, _, _, _⟩ <;> first | rfl | (cases k0 <;> rfl))
  | _ => simp [lkKey] at hk

theorem evAp_congr {P : Program} {d : Nat} {K : Key} {op : Op} {ρ ρ' : Operand → PV} {x : Nat × Option PObj} (hx : ∀ y ∈ op.operands, ρ y = ρ' y) : evAp P d K op ρ x = evAp P d K op ρ' x := by
  unfold evAp
  split
  · rename_i args argTypes
    have ha : ∀ y ∈ args.toList, ρ y = ρ' y := fun y hy => hx y (by simp [Op.operands, Call.operands]; simpa using hy)
    split
    · rename_i s y t t' h1 h2
      rw [ha s (by rw [h1]; simp), ha y (by rw [h1]; simp)]
    · rfl
  · rfl
theorem evAp_op {P : Program} {d : Nat} {K : Key} {op : Op} {ρ : Operand → PV} {x : Nat × Option PObj} {r : PV × (Nat × Option PObj)} (h : evAp P d K op ρ x = some r) : ∃ args ts, op = .call { callee := .builtin .append, args, argTypes := ts } := by
  unfold evAp at h
  split at h
  · exact ⟨_, _, rfl⟩
  · cases h

/-- What is written is one variable, and hangs on no other. -/
def writeKey (d : Nat) (dst : Option Tmp) (op : Op) (ρ : Operand → PV) : Option Key :=
  match op with
  | .alloc _ | .box _ _ => dst.map fun n => (d, n)
  | .store _ a _ => addrKey (ρ a)
  | _ => none
theorem evW_eff {P : Program} {d : Nat} {mu : Nat → Bool} {dst : Option Tmp} {op : Op} {ρ ρ' : Operand → PV} (hx : ∀ x ∈ op.operands, ρ x = ρ' x) {h h1 : PHeap} {v : PV} (hev : evW P d mu dst op ρ h = some (v, h1)) :
    ∃ k x, writeKey d dst op ρ = some k ∧ h1 = h.set k x ∧ ∀ h', h' k = h k → evW P d mu dst op ρ' h' = some (v, h'.set k x) := by
  cases op with
  | alloc t =>
    simp only [evW] at hev
    split at hev
    · rename_i n k sz by0 z hi
      cases hev
      refine ⟨(d, n), _, rfl, rfl, fun h' he => ?_⟩
      simp only [evW, hi, he]
    · cases hev
  | box t x =>
    have e := hx x (by simp [Op.operands])
    simp only [evW] at hev
    split at hev
    · rename_i n
      split at hev
      · rename_i hc
        cases hev
        refine ⟨(d, n), _, rfl, rfl, fun h' he => ?_⟩
        simp only [evW, ← e, he]
        rw [if_pos hc]
      · cases hev
    · cases hev
  | store t a x =>
    have e1 := hx a (by simp [Op.operands])
    have e2 := hx x (by simp [Op.operands])
    simp only [evW] at hev
    simp only [evW, writeKey, ← e1, ← e2]
    generalize ρ a = pa at *
    generalize ρ x = px at *
    clear e1 e2 hx
    split at hev
    · rename_i i hi
      split at hev
      · rename_i hc
        split at hev
        · rename_i k ver o
          split at hev
          · rename_i v' cs hk
            split at hev
            · rename_i hc2
              cases hev
              refine ⟨k, _, rfl, rfl, fun h' he => ?_⟩
              rw [if_pos hc]
              simp only [he, hk]
              rw [if_pos hc2]
            · cases hev
          · cases hev
        · rename_i k ver sz idx fo
          split at hev
          · rename_i v' sz' es hk
            split at hev
            · rename_i hc2
              split at hev
              · rename_i e he0
                split at hev
                · rename_i hc3
                  cases hev
                  refine ⟨k, _, rfl, rfl, fun h' he => ?_⟩
                  rw [if_pos hc]
                  simp only [he, hk]
                  rw [if_pos hc2]
                  simp only [he0]
                  rw [if_pos hc3]
                · cases hev
              · cases hev
            · cases hev
          · rename_i v' cs hk
            split at hev
            · rename_i hc2
              cases hev
              refine ⟨k, _, rfl, rfl, fun h' he => ?_⟩
              rw [if_pos hc]
              simp only [he, hk]
              rw [if_pos hc2]
            · cases hev
          · cases hev
        · cases hev
      · cases hev
    · cases hev
  | _ => simp [evW] at hev

/-! ### What comes before what -/
def befores : List Oper → List Nat → List Nat
  | [], B => B
  | o :: l, B => befores l (B ++ [o.after.toList.foldl (fun m e => if Region.binds .any e = true ∧ e.on < B.length then m ||| (1 <<< e.on ||| B.getD e.on 0) else m) 0])
def ordered (B : List Nat) (i j : Nat) : Bool := (B.getD (max i j) 0).testBit (min i j)

def names (ops : Array Oper) (o : Oper) : List Tmp :=
  o.dst.toList ++ (o.op.operands.toList.filterMap fun | .tmp t => some t | _ => none) ++ (match o.guard with
    | some (j, _) => ((ops[j]?).bind (·.dst)).toList
    | none => [])
def isAlloc (mu : Nat → Bool) (o : Oper) : Bool := match o.op with
  | .alloc _ => true
  | .box _ _ => match o.dst with
    | some n => mu n
    | none => false
  | _ => false
def isStore (o : Oper) : Bool := match o.op with
  | .store .. => true
  | .call { callee := .builtin .append, .. } => true
  | _ => false
def touches (mu : Nat → Bool) (o : Oper) : Bool := isAlloc mu o || isStore o || (match o.op with
  | .load .. | .slice .. | .convert .. | .lookup .. => true
  | .call { callee := .value _, .. } => true
  | _ => false)
/-- Whatever can disturb another operation is ordered with it. -/
def drawOk (mu : Nat → Bool) (ops : Array Oper) : Bool :=
  let B := befores ops.toList []
  let l := ops.toList.zipIdx
  l.all fun (o, j) => (o.after.toList.all fun e => !Region.binds .any e || decide (e.on < j)) && l.all fun (q, i) => i == j || (
    (match q.dst with
     | some t => !(names ops o).contains t || ordered B i j
     | none => true) &&
    (!(isStore q && touches mu o) || ordered B i j))
def allocs (mu : Nat → Bool) (ops : Array Oper) : List Tmp := ops.toList.filterMap fun o => if isAlloc mu o = true then o.dst else none

/-! ### One operation, in the text's order -/
inductive DStep (P : Program) (d : Nat) (mu : Nat → Bool) (ops : Array Oper) (o : Oper) (σ : St) : PV → Option (Key × (Nat × Option PObj)) → Prop where
  | skip (hg : guardP ops σ o = some false) : DStep P d mu ops o σ (.tuple []) none
  | pure (v : PV) (hg : guardP ops σ o = some true) (he : evP P mu o.dst o.op (rho σ) = some v) : DStep P d mu ops o σ v none
  | read (v : PV) (k : Key) (hg : guardP ops σ o = some true) (hk : readKey o.op (rho σ) = some k) (ha : k.1 = d → (allocs mu ops).contains k.2 = false) (he : evR P o.op (rho σ) σ.h = some v) : DStep P d mu ops o σ v none
  | look (v : PV) (k : Key) (hg : guardP ops σ o = some true) (hk : lkKey o.op (rho σ) = some k) (ha : k.1 = d → (allocs mu ops).contains k.2 = false) (he : evLk P o.op (rho σ) σ.h = some v) : DStep P d mu ops o σ v none
  | app (v : PV) (ky : Tmp → Key) (n : Tmp) (x : Nat × Option PObj) (hg : guardP ops σ o = some true) (h0 : (ky n).1 ≠ 0) (hd : o.dst = some n) (he : evAp P d (ky n) o.op (rho σ) (σ.h (ky n)) = some (v, x)) : DStep P d mu ops o σ v (some (ky n, x))
  | write (v : PV) (k : Key) (x : Nat × Option PObj) (hg : guardP ops σ o = some true) (h0 : k.1 ≠ 0) (hk : writeKey d o.dst o.op (rho σ) = some k)
      (he : evW P d mu o.dst o.op (rho σ) σ.h = some (v, σ.h.set k x)) : DStep P d mu ops o σ v (some (k, x))
  | call (v : PV) (f : FuncId) (fo : Operand) (args : Array Operand) (ts : Array TypeId) (first cap : List PV) (hg : guardP ops σ o = some true) (ho : o.op = .call { callee := .value fo, args, argTypes := ts }) (hf : rho σ fo = .fn (.func f) first cap)
      (hs : ∀ h : PHeap, (∀ k, (k.1 = d → (allocs mu ops).contains k.2 = false) → h k = σ.h k) → FnRet P d f (first ++ args.toList.map (rho σ) ++ cap) h v) : DStep P d mu ops o σ v none

def effH (h : PHeap) : Option (Key × (Nat × Option PObj)) → PHeap
  | some (k, x) => h.set k x
  | none => h
/-- All of them, in the text's order. -/
inductive DRun (P : Program) (d : Nat) (mu : Nat → Bool) (ops : Array Oper) : List Oper → St → List (PV × Option (Key × (Nat × Option PObj))) → St → Prop where
  | nil (σ : St) : DRun P d mu ops [] σ [] σ
  | cons (o : Oper) (l : List Oper) (σ σ' : St) (v : PV) (e : Option (Key × (Nat × Option PObj))) (r : List (PV × Option (Key × (Nat × Option PObj)))) (h : DStep P d mu ops o σ v e) (hr : DRun P d mu ops l (σ.put o.dst v (effH σ.h e)) r σ') : DRun P d mu ops (o :: l) σ ((v, e) :: r) σ'

/-- The state behind the operations of a set, taken in the text's order. -/
def stN (ops : Array Oper) (R : List (PV × Option (Key × (Nat × Option PObj)))) (σ0 : St) (S : Nat → Bool) : Nat → St
  | 0 => σ0
  | n + 1 =>
    let σ := stN ops R σ0 S n
    match S n, ops[n]?, R[n]? with
    | true, some o, some (v, e) => σ.put o.dst v (effH σ.h e)
    | _, _, _ => σ

section
variable {ops : Array Oper} {R : List (PV × Option (Key × (Nat × Option PObj)))} {σ0 : St}
theorem stN_t (S S' : Nat → Bool) (t : Tmp) : ∀ n, (∀ i, i < n → ∀ o, ops[i]? = some o → o.dst = some t → S i = S' i) → (stN ops R σ0 S n).t t = (stN ops R σ0 S' n).t t := by
  intro n
  induction n with
  | zero => intro _; rfl
  | succ n ih =>
    intro h
    have ih' := ih fun i hi => h i (by omega)
    have hput : ∀ (σ : St) (o : Oper) (v : PV) (h' : PHeap), o.dst ≠ some t → (σ.put o.dst v h').t t = σ.t t := by
      intro σ o v h' hne
      cases ho : o.dst with
      | none => rfl
      | some q =>
        simp only [St.put]
        rw [if_neg]
        intro e
        subst e
        exact hne ho
    simp only [stN]
    cases ho : ops[n]? with
    | none => cases S n <;> cases S' n <;> exact ih'
    | some o =>
      cases hr : R[n]? with
      | none => cases S n <;> cases S' n <;> exact ih'
      | some ve =>
        obtain ⟨v, e⟩ := ve
        by_cases hd : o.dst = some t
        · have := h n (by omega) o ho hd
          rw [this]
          cases S' n with
          | false => exact ih'
          | true =>
            simp only [St.put, hd, if_true]
        · cases S n <;> cases S' n <;> simp only [hput _ _ _ _ hd, ih']
theorem stN_h (S S' : Nat → Bool) (q : Key) : ∀ n, (∀ i, i < n → ∀ v x, R[i]? = some (v, some (q, x)) → S i = S' i) → (stN ops R σ0 S n).h q = (stN ops R σ0 S' n).h q := by
  intro n
  induction n with
  | zero => intro _; rfl
  | succ n ih =>
    intro h
    have ih' := ih fun i hi => h i (by omega)
    simp only [stN]
    cases ho : ops[n]? with
    | none => cases S n <;> cases S' n <;> exact ih'
    | some o =>
      cases hr : R[n]? with
      | none => cases S n <;> cases S' n <;> exact ih'
      | some ve =>
        obtain ⟨v, e⟩ := ve
        cases e with
        | none => cases S n <;> cases S' n <;> simp only [St.put_h, effH, ih']
        | some kx =>
          obtain ⟨k, x⟩ := kx
          by_cases hk : q = k
          · subst hk
            have := h n (by omega) v x hr
            rw [this]
            cases S' n with
            | false => exact ih'
            | true => simp only [St.put_h, effH, PHeap.set_self]
          · cases S n <;> cases S' n <;> simp only [St.put_h, effH, PHeap.set_ne _ _ hk, ih']
theorem stN_beyond (S S' : Nat → Bool) : ∀ n, (∀ i, i < n → S i = S' i) → stN ops R σ0 S n = stN ops R σ0 S' n := by
  intro n
  induction n with
  | zero => intro _; rfl
  | succ n ih =>
    intro h
    simp only [stN]
    rw [ih fun i hi => h i (by omega), h n (by omega)]
theorem stN_upto (j : Nat) : ∀ k, stN ops R σ0 (fun i => decide (i < j)) (j + k) = stN ops R σ0 (fun i => decide (i < j)) j := by
  intro k
  induction k with
  | zero => rfl
  | succ k ih =>
    rw [Nat.add_succ]
    simp only [stN]
    rw [show decide (j + k < j) = false by simp, ih]
end

theorem DRun.length {P : Program} {d : Nat} {mu : Nat → Bool} {ops : Array Oper} {l : List Oper} {σ σ' : St} {r : List (PV × Option (Key × (Nat × Option PObj)))} (h : DRun P d mu ops l σ r σ') : r.length = l.length := by
  induction h with
  | nil => rfl
  | cons o l σ σ' v e r hs hr ih => simp [ih]

/-- Each operation's step, at the state that the text's order gives it. -/
theorem DRun.steps {P : Program} {d : Nat} {mu : Nat → Bool} {ops : Array Oper} {σ0 σ' : St} {R : List (PV × Option (Key × (Nat × Option PObj)))} : ∀ {l : List Oper} {σ : St} {r : List (PV × Option (Key × (Nat × Option PObj)))} (n : Nat), DRun P d mu ops l σ r σ' →
    ops.toList.drop n = l → R.drop n = r → σ = stN ops R σ0 (fun _ => true) n →
    (∀ j o v e, n ≤ j → ops[j]? = some o → R[j]? = some (v, e) → DStep P d mu ops o (stN ops R σ0 (fun _ => true) j) v e) ∧ σ' = stN ops R σ0 (fun _ => true) (n + l.length) := by
  intro l σ r n h
  induction h generalizing n with
  | nil σ =>
    intro h1 h2 h3
    refine ⟨fun j o v e hj ho hr => ?_, by simpa using h3⟩
    have : ops.toList.length ≤ n := by simpa using h1
    rw [Array.length_toList] at this
    have := (Array.getElem?_eq_some_iff.1 ho).1
    omega
  | cons o l σ σ' v e r hs hr ih =>
    intro h1 h2 h3
    have hn : n < ops.toList.length := by
      rcases Nat.lt_or_ge n ops.toList.length with h | h
      · exact h
      · rw [List.drop_eq_nil_of_le h] at h1; cases h1
    have hnr : n < R.length := by
      rcases Nat.lt_or_ge n R.length with h | h
      · exact h
      · rw [List.drop_eq_nil_of_le h] at h2; cases h2
    have ho : ops[n]? = some o := by
      have := List.getElem?_drop (xs := ops.toList) (i := n) (j := 0)
      rw [h1] at this
      simpa using this.symm
    have hve : R[n]? = some (v, e) := by
      have := List.getElem?_drop (xs := R) (i := n) (j := 0)
      rw [h2] at this
      simpa using this.symm
    obtain ⟨k1, k2⟩ := ih (n + 1) (by rw [← List.drop_drop, h1]; rfl) (by rw [← List.drop_drop, h2]; rfl) (by simp only [stN, ho, hve, ← h3])
    refine ⟨fun j o' v' e' hj ho' hr' => ?_, by rw [k2]; congr 1; simp; omega⟩
    rcases Nat.eq_or_lt_of_le hj with rfl | hlt
    · rw [ho] at ho'; cases ho'
      rw [hve] at hr'; cases hr'
      rw [← h3]; exact hs
    · exact k1 j o' v' e' hlt ho' hr'

theorem fold_bits (B : List Nat) : ∀ (es : List Edge) (m i : Nat), (es.foldl (fun m e => if Region.binds .any e = true ∧ e.on < B.length then m ||| (1 <<< e.on ||| B.getD e.on 0) else m) m).testBit i = true →
    m.testBit i = true ∨ ∃ e ∈ es, Region.binds .any e = true ∧ e.on < B.length ∧ (i = e.on ∨ (B.getD e.on 0).testBit i = true) := by
  intro es
  induction es with
  | nil => intro m i h; exact .inl h
  | cons e es ih =>
    intro m i h
    simp only [List.foldl_cons] at h
    rcases ih _ i h with h1 | ⟨e', he', h2⟩
    · split at h1
      · rename_i hc
        rw [Nat.testBit_or, Nat.testBit_or, Bool.or_eq_true, Bool.or_eq_true] at h1
        rcases h1 with h1 | h1 | h1
        · exact .inl h1
        · right
          refine ⟨e, by simp, hc.1, hc.2, .inl ?_⟩
          rw [Nat.shiftLeft_eq, Nat.one_mul, Nat.testBit_two_pow] at h1
          simpa using (of_decide_eq_true h1).symm
        · exact .inr ⟨e, by simp, hc.1, hc.2, .inr h1⟩
      · exact .inl h1
    · exact .inr ⟨e', by simp [he'], h2⟩

theorem befores_spec : ∀ (l : List Oper) (B0 : List Nat), (befores l B0).length = B0.length + l.length ∧ (∀ i, i < B0.length → (befores l B0).getD i 0 = B0.getD i 0) ∧
    ∀ (k : Nat) (o : Oper), l[k]? = some o → ∀ i, ((befores l B0).getD (B0.length + k) 0).testBit i = true → ∃ e ∈ o.after.toList, Region.binds .any e = true ∧ e.on < B0.length + k ∧ (i = e.on ∨ ((befores l B0).getD e.on 0).testBit i = true) := by
  intro l
  induction l with
  | nil => intro B0; exact ⟨rfl, fun _ _ => rfl, fun k o h => by simp at h⟩
  | cons o l ih =>
    intro B0
    let x := o.after.toList.foldl (fun m e => if Region.binds .any e = true ∧ e.on < B0.length then m ||| (1 <<< e.on ||| B0.getD e.on 0) else m) 0
    obtain ⟨h1, h2, h3⟩ := ih (B0 ++ [x])
    have hb : befores (o :: l) B0 = befores l (B0 ++ [x]) := rfl
    rw [hb]
    have hold : ∀ i, i < B0.length → (befores l (B0 ++ [x])).getD i 0 = B0.getD i 0 := by
      intro i hi
      rw [h2 i (by simp; omega)]
      simp only [List.getD_eq_getElem?_getD]
      rw [List.getElem?_append_left hi]
    refine ⟨by rw [h1]; simp; omega, hold, fun k o' hk i hi => ?_⟩
    cases k with
    | zero =>
      simp at hk
      subst hk
      rw [Nat.add_zero, h2 _ (by simp)] at hi
      simp only [List.getD_eq_getElem?_getD] at hi
      rw [List.getElem?_append_right (Nat.le_refl _), Nat.sub_self] at hi
      simp only [List.getElem?_cons_zero, Option.getD_some] at hi
      rcases fold_bits B0 _ 0 i hi with h | ⟨e, he, hb1, hb2, hb3⟩
      · simp at h
      · refine ⟨e, he, hb1, by omega, ?_⟩
        rcases hb3 with rfl | hb3
        · exact .inl rfl
        · right
          rw [hold _ hb2]
          exact hb3
    | succ k =>
      have := h3 k o' hk i (by simpa [Nat.add_assoc, Nat.add_comm 1 k] using hi)
      obtain ⟨e, he, hb1, hb2, hb3⟩ := this
      exact ⟨e, he, hb1, by simp at hb2; omega, hb3⟩

theorem closed_bits {ops : Array Oper} {S : Nat → Bool} (hS : ∀ j o, S j = true → ops[j]? = some o → ∀ e ∈ o.after, Region.binds .any e = true → S e.on = true) : ∀ (j : Nat) (o : Oper), ops[j]? = some o → (∀ e ∈ o.after, Region.binds .any e = true → S e.on = true) → ∀ i, ((befores ops.toList []).getD j 0).testBit i = true → S i = true := by
  intro j
  induction j using Nat.strongRecOn with
  | _ j ih =>
    intro o ho he i hi
    obtain ⟨_, _, h3⟩ := befores_spec ops.toList []
    obtain ⟨e, he1, hb1, hb2, hb3⟩ := h3 j o (by rwa [Array.getElem?_toList]) i (by simpa using hi)
    simp only [List.length_nil, Nat.zero_add] at hb2
    have hSe := he e (by simpa using he1) hb1
    rcases hb3 with rfl | hb3
    · exact hSe
    · have hj := (Array.getElem?_eq_some_iff.1 ho).1
      have hlt : e.on < ops.size := by omega
      exact ih e.on hb2 ops[e.on] (Array.getElem?_eq_getElem hlt) (hS e.on _ hSe (Array.getElem?_eq_getElem hlt)) i hb3
end Go.Fh
