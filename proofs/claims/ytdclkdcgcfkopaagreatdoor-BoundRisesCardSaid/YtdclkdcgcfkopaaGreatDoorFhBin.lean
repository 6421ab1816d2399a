/- Operators on pure values. -/
import Derived.Test.YtdclkdcgcfkopaaGreatDoorFhTypes
set_option linter.all false
namespace Go.Fh
open Go.RowKit

def bitsOf (op : BinOp) (k : IntKind) (a b : Int) : Int :=
  let x := BitVec.ofInt k.bits a
  let y := BitVec.ofInt k.bits b
  match op with
  | .and => k.wrap (x &&& y).toNat
  | .or => k.wrap (x ||| y).toNat
  | .xor => k.wrap (x ^^^ y).toNat
  | _ => k.wrap (x &&& ~~~y).toNat

def evIntS (op : BinOp) (k : IntKind) (a b : Int) : Option PV :=
  match op with
  | .add => some (.int k (k.wrap (a + b)))
  | .sub => some (.int k (k.wrap (a - b)))
  | .mul => some (.int k (k.wrap (a * b)))
  | .quo => if b = 0 then none else some (.int k (k.wrap (a.tdiv b)))
  | .rem => if b = 0 then none else some (.int k (a.tmod b))
  | .and => some (.int k (bitsOf .and k a b))
  | .or => some (.int k (bitsOf .or k a b))
  | .xor => some (.int k (bitsOf .xor k a b))
  | .andNot => some (.int k (bitsOf .andNot k a b))
  | .eql => some (.bool (decide (a = b)))
  | .neq => some (.bool (decide (a ≠ b)))
  | .lss => some (.bool (decide (a < b)))
  | .leq => some (.bool (decide (a ≤ b)))
  | .gtr => some (.bool (decide (b < a)))
  | .geq => some (.bool (decide (b ≤ a)))
  | _ => none

def evInt (op : BinOp) (k k' : IntKind) (a b : Int) : Option PV :=
  match op with
  | .shl => if 0 ≤ b then some (.int k (k.wrap (a * 2 ^ (min b.toNat k.bits)))) else none
  | .shr => if 0 ≤ b then some (.int k (a.fdiv (2 ^ (min b.toNat k.bits)))) else none
  | op => if k = k' then evIntS op k a b else none

def evStr (op : BinOp) (a b : Str) : Option PV :=
  match op with
  | .add => if a.length + b.length ≤ 9223372036854775807 then some (.str (a ++ b)) else none
  | .eql => some (.bool (decide (a = b)))
  | .neq => some (.bool (decide (a ≠ b)))
  | .lss => some (.bool (Op.bytesLess a b))
  | .leq => some (.bool (Op.bytesLess a b || decide (a = b)))
  | .gtr => some (.bool (!(Op.bytesLess a b || decide (a = b))))
  | .geq => some (.bool (!Op.bytesLess a b))
  | _ => none

def evBin (P : Program) (op : BinOp) (t : TypeId) (x y : PV) : Option PV :=
  match x, y with
  | .int k a, .int k' b => evInt op k k' a b
  | .str a, .str b => evStr op a b
  | .bool a, .bool b =>
    match tinfo P t with
    | some { k := .bool, .. } =>
      match op with
      | .eql => some (.bool (a == b))
      | .neq => some (.bool (a != b))
      | _ => none
    | _ => none
  | .iface _ _, .niliface =>
    match tinfo P t with
    | some { k := .iface, .. } =>
      match op with
      | .eql => some (.bool false)
      | .neq => some (.bool true)
      | _ => none
    | _ => none
  | _, _ => none

theorem evInt_sound {P : Program} {op : BinOp} {t : TypeId} {k k' : IntKind} {a b : Int} {r : PV} (h : evInt op k k' a b = some r) (w : World) :
    ∃ v, (binOp op t (.int k a) (.int k' b)).run P w = .ok v w ∧ ∀ G, PRel G w r v := by
  unfold evInt at h
  split at h
  · split at h
    · cases h; exact ⟨_, by simp [binOp, Op.shift]; omega, fun _ => .int _ _⟩
    · cases h
  · split at h
    · cases h; exact ⟨_, by simp [binOp, Op.shift]; omega, fun _ => .int _ _⟩
    · cases h
  · split at h
    · rename_i hk
      subst hk
      cases op <;> simp only [evIntS, Option.some.injEq, reduceCtorEq] at h <;>
        first
        | (subst h; refine ⟨_, ?_, fun _ => .int _ _⟩; simp [binOp, Op.intArith, Op.intBits, bitsOf]; done)
        | (subst h; refine ⟨_, ?_, fun _ => .bool _⟩; simp [binOp, Op.intCmp]; done)
        | (subst h; refine ⟨_, ?_, fun _ => .bool _⟩; simp only [binOp, Op.intCmp]; rw [if_neg (by simp)]; simp [bne]; done)
        | (split at h
           · cases h
           · rename_i hb; cases h; refine ⟨_, ?_, fun _ => .int _ _⟩; simp [binOp, Op.intDiv, hb])
        | (subst h; exact ⟨_, by simp only [binOp, Op.intCmp]; rw [if_neg (by simp)]; rfl, fun _ => .bool _⟩)
        | (subst h
           refine ⟨_, ?_, fun _ => .bool _⟩
           simp only [binOp, Op.intCmp]
           rw [if_neg (by simp)]
           simp only [Sem.run_pure, Result.ok.injEq, Value.bool.injEq, and_true]
           rw [Bool.eq_iff_iff]
           simp)
    · cases h

theorem stringOp_sound {P : Program} {op : BinOp} {a b : Str} {r : PV} (h : evStr op a b = some r) (w : World) :
    ∃ v, (Op.stringOp op (mkStr a) (mkStr b)).run P w = .ok v w ∧ ∀ G, PRel G w r v := by
  cases op <;> simp only [evStr, Option.some.injEq, reduceCtorEq] at h
  case add =>
    split at h
    · rename_i hl
      cases h
      refine ⟨.string (mkStr (a ++ b)), ?_, fun _ => .str _⟩
      simp only [Op.stringOp, mkStr_size]
      rw [if_neg (by simp [IntKind.max, IntKind.signed, IntKind.bits]; omega), mkStr_append]
      rfl
    · cases h
  all_goals
    subst h
    refine ⟨_, ?_, fun _ => .bool _⟩
    simp [Op.stringOp, Bool.beq_eq_decide_eq]

theorem equalIn_bool {P : Program} (d : Nat) {t : TypeId} (h : P.underlying t = some .bool) (a b : Bool) (w : World) : (Op.equalIn (d + 1) t (.bool a) (.bool b)).run P w = .ok (a == b) w := by
  simp [Op.equalIn, run_underlying h]
theorem equalIn_iface_nil {P : Program} (d : Nat) {t : TypeId} {ms : Array (String × TypeId)} (h : P.underlying t = some (.interface ms)) (u : TypeId) (v : Value) (w : World) : (Op.equalIn (d + 1) t (.iface u v) .nilIface).run P w = .ok false w := by
  simp [Op.equalIn, run_underlying h]
theorem evBin_sound {P : Program} {op : BinOp} {t : TypeId} {p q : PV} {x y : Value} {r : PV} {G : Ghost} {w : World} (h : evBin P op t p q = some r) (hx : PRel G w p x) (hy : PRel G w q y) :
    ∃ v, (binOp op t x y).run P w = .ok v w ∧ PRel G w r v := by
  unfold evBin at h
  split at h
  · cases hx; cases hy
    obtain ⟨v, h1, h2⟩ := evInt_sound (P := P) (t := t) h w
    exact ⟨v, h1, h2 G⟩
  · cases hx; cases hy
    obtain ⟨v, h1, h2⟩ := stringOp_sound (P := P) h w
    refine ⟨v, ?_, h2 G⟩
    rw [← h1]
    cases op <;> rfl
  · rename_i a b
    cases hx; cases hy
    split at h
    · rename_i hi
      obtain ⟨d, hd, hk⟩ := tinfo_under hi
      have hd' := tkind_bool hk.symm
      subst hd'
      split at h
      · cases h
        have e := equalIn_bool 9999 hd a b w
        exact ⟨_, by simp only [binOp, Op.equal, Op.maxDepth, Sem.run_bind, e]; rfl, .bool _⟩
      · cases h
        have e := equalIn_bool 9999 hd a b w
        exact ⟨_, by simp only [binOp, Op.equal, Op.maxDepth, Sem.run_bind, e]; rfl, .bool _⟩
      · cases h
    · cases h
  · cases hx; cases hy
    split at h
    · rename_i hi
      obtain ⟨d, hd, hk⟩ := tinfo_under hi
      obtain ⟨ms, hd'⟩ := tkind_iface hk.symm
      subst hd'
      split at h
      · cases h
        exact ⟨_, by simp only [binOp, Op.equal, Op.maxDepth, Sem.run_bind, equalIn_iface_nil 9999 hd]; rfl, .bool _⟩
      · cases h
        exact ⟨_, by simp only [binOp, Op.equal, Op.maxDepth, Sem.run_bind, equalIn_iface_nil 9999 hd]; rfl, .bool _⟩
      · cases h
    · cases h
  · cases h

theorem evGuard_sound {P : Program} {op : BinOp} {t : TypeId} {p q : PV} {x y : Value} {r : PV} {G : Ghost} {w : World} (xo yo : Operand) (h : evBin P op t p q = some r) (hx : PRel G w p x) (hy : PRel G w q y) :
    (eqGuard op t xo yo x y).run P w = .ok () w := by
  unfold evBin at h
  split at h <;> first | cases h; done | (cases hx; cases hy; cases op <;> rfl)

def evUn (op : UnOp) (x : PV) : Option PV :=
  match op, x with
  | .neg, .int k n => some (.int k (k.wrap (0 - n)))
  | .xor, .int k n => some (.int k (bitsOf .xor k (if k.signed then -1 else k.max) n))
  | .not, .bool b => some (.bool (!b))
  | _, _ => none
theorem evUn_sound {P : Program} {op : UnOp} {p : PV} {x : Value} {r : PV} {G : Ghost} {w : World} (h : evUn op p = some r) (hx : PRel G w p x) :
    ∃ v, (Op.unary op x).run P w = .ok v w ∧ PRel G w r v := by
  unfold evUn at h
  split at h
  · cases h; cases hx; exact ⟨_, by simp [Op.unary, Op.intArith], .int _ _⟩
  · cases h; cases hx; exact ⟨_, by simp [Op.unary, Op.intBits, bitsOf], .int _ _⟩
  · cases h; cases hx; exact ⟨_, by simp [Op.unary], .bool _⟩
  · cases h
end Go.Fh
