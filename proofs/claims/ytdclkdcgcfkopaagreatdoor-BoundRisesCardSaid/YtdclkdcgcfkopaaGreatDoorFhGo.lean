/- A function's code taken step by step: what is to be shown of it, as a proposition that simp reckons out. -/
import Derived.Test.YtdclkdcgcfkopaaGreatDoorFhCall
set_option linter.all false
namespace Go.Fh
open Go.RowKit

/-- How a body may end, where nothing is to be frozen. -/
def FnEnd (P : Program) (d : Nat) (fn : Func) (h : PHeap) (Post : POut → PHeap → Prop) : PExit → St → Prop
  | .normal, σ | .ret, σ => match resP P fn σ with
    | some r => Post (.ret r) (leaveH d σ.h h)
    | none => False
  | .panic p, σ => Post (.pan p) (leaveH d σ.h h)
  | _, _ => False
theorem FnEnd.post {P : Program} {d : Nat} {fn : Func} {h : PHeap} {Post : POut → PHeap → Prop} {e : PExit} {σ : St} (k : FnEnd P d fn h Post e σ) : FnPost P d fn h Post e σ := by
  cases e <;> simp only [FnEnd, FnPost] at k ⊢
  · split at k
    · rename_i r hr; exact ⟨r, r, hr, .same r, k⟩
    · exact k.elim
  · split at k
    · rename_i r hr; exact ⟨r, r, hr, .same r, k⟩
    · exact k.elim
  · exact ⟨_, .same _, k⟩
theorem FnEnd_ret {P : Program} {d : Nat} {fn : Func} {h : PHeap} {Post : POut → PHeap → Prop} {σ : St} : FnEnd P d fn h Post .ret σ = match resP P fn σ with
    | some r => Post (.ret r) (leaveH d σ.h h)
    | none => False := (rfl)
theorem FnEnd_normal {P : Program} {d : Nat} {fn : Func} {h : PHeap} {Post : POut → PHeap → Prop} {σ : St} : FnEnd P d fn h Post .normal σ = match resP P fn σ with
    | some r => Post (.ret r) (leaveH d σ.h h)
    | none => False := (rfl)
theorem FnEnd_panic {P : Program} {d : Nat} {fn : Func} {h : PHeap} {Post : POut → PHeap → Prop} {σ : St} {p : PV} : FnEnd P d fn h Post (.panic p) σ = Post (.pan p) (leaveH d σ.h h) := (rfl)

theorem PThen_normal (next : St → Prop) (Q : PExit → St → Prop) (σ : St) : PThen next Q .normal σ = next σ := (rfl)
theorem PThen_ret (next : St → Prop) (Q : PExit → St → Prop) (σ : St) : PThen next Q .ret σ = Q .ret σ := (rfl)
theorem PThen_exit (next : St → Prop) (Q : PExit → St → Prop) (i : Nat) (σ : St) : PThen next Q (.exit i) σ = Q (.exit i) σ := (rfl)
theorem PThen_goto (next : St → Prop) (Q : PExit → St → Prop) (i : Nat) (σ : St) : PThen next Q (.goto i) σ = Q (.goto i) σ := (rfl)
theorem PThen_panic (next : St → Prop) (Q : PExit → St → Prop) (p : PV) (σ : St) : PThen next Q (.panic p) σ = Q (.panic p) σ := (rfl)
theorem PInBlock_normal (id : Nat) (Q : PExit → St → Prop) (σ : St) : PInBlock id Q .normal σ = Q .normal σ := (rfl)
theorem PInBlock_ret (id : Nat) (Q : PExit → St → Prop) (σ : St) : PInBlock id Q .ret σ = Q .ret σ := (rfl)
theorem PInBlock_goto (id : Nat) (Q : PExit → St → Prop) (i : Nat) (σ : St) : PInBlock id Q (.goto i) σ = Q (.goto i) σ := (rfl)
theorem PInBlock_panic (id : Nat) (Q : PExit → St → Prop) (p : PV) (σ : St) : PInBlock id Q (.panic p) σ = Q (.panic p) σ := (rfl)
theorem PInBlock_exit (id : Nat) (Q : PExit → St → Prop) (i : Nat) (σ : St) : PInBlock id Q (.exit i) σ = if i = id then Q .normal σ else Q (.exit i) σ := (rfl)
theorem FnPost_ret {P : Program} {d : Nat} {fn : Func} {h : PHeap} {Post : POut → PHeap → Prop} {σ : St} : FnPost P d fn h Post .ret σ = ∃ r r', resP P fn σ = some r ∧ Froze d σ.h r r' ∧ Post (.ret r') (leaveH d σ.h h) := (rfl)
theorem FnPost_normal {P : Program} {d : Nat} {fn : Func} {h : PHeap} {Post : POut → PHeap → Prop} {σ : St} : FnPost P d fn h Post .normal σ = ∃ r r', resP P fn σ = some r ∧ Froze d σ.h r r' ∧ Post (.ret r') (leaveH d σ.h h) := (rfl)
theorem FnPost_panic {P : Program} {d : Nat} {fn : Func} {h : PHeap} {Post : POut → PHeap → Prop} {σ : St} {p : PV} : FnPost P d fn h Post (.panic p) σ = ∃ p', Froze d σ.h p p' ∧ Post (.pan p') (leaveH d σ.h h) := (rfl)
/-- A function that leaves all as it was. -/
theorem enter_leave (d : Nat) (c : Key → Nat) (h : PHeap) : leaveH d (enterH d c h) h = h := by
  funext k
  unfold leaveH enterH
  split <;> rfl
theorem leave_set_own (d n : Nat) (x : Nat × Option PObj) (h' h : PHeap) : leaveH d (h'.set (d + 1, n) x) h = leaveH d h' h := by
  funext k
  unfold leaveH PHeap.set
  split
  · rename_i hk
    rw [if_neg (by intro e; subst e; exact absurd hk (by simp))]
  · rfl

@[simp] theorem enterH_own (d n : Nat) (c : Key → Nat) (h : PHeap) : enterH d c h (d + 1, n) = (c (d + 1, n), none) := if_neg (Nat.not_succ_le_self d)
@[simp] theorem PHeap.set_set (h : PHeap) (k : Key) (x y : Nat × Option PObj) : (h.set k x).set k y = h.set k y := by
  funext q
  simp only [PHeap.set]
  split <;> rfl
@[simp] theorem PHeap.set_at (h : PHeap) (k q : Key) (x : Nat × Option PObj) : (h.set k x) q = if q = k then x else h q := (rfl)
attribute [simp] FnEnd_ret FnEnd_normal FnEnd_panic PThen_normal PThen_ret PThen_exit PThen_goto PThen_panic PInBlock_normal PInBlock_ret PInBlock_goto PInBlock_panic PInBlock_exit enter_leave leave_set_own
attribute [simp] evEq eqP eqFldP evNil ev evX findP keyP keyKind keyOk evP evR evW rho PV.ofConst PV.ofVal St.put_t St.put_t_none St.put_h evBin evInt evIntS evStr evUn evConv evLen evMax evField evFieldAddr evIndexAddr evIndex evSlice evB evBO evBuild evBuildSlice
attribute [simp] fillP setsP placesP partP PV.solid PV.cells PV.there PV.one TI.agg TK.isIface spliceP resP resAll resOne PHeap.set_self startT
end Go.Fh
