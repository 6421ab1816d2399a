/- Steps through code, regions of open order among it. -/
import Derived.Test.YtdclkdcgcfkopaaGreatDoorFhDraw3
set_option linter.all false
namespace Go.Fh
open Go.RowKit

/-! ### Steps through the operations of a region in the text's order -/
/-- Something that simp does not look into. -/
class Hid (α : Type) where
  val : α

/-- Two ways, of which simp takes neither till it knows which. -/
def goIf (b : Bool) [F : Hid Prop] [T : Hid Prop] : Prop := (b = false → F.val) ∧ (b = true → T.val)
@[simp ↓] theorem goIf_true {F T : Prop} : @goIf true ⟨F⟩ ⟨T⟩ = T := by simp [goIf]
@[simp ↓] theorem goIf_false {F T : Prop} : @goIf false ⟨F⟩ ⟨T⟩ = F := by simp [goIf]
@[simp] theorem goIf_true' {F T : Prop} : @goIf true ⟨F⟩ ⟨T⟩ = T := by simp [goIf]
@[simp] theorem goIf_false' {F T : Prop} : @goIf false ⟨F⟩ ⟨T⟩ = F := by simp [goIf]
@[simp] theorem goIf_not {b : Bool} {F T : Prop} : @goIf (!b) ⟨F⟩ ⟨T⟩ = @goIf b ⟨T⟩ ⟨F⟩ := by cases b <;> simp [goIf]
theorem goIf.intro {b : Bool} {F T : Prop} (f : b = false → F) (t : b = true → T) : @goIf b ⟨F⟩ ⟨T⟩ := ⟨f, t⟩
theorem goIf.decide {p : Prop} {i : Decidable p} {F T : Prop} (f : ¬ p → F) (t : p → T) : @goIf (@Decidable.decide p i) ⟨F⟩ ⟨T⟩ := ⟨fun e => f (of_decide_eq_false e), fun e => t (of_decide_eq_true e)⟩

def guardG (gd : List (Option Tmp)) (σ : St) (o : Oper) : Option Bool :=
  match o.guard with
  | none => some true
  | some (j, want) =>
    match (gd[j]?).join with
    | some t => match σ.t t with
      | .bool b => some (b == want)
      | .tuple _ => some false
      | _ => none
    | none => some false
def dsts (ops : Array Oper) : List (Option Tmp) := ops.toList.map (·.dst)
theorem guardG_eq (ops : Array Oper) (σ : St) (o : Oper) : guardG (dsts ops) σ o = guardP ops σ o := by
  unfold guardG guardP dsts
  cases hg : o.guard with
  | none => rfl
  | some jw =>
    obtain ⟨j, want⟩ := jw
    have : ((ops.toList.map (·.dst))[j]?).join = (ops[j]?).bind (·.dst) := by
      rw [List.getElem?_map, Array.getElem?_toList]
      cases ops[j]? <;> rfl
    simp only [this]
    cases (ops[j]?).bind (·.dst) with
    | none => rfl
    | some t => simp only []; cases σ.t t <;> rfl

def goOp (P : Program) (d : Nat) (mu : Nat → Bool) (ky : Tmp → Key) (o : Oper) (σ : St) (K : POut → PHeap → Prop) (N : PV → PHeap → Prop) : Prop :=
  match o.op with
  | .call { callee := .value fo, args, .. } =>
    match rho σ fo with
    | .fn (.func f) first cap => FnSpec P d f (first ++ args.toList.map (rho σ) ++ cap) σ.h K
    | _ => False
  | _ =>
    match ev P d mu o (rho σ) σ.h with
    | some (v, h') => N v h'
    | none => match evX P d ky o.dst o.op (rho σ) σ.h with
      | some (v, h') => N v h'
      | none => False

mutual
def goOps (P : Program) (d : Nat) (mu : Nat → Bool) (ky : Tmp → Key) (gd : List (Option Tmp)) : List Oper → (PExit → St → Prop) → St → Prop
  | [], Q, σ => Q .normal σ
  | o :: l, Q, σ =>
    match guardG gd σ o with
    | none => False
    | some g => (g = false → goOps P d mu ky gd l Q (σ.put o.dst (.tuple []) σ.h)) ∧ (g = true → goOp P d mu ky o σ (PNext P d mu ky gd l Q σ o.dst) fun v h' => goOps P d mu ky gd l Q (σ.put o.dst v h'))
/-- Behind a call. -/
def PNext (P : Program) (d : Nat) (mu : Nat → Bool) (ky : Tmp → Key) (gd : List (Option Tmp)) (l : List Oper) (Q : PExit → St → Prop) (σ : St) (dst : Option Tmp) : POut → PHeap → Prop
  | .ret r, h' => goOps P d mu ky gd l Q (σ.put dst r h')
  | .pan p, h' => Q (.panic p) { σ with h := h' }
end

theorem goOps_sound {P : Program} {d m : Nat} (hd0 : 0 < d) {mu : Nat → Bool} {ky : Tmp → Key} {ops : Array Oper} {Q : PExit → St → Prop} : ∀ {l : List Oper} {σ : St}, opsOk m ops l = true → goOps P d mu ky (dsts ops) l Q σ → TOps P d m ops l Q σ
  | [], σ, _, h => TOps.nil (by simpa only [goOps] using h)
  | o :: l, σ, ok, h => by
    have ok' := opsOk_tail ok
    simp only [goOps, guardG_eq] at h
    split at h
    · exact h.elim
    · rename_i g hg
      cases g with
      | false => exact TOps.skip ok'.1 hg (goOps_sound hd0 ok'.2 (h.1 rfl))
      | true =>
        have h1 := h.2 rfl
        unfold goOp at h1
        split at h1
        · rename_i fo args ts ho
          split at h1
          · rename_i f first cap hf
            refine TOps.call ok'.1 hg ho hf h1 fun po h' hp => ?_
            cases po with
            | ret r => exact goOps_sound hd0 ok'.2 (by simpa only [PNext] using hp)
            | pan p => simpa only [PNext, PCall] using hp
          · exact h1.elim
        · split at h1
          · rename_i v h' hev
            exact TOps.of_run ok'.1 hg (fun G a w S => ev_sound hd0 S.heap S.eval hev) (goOps_sound hd0 ok'.2 h1)
          · split at h1
            · rename_i v h' hev
              exact TOps.of_run ok'.1 hg (fun G a w S => evX_sound S.heap S.eval hev) (goOps_sound hd0 ok'.2 h1)
            · exact h1.elim

/-! ### In a region of open order -/
/-- The variables that hold but for those that a region lays. -/
def Agrees (d : Nat) (al : List Tmp) (h h' : PHeap) : Prop := ∀ k : Key, (k.1 = d → al.contains k.2 = false) → h' k = h k

/-- A call in a region of open order: what it hands back, whatever the region's own variables hold. -/
def goDCall (P : Program) (d : Nat) (f : FuncId) (args : List PV) (al : List Tmp) (h : PHeap) (N : PV → PHeap → Prop) : Prop := ∃ r, (∀ h', Agrees d al h h' → FnRet P d f args h' r) ∧ N r h
theorem goDCall.intro {P : Program} {d : Nat} {f : FuncId} {args : List PV} {al : List Tmp} {h : PHeap} {N : PV → PHeap → Prop} (r : PV) (hs : ∀ h', Agrees d al h h' → FnRet P d f args h' r) (hn : N r h) : goDCall P d f args al h N := ⟨r, hs, hn⟩

def goDOp (P : Program) (d : Nat) (mu : Nat → Bool) (ky : Tmp → Key) (al : List Tmp) (o : Oper) (σ : St) (N : PV → PHeap → Prop) : Prop :=
  match o.op with
  | .call { callee := .value fo, args, .. } =>
    match rho σ fo with
    | .fn (.func f) first cap => goDCall P d f (first ++ args.toList.map (rho σ) ++ cap) al σ.h N
    | _ => False
  | _ =>
    match evP P mu o.dst o.op (rho σ) with
    | some v => N v σ.h
    | none => match evR P o.op (rho σ) σ.h, readKey o.op (rho σ) with
      | some v, some k => (k.1 = d → al.contains k.2 = false) ∧ N v σ.h
      | _, _ => match evLk P o.op (rho σ) σ.h, lkKey o.op (rho σ) with
        | some v, some k => (k.1 = d → al.contains k.2 = false) ∧ N v σ.h
        | _, _ => match evW P d mu o.dst o.op (rho σ) σ.h, writeKey d o.dst o.op (rho σ) with
          | some (v, h'), some k => k.1 ≠ 0 ∧ N v h'
          | _, _ => match o.dst with
            | some n => match evAp P d (ky n) o.op (rho σ) (σ.h (ky n)) with
              | some (v, x) => (ky n).1 ≠ 0 ∧ N v (σ.h.set (ky n) x)
              | none => False
            | none => False

def goD (P : Program) (d : Nat) (mu : Nat → Bool) (ky : Tmp → Key) (gd : List (Option Tmp)) (al : List Tmp) : List Oper → (PExit → St → Prop) → St → Prop
  | [], Q, σ => Q .normal σ
  | o :: l, Q, σ =>
    match guardG gd σ o with
    | none => False
    | some g => (g = false → goD P d mu ky gd al l Q (σ.put o.dst (.tuple []) σ.h)) ∧ (g = true → goDOp P d mu ky al o σ fun v h' => goD P d mu ky gd al l Q (σ.put o.dst v h'))

theorem goD_sound {P : Program} {d : Nat} {mu : Nat → Bool} {ky : Tmp → Key} {ops : Array Oper} {Q : PExit → St → Prop} : ∀ {l : List Oper} {σ : St}, goD P d mu ky (dsts ops) (allocs mu ops) l Q σ → ∃ R σ', DRun P d mu ops l σ R σ' ∧ Q .normal σ'
  | [], σ, h => ⟨[], σ, .nil σ, by simpa only [goD] using h⟩
  | o :: l, σ, h => by
    simp only [goD, guardG_eq] at h
    split at h
    · exact h.elim
    · rename_i g hg
      cases g with
      | false =>
        obtain ⟨R, σ', h1, h2⟩ := goD_sound (h.1 rfl)
        exact ⟨_, σ', .cons o l σ σ' _ none R (.skip hg) h1, h2⟩
      | true =>
        have h1 := h.2 rfl
        unfold goDOp at h1
        split at h1
        · rename_i fo args ts ho
          split at h1
          · rename_i f first cap hf
            obtain ⟨r, hs, hn⟩ := h1
            obtain ⟨R, σ', k1, k2⟩ := goD_sound hn
            exact ⟨_, σ', .cons o l σ σ' r none R (.call r f fo args ts first cap hg ho hf fun h hk => hs h hk) k1, k2⟩
          · exact h1.elim
        · split at h1
          · rename_i v hv
            obtain ⟨R, σ', k1, k2⟩ := goD_sound h1
            exact ⟨_, σ', .cons o l σ σ' v none R (.pure v hg hv) k1, k2⟩
          · split at h1
            · rename_i v k hv hk
              obtain ⟨R, σ', k1, k2⟩ := goD_sound h1.2
              exact ⟨_, σ', .cons o l σ σ' v none R (.read v k hg hk h1.1 hv) k1, k2⟩
            · split at h1
              · rename_i v k hv hk
                obtain ⟨R, σ', k1, k2⟩ := goD_sound h1.2
                exact ⟨_, σ', .cons o l σ σ' v none R (.look v k hg hk h1.1 hv) k1, k2⟩
              · split at h1
                · rename_i v h' k hw hk
                  obtain ⟨h0, hn⟩ := h1
                  obtain ⟨k', x, hk', rfl, hall⟩ := evW_eff (ρ' := rho σ) (fun _ _ => rfl) hw
                  rw [hk] at hk'
                  cases hk'
                  obtain ⟨R, σ', k1, k2⟩ := goD_sound hn
                  exact ⟨_, σ', .cons o l σ σ' v (some (k, x)) R (.write v k x hg h0 hk hw) k1, k2⟩
                · split at h1
                  · rename_i n hdst
                    split at h1
                    · rename_i v x hap
                      obtain ⟨R, σ', k1, k2⟩ := goD_sound h1.2
                      exact ⟨_, σ', .cons o l σ σ' v (some (ky n, x)) R (.app v ky n x hg h1.1 hdst hap) k1, k2⟩
                    · exact h1.elim
                  · exact h1.elim

/-! ### Through code -/
/-- Of code. A loop stands as it is. -/
def goE (P : Program) (d m : Nat) (mu : Nat → Bool) (ky : Tmp → Key) : Code → (PExit → St → Prop) → St → Prop
  | .skip, Q, σ => Q .normal σ
  | .label _, Q, σ => Q .normal σ
  | .exit id, Q, σ => Q (.exit id) σ
  | .goto l, Q, σ => Q (.goto l) σ
  | .ret, Q, σ => Q .ret σ
  | .seq x y, Q, σ => goE P d m mu ky x (PThen (goE P d m mu ky y Q) Q) σ
  | .block id c, Q, σ => goE P d m mu ky c (PInBlock id Q) σ
  | .cond c x y, Q, σ =>
    match rho σ c with
    | .bool b => (b = false → goE P d m mu ky y Q σ) ∧ (b = true → goE P d m mu ky x Q σ)
    | _ => False
  | .region _ ops false, Q, σ => goOps P d mu ky (dsts ops) ops.toList Q σ
  | .region _ ops true, Q, σ => goD P d mu ky (dsts ops) (allocs mu ops) ops.toList Q σ
  | c, Q, σ => TWp P d m c Q σ

def codeOkE (m : Nat) (mu : Nat → Bool) : Code → Bool
  | .region _ ops draw => opsOk m ops ops.toList && (!draw || drawOk mu ops)
  | .seq x y => codeOkE m mu x && codeOkE m mu y
  | .cond _ x y => codeOkE m mu x && codeOkE m mu y
  | .block _ c | .loop c | .scope c => codeOkE m mu c
  | .rangeFunc _ _ a b => codeOkE m mu a && codeOkE m mu b
  | _ => true

theorem goE_sound {P : Program} {d m : Nat} (hm : P.follows .mixedOrders = true) (hd0 : 0 < d) {mu : Nat → Bool} {ky : Tmp → Key} : ∀ {c : Code}, codeOkE m mu c = true → ∀ {Q : PExit → St → Prop} {σ : St}, goE P d m mu ky c Q σ → TWp P d m c Q σ := by
  intro c
  induction c with
  | skip => intro ok Q σ h; exact TWp.skip (by simpa only [goE] using h)
  | label l => intro ok Q σ h; exact TWp.label (by simpa only [goE] using h)
  | exit id => intro ok Q σ h; exact TWp.exit (by simpa only [goE] using h)
  | goto l => intro ok Q σ h; exact TWp.goto (by simpa only [goE] using h)
  | ret => intro ok Q σ h; exact TWp.ret (by simpa only [goE] using h)
  | seq x y ihx ihy =>
    intro ok Q σ h
    simp only [goE] at h
    simp only [codeOkE, Bool.and_eq_true] at ok
    refine TWp.seq ((ihx ok.1 h).mono fun e σ' hq => ?_)
    cases e with
    | normal => exact ihy ok.2 hq
    | _ => exact hq
  | block id c ih => intro ok Q σ h; simp only [goE] at h; exact TWp.block (ih ok h)
  | cond c x y ihx ihy =>
    intro ok Q σ h
    simp only [goE] at h
    simp only [codeOkE, Bool.and_eq_true] at ok
    split at h
    · rename_i b hb
      exact TWp.cond hb (fun e => ihx ok.1 (h.2 e)) (fun e => ihy ok.2 (h.1 e))
    · exact h.elim
  | region id ops draw =>
    intro ok Q σ h
    simp only [codeOkE, Bool.and_eq_true] at ok
    cases draw with
    | false => simp only [goE] at h; exact TWp.region (goOps_sound hd0 ok.1 h)
    | true =>
      simp only [goE] at h
      obtain ⟨R, σ', h1, h2⟩ := goD_sound h
      exact TWp.draw hm hd0 ok.1 (by simpa using ok.2) h1 h2
  | loop c ih => intro ok Q σ h; simpa only [goE] using h
  | rangeFunc f ps a b _ _ => intro ok Q σ h; simpa only [goE] using h
  | scope c ih => intro ok Q σ h; simpa only [goE] using h
  | refuse why => intro ok Q σ h; simpa only [goE] using h

def resL (P : Program) (rs : List ResultVar) (σ : St) : Option PV :=
  match resAll P σ rs with
  | some [p] => some p
  | some ps => some (.tuple ps)
  | none => none
/-- How a body may end, where nothing is to be frozen. -/
def EndR (P : Program) (d : Nat) (rs : List ResultVar) (h : PHeap) (Post : POut → PHeap → Prop) : PExit → St → Prop
  | .normal, σ | .ret, σ => match resL P rs σ with
    | some r => Post (.ret r) (leaveH d σ.h h)
    | none => False
  | .panic p, σ => Post (.pan p) (leaveH d σ.h h)
  | _, _ => False
/-- The same where what is handed back is to be frozen. -/
def EndF (P : Program) (d : Nat) (rs : List ResultVar) (h : PHeap) (Post : POut → PHeap → Prop) : PExit → St → Prop
  | .normal, σ | .ret, σ => ∃ r r', resL P rs σ = some r ∧ Froze d σ.h r r' ∧ Post (.ret r') (leaveH d σ.h h)
  | .panic p, σ => ∃ p', Froze d σ.h p p' ∧ Post (.pan p') (leaveH d σ.h h)
  | _, _ => False
@[simp] theorem EndR_ret {P : Program} {d : Nat} {rs : List ResultVar} {h : PHeap} {Post : POut → PHeap → Prop} {σ : St} : EndR P d rs h Post .ret σ = match resL P rs σ with
    | some r => Post (.ret r) (leaveH d σ.h h)
    | none => False := (rfl)
@[simp] theorem EndR_normal {P : Program} {d : Nat} {rs : List ResultVar} {h : PHeap} {Post : POut → PHeap → Prop} {σ : St} : EndR P d rs h Post .normal σ = match resL P rs σ with
    | some r => Post (.ret r) (leaveH d σ.h h)
    | none => False := (rfl)
@[simp] theorem EndR_panic {P : Program} {d : Nat} {rs : List ResultVar} {h : PHeap} {Post : POut → PHeap → Prop} {σ : St} {p : PV} : EndR P d rs h Post (.panic p) σ = Post (.pan p) (leaveH d σ.h h) := (rfl)
@[simp] theorem EndF_ret {P : Program} {d : Nat} {rs : List ResultVar} {h : PHeap} {Post : POut → PHeap → Prop} {σ : St} : EndF P d rs h Post .ret σ = ∃ r r', resL P rs σ = some r ∧ Froze d σ.h r r' ∧ Post (.ret r') (leaveH d σ.h h) := (rfl)
@[simp] theorem EndF_normal {P : Program} {d : Nat} {rs : List ResultVar} {h : PHeap} {Post : POut → PHeap → Prop} {σ : St} : EndF P d rs h Post .normal σ = ∃ r r', resL P rs σ = some r ∧ Froze d σ.h r r' ∧ Post (.ret r') (leaveH d σ.h h) := (rfl)
@[simp] theorem EndF_panic {P : Program} {d : Nat} {rs : List ResultVar} {h : PHeap} {Post : POut → PHeap → Prop} {σ : St} {p : PV} : EndF P d rs h Post (.panic p) σ = ∃ p', Froze d σ.h p p' ∧ Post (.pan p') (leaveH d σ.h h) := (rfl)
theorem EndF.post {P : Program} {d : Nat} {fn : Func} {h : PHeap} {Post : POut → PHeap → Prop} {e : PExit} {σ : St} (k : EndF P d fn.results.toList h Post e σ) : FnPost P d fn h Post e σ := by
  cases e <;> exact k
theorem EndR.post {P : Program} {d : Nat} {fn : Func} {h : PHeap} {Post : POut → PHeap → Prop} {e : PExit} {σ : St} (k : EndR P d fn.results.toList h Post e σ) : FnPost P d fn h Post e σ := by
  have hs : ∀ r, resL P fn.results.toList σ = some r → resP P fn σ = some r := fun r h => h
  cases e <;> simp only [EndR, FnPost] at k ⊢
  · split at k
    · rename_i r hr; exact ⟨r, r, hs r hr, .same r, k⟩
    · exact k.elim
  · split at k
    · rename_i r hr; exact ⟨r, r, hs r hr, .same r, k⟩
    · exact k.elim
  · exact ⟨_, .same _, k⟩


/-! ### The same, hidden -/
def hOp (P : Program) (d : Nat) (mu : Nat → Bool) (ky : Tmp → Key) [o : Hid Oper] (σ : St) (K : POut → PHeap → Prop) (N : PV → PHeap → Prop) : Prop := goOp P d mu ky o.val σ K N
def hOps (P : Program) (d : Nat) (mu : Nat → Bool) (ky : Tmp → Key) (gd : List (Option Tmp)) [l : Hid (List Oper)] (Q : PExit → St → Prop) (σ : St) : Prop := goOps P d mu ky gd l.val Q σ
def hNext (P : Program) (d : Nat) (mu : Nat → Bool) (ky : Tmp → Key) (gd : List (Option Tmp)) [l : Hid (List Oper)] (Q : PExit → St → Prop) (σ : St) (dst : Option Tmp) : POut → PHeap → Prop := PNext P d mu ky gd l.val Q σ dst
def hDOp (P : Program) (d : Nat) (mu : Nat → Bool) (ky : Tmp → Key) (al : List Tmp) [o : Hid Oper] (σ : St) (N : PV → PHeap → Prop) : Prop := goDOp P d mu ky al o.val σ N
def hD (P : Program) (d : Nat) (mu : Nat → Bool) (ky : Tmp → Key) (gd : List (Option Tmp)) (al : List Tmp) [l : Hid (List Oper)] (Q : PExit → St → Prop) (σ : St) : Prop := goD P d mu ky gd al l.val Q σ
def hE (P : Program) (d m : Nat) (mu : Nat → Bool) (ky : Tmp → Key) [c : Hid Code] (Q : PExit → St → Prop) (σ : St) : Prop := goE P d m mu ky c.val Q σ
def hLoop (P : Program) (d m : Nat) [c : Hid Code] (Q : PExit → St → Prop) (σ : St) : Prop := TWp P d m (.loop c.val) Q σ
section
variable {P : Program} {d m : Nat} {mu : Nat → Bool} {ky : Tmp → Key} {Q : PExit → St → Prop} {σ : St}
@[simp ↓] theorem hE_skip : @hE P d m mu ky ⟨.skip⟩ Q σ = Q .normal σ := by simp only [hE, goE]
@[simp ↓] theorem hE_label {l : Nat} : @hE P d m mu ky ⟨.label l⟩ Q σ = Q .normal σ := by simp only [hE, goE]
@[simp ↓] theorem hE_exit {i : Nat} : @hE P d m mu ky ⟨.exit i⟩ Q σ = Q (.exit i) σ := by simp only [hE, goE]
@[simp ↓] theorem hE_goto {i : Nat} : @hE P d m mu ky ⟨.goto i⟩ Q σ = Q (.goto i) σ := by simp only [hE, goE]
@[simp ↓] theorem hE_ret : @hE P d m mu ky ⟨.ret⟩ Q σ = Q .ret σ := by simp only [hE, goE]
@[simp ↓] theorem hE_seq {x y : Code} : @hE P d m mu ky ⟨.seq x y⟩ Q σ = @hE P d m mu ky ⟨x⟩ (PThen (@hE P d m mu ky ⟨y⟩ Q) Q) σ := by first | (simp only [hE, goE]; done) | (simp only [hE, goE]; rfl)
@[simp ↓] theorem hE_block {i : Nat} {c : Code} : @hE P d m mu ky ⟨.block i c⟩ Q σ = @hE P d m mu ky ⟨c⟩ (PInBlock i Q) σ := by first | (simp only [hE, goE]; done) | (simp only [hE, goE]; rfl)
@[simp ↓] theorem hE_cond {c : Operand} {x y : Code} : @hE P d m mu ky ⟨.cond c x y⟩ Q σ = (match rho σ c with
    | .bool b => @goIf b ⟨@hE P d m mu ky ⟨y⟩ Q σ⟩ ⟨@hE P d m mu ky ⟨x⟩ Q σ⟩
    | _ => False) := by first | (simp only [hE, goE]; done) | (simp only [hE, goE]; rfl)
@[simp ↓] theorem hE_region {i : Nat} {ops : Array Oper} : @hE P d m mu ky ⟨.region i ops false⟩ Q σ = @hOps P d mu ky (dsts ops) ⟨ops.toList⟩ Q σ := by first | (simp only [hE, goE]; done) | (simp only [hE, goE]; rfl)
@[simp ↓] theorem hE_draw {i : Nat} {ops : Array Oper} : @hE P d m mu ky ⟨.region i ops true⟩ Q σ = @hD P d mu ky (dsts ops) (allocs mu ops) ⟨ops.toList⟩ Q σ := by first | (simp only [hE, goE]; done) | (simp only [hE, goE]; rfl)
@[simp ↓] theorem hE_loop {c : Code} : @hE P d m mu ky ⟨.loop c⟩ Q σ = @hLoop P d m ⟨c⟩ Q σ := by first | (simp only [hE, goE]; done) | (simp only [hE, goE]; rfl)
@[simp ↓] theorem hOps_nil {gd : List (Option Tmp)} : @hOps P d mu ky gd ⟨[]⟩ Q σ = Q .normal σ := by simp only [hOps, goOps]
@[simp ↓] theorem hOps_arr {gd : List (Option Tmp)} {l : List Oper} : @hOps P d mu ky gd ⟨l.toArray.toList⟩ Q σ = @hOps P d mu ky gd ⟨l⟩ Q σ := (rfl)
@[simp ↓] theorem hOps_cons {gd : List (Option Tmp)} {o : Oper} {l : List Oper} : @hOps P d mu ky gd ⟨o :: l⟩ Q σ = match guardG gd σ o with
    | none => False
    | some g => @goIf g ⟨@hOps P d mu ky gd ⟨l⟩ Q (σ.put o.dst (.tuple []) σ.h)⟩ ⟨@hOp P d mu ky ⟨o⟩ σ (@hNext P d mu ky gd ⟨l⟩ Q σ o.dst) fun v h' => @hOps P d mu ky gd ⟨l⟩ Q (σ.put o.dst v h')⟩ := by first | (simp only [hOps, goOps]; done) | (simp only [hOps, goOps]; rfl)
@[simp ↓] theorem hNext_ret {gd : List (Option Tmp)} {l : List Oper} {dst : Option Tmp} {r : PV} {h' : PHeap} : @hNext P d mu ky gd ⟨l⟩ Q σ dst (.ret r) h' = @hOps P d mu ky gd ⟨l⟩ Q (σ.put dst r h') := by first | (simp only [hNext, PNext]; done) | (simp only [hNext, PNext]; rfl)
@[simp ↓] theorem hNext_pan {gd : List (Option Tmp)} {l : List Oper} {dst : Option Tmp} {p : PV} {h' : PHeap} : @hNext P d mu ky gd ⟨l⟩ Q σ dst (.pan p) h' = Q (.panic p) { σ with h := h' } := by simp only [hNext, PNext]
@[simp ↓] theorem hOp_def {o : Oper} {K : POut → PHeap → Prop} {N : PV → PHeap → Prop} : @hOp P d mu ky ⟨o⟩ σ K N = match o.op with
  | .call { callee := .value fo, args, .. } =>
    match rho σ fo with
    | .fn (.func f) first cap => FnSpec P d f (first ++ args.toList.map (rho σ) ++ cap) σ.h K
    | _ => False
  | _ =>
    match ev P d mu o (rho σ) σ.h with
    | some (v, h') => N v h'
    | none => match evX P d ky o.dst o.op (rho σ) σ.h with
      | some (v, h') => N v h'
      | none => False := (rfl)
@[simp ↓] theorem hD_nil {gd : List (Option Tmp)} {al : List Tmp} : @hD P d mu ky gd al ⟨[]⟩ Q σ = Q .normal σ := by simp only [hD, goD]
@[simp ↓] theorem hD_arr {gd : List (Option Tmp)} {al : List Tmp} {l : List Oper} : @hD P d mu ky gd al ⟨l.toArray.toList⟩ Q σ = @hD P d mu ky gd al ⟨l⟩ Q σ := (rfl)
@[simp ↓] theorem hD_cons {gd : List (Option Tmp)} {al : List Tmp} {o : Oper} {l : List Oper} : @hD P d mu ky gd al ⟨o :: l⟩ Q σ = match guardG gd σ o with
    | none => False
    | some g => @goIf g ⟨@hD P d mu ky gd al ⟨l⟩ Q (σ.put o.dst (.tuple []) σ.h)⟩ ⟨@hDOp P d mu ky al ⟨o⟩ σ fun v h' => @hD P d mu ky gd al ⟨l⟩ Q (σ.put o.dst v h')⟩ := by first | (simp only [hD, goD]; done) | (simp only [hD, goD]; rfl)
@[simp ↓] theorem hDOp_def {al : List Tmp} {o : Oper} {N : PV → PHeap → Prop} : @hDOp P d mu ky al ⟨o⟩ σ N = match o.op with
  | .call { callee := .value fo, args, .. } =>
    match rho σ fo with
    | .fn (.func f) first cap => goDCall P d f (first ++ args.toList.map (rho σ) ++ cap) al σ.h N
    | _ => False
  | _ =>
    match evP P mu o.dst o.op (rho σ) with
    | some v => N v σ.h
    | none => match evR P o.op (rho σ) σ.h, readKey o.op (rho σ) with
      | some v, some k => (k.1 = d → al.contains k.2 = false) ∧ N v σ.h
      | _, _ => match evLk P o.op (rho σ) σ.h, lkKey o.op (rho σ) with
        | some v, some k => (k.1 = d → al.contains k.2 = false) ∧ N v σ.h
        | _, _ => match evW P d mu o.dst o.op (rho σ) σ.h, writeKey d o.dst o.op (rho σ) with
          | some (v, h'), some k => k.1 ≠ 0 ∧ N v h'
          | _, _ => match o.dst with
            | some n => match evAp P d (ky n) o.op (rho σ) (σ.h (ky n)) with
              | some (v, x) => (ky n).1 ≠ 0 ∧ N v (σ.h.set (ky n) x)
              | none => False
            | none => False := (rfl)
end

/-- A function, by its text. -/
theorem FnSpec.walk {P : Program} {d : Nat} {f : FuncId} {fn : Func} {c : Code} {rs : List ResultVar} {m : Nat} {args : List PV} {h : PHeap} {Post : POut → PHeap → Prop} (hm : P.follows .mixedOrders = true) (mu : Nat → Bool) (ky : Tmp → Key) (hf : P.funcs[f]? = some fn) (hb : fn.body = some c) (hrs : fn.results.toList = rs) (hnt : fn.ntmps = m) (hn : (fn.name == "runtime.NumGoroutine") = false) (hl : Nat.ble args.length m = true) (ok : codeOkE m mu c = true)
    (body : ∀ c0 : Key → Nat, @hE P (d + 1) m mu ky ⟨c⟩ (EndR P d rs h Post) ⟨startT args, enterH d c0 h⟩) : FnSpec P d f args h Post := by
  subst hrs hnt
  exact FnSpec.of_body hf hb hn (Nat.le_of_ble_eq_true hl) fun c0 => (goE_sound hm (Nat.succ_pos d) ok (body c0)).mono fun _ _ k => k.post
/-- The same where what is handed back is to be frozen. -/
theorem FnSpec.walkF {P : Program} {d : Nat} {f : FuncId} {fn : Func} {c : Code} {rs : List ResultVar} {m : Nat} {args : List PV} {h : PHeap} {Post : POut → PHeap → Prop} (hm : P.follows .mixedOrders = true) (mu : Nat → Bool) (ky : Tmp → Key) (hf : P.funcs[f]? = some fn) (hb : fn.body = some c) (hrs : fn.results.toList = rs) (hnt : fn.ntmps = m) (hn : (fn.name == "runtime.NumGoroutine") = false) (hl : Nat.ble args.length m = true) (ok : codeOkE m mu c = true)
    (body : ∀ c0 : Key → Nat, @hE P (d + 1) m mu ky ⟨c⟩ (EndF P d rs h Post) ⟨startT args, enterH d c0 h⟩) : FnSpec P d f args h Post := by
  subst hrs hnt
  exact FnSpec.of_body hf hb hn (Nat.le_of_ble_eq_true hl) fun c0 => (goE_sound hm (Nat.succ_pos d) ok (body c0)).mono fun _ _ k => k.post
/-- A loop's round, too. -/
theorem hLoop.walk {P : Program} {d m : Nat} (hm : P.follows .mixedOrders = true) (hd0 : 0 < d) (mu : Nat → Bool) (ky : Tmp → Key) {Q : PExit → St → Prop} {σ : St} {c : Code} (ok : codeOkE m mu c = true) (I : Nat → St → Prop) (n : Nat) (h0 : I n σ) (round : ∀ n σ, I n σ → @hE P d m mu ky ⟨c⟩ (PThen (fun σ' => ∃ k, k < n ∧ I k σ') Q) σ) : @hLoop P d m ⟨c⟩ Q σ :=
  TWp.loop I n h0 fun n σ hI => goE_sound hm hd0 ok (round n σ hI)
attribute [simp] resL evAp roomAt probe evLk lkKey readKey writeKey addrKey allocs isAlloc guardG dsts
end Go.Fh
