/- Operations that read or write the variables of the call. -/
import Derived.Test.YtdclkdcgcfkopaaGreatDoorFhEv4
import Derived.Laws.AppendOwn
set_option linter.all false
namespace Go.Fh
open Go.RowKit

/-- A variable or a row of which is read. -/
def evR (P : Program) (op : Op) (ρ : Operand → PV) (h : PHeap) : Option PV :=
  match op with
  | .load t x =>
    match tinfo P t with
    | some i =>
      match ρ x with
      | .ptr k ver o => match h k with
        | (v, some (.cells cs)) => if v = ver then partP i.agg i.size (cs.drop o) else none
        | _ => none
      | .eptr k ver sz idx fo => match h k with
        | (v, some (.row sz' es)) => if v = ver ∧ sz' = sz then (match es[idx]? with
          | some e => partP i.agg i.size (e.cells.drop fo)
          | none => none) else none
        | (v, some (.cells cs)) => if v = ver then partP i.agg i.size (cs.drop (idx * sz + fo)) else none
        | _ => none
      | _ => none
    | none => none
  | .slice t x lo hi mx =>
    match tinfo P t, ρ x with
    | some { k := .array n e, .. }, .ptr k ver 0 =>
      match tinfo P e, h k with
      | some ei, (v, some (.cells cs)) => if v = ver ∧ ei.size = 1 ∧ n ≤ cs.length then
          (match mx with
          | none => match evBO n n (hi.map ρ) with
            | some hh => match evBO 0 hh (lo.map ρ) with
              | some l => if l < n then some (.row k ver 1 l (hh - l) (some (n - l))) else some (.list .any [])
              | none => none
            | none => none
          | some m => match evB n (ρ m), hi with
            | some m, some _ => match evBO n m (hi.map ρ) with
              | some hh => match evBO 0 hh (lo.map ρ) with
                | some l => if l < m then some (.row k ver 1 l (hh - l) (some (m - l))) else some (.list .any [])
                | none => none
              | none => none
            | _, _ => none) else none
      | _, _ => none
    | _, _ => none
  | .convert s t x =>
    match tinfo P s, tinfo P t, ρ x with
    | some { k := .slice e, .. }, some { k := .str, .. }, .row k ver sz off len _ =>
      match tinfo P e, h k with
      | some { k := .int .u8, .. }, (v, some (.cells cs)) => if v = ver ∧ sz = 1 ∧ off + len ≤ cs.length then
          (match bytesP ((cs.drop off).take len) with
          | some l => some (.str l)
          | none => none) else none
      | _, _ => none
    | _, _, _ => none
  | .lookup t x key false =>
    match tinfo P t, ρ x with
    | some { k := .map kt et, .. }, .mapr k ver =>
      match tinfo P kt, tinfo P et, h k with
      | some ki, some ei, (v, some (.map es)) => if v = ver then none else none
      | _, _, _ => none
    | _, _ => none
  | _ => none

theorem ORel.cells_at {G : Ghost} {w : World} {L : Loc} {cs : List PV} (h : ORel G w L (.cells cs)) {j : Nat} {p : PV} (hp : cs[j]? = some p) : ∃ v, w.cell? ⟨L.b, L.base + j, none⟩ = some v ∧ PRel G w p v := by
  cases h with
  | cells _ vs el hlo hh hs hl h =>
    have hj := (List.getElem?_eq_some_iff.1 hp).1
    have hlt : L.base + j < vs.size := by omega
    refine ⟨vs[L.base + j], ?_, h j p _ hp (Array.getElem?_eq_getElem hlt)⟩
    simp [World.cell?, hh, hlt]
theorem ORel.row_at {G : Ghost} {w : World} {L : Loc} {sz : Nat} {es : List PV} (h : ORel G w L (.row sz es)) {i j : Nat} {e p : PV} (he : es[i]? = some e) (hp : e.cells[j]? = some p) : ∃ v, w.cell? ⟨L.b, L.base + (i * sz + j), none⟩ = some v ∧ PRel G w p v := by
  cases h with
  | row _ _ vs el hlo hh hs hsz hl hes h =>
    have hi := (List.getElem?_eq_some_iff.1 he).1
    have hj := (List.getElem?_eq_some_iff.1 hp).1
    rw [hes i e he] at hj
    have := mul_add_lt hi hj
    have hlt : L.base + (i * sz + j) < vs.size := by omega
    refine ⟨vs[L.base + (i * sz + j)], ?_, h i e j p _ he hp (Array.getElem?_eq_getElem hlt)⟩
    simp [World.cell?, hh, hlt]

theorem SimH.cell_plain {G : Ghost} {w : World} {L : Loc} {o : PObj} (h : ORel G w L o) : (∃ cs, o = .cells cs ∧ L.lo = 0 ∧ L.base + cs.length ≤ L.size) ∨ (∃ sz es, o = .row sz es) ∨ (∀ cs, o ≠ .cells cs) := by
  cases h <;> first
    | exact .inl ⟨_, rfl, by assumption, by assumption⟩
    | exact .inr (.inl ⟨_, _, rfl⟩)
    | exact .inr (.inr fun cs h => by cases h)

theorem evR_sound {P : Program} {d : Nat} {o : Oper} {ρ : Operand → PV} {ρv : Operand → Value} {r : PV} {G : Ghost} {h : PHeap} {w : World} (S : SimH d G h w) (hρ : ∀ x, PRel G w (ρ x) (ρv x))
    (hev : evR P o.op ρ h = some r) : RunV P d G h w (execOp ρv o) r := by
  unfold evR at hev
  unfold execOp
  split at hev <;> rename_i hop <;> simp only [hop]
  · rename_i t x
    split at hev
    · rename_i i hi
      split at hev
      · rename_i k ver o' hx
        have hp := hρ x
        rw [hx] at hp
        split at hev
        · rename_i v cs hk
          split at hev
          · rename_i hv
            subst hv
            obtain ⟨L, hL, hc, hb, hO⟩ := S.at hk
            generalize ρv x = u at *
            cases hp with
            | ptr _ _ _ b o hv hl =>
            obtain ⟨rfl, rfl⟩ := hl hc L hL
            refine RunV.same S (loadVar_cells hi (cs := cs.drop o') (fun j p hp => ?_) hev)
            rw [List.getElem?_drop] at hp
            obtain ⟨v, h1, h2⟩ := hO.cells_at hp
            exact ⟨v, by rw [Nat.add_assoc]; exact h1, h2⟩
          · cases hev
        · cases hev
      · rename_i k ver sz idx fo hx
        have hp := hρ x
        rw [hx] at hp
        split at hev
        · rename_i v sz' es hk
          split at hev
          · rename_i hv
            obtain ⟨rfl, rfl⟩ := hv
            split at hev
            · rename_i e he
              obtain ⟨L, hL, hc, hb, hO⟩ := S.at hk
              generalize ρv x = u at *
              cases hp with
              | eptr _ _ _ _ _ b o hv hl =>
              obtain ⟨rfl, rfl⟩ := hl hc L hL
              refine RunV.same S (loadVar_cells hi (cs := e.cells.drop fo) (fun j p hp => ?_) hev)
              rw [List.getElem?_drop] at hp
              obtain ⟨v, h1, h2⟩ := hO.row_at he hp
              exact ⟨v, by rw [Nat.add_assoc, Nat.add_assoc]; exact h1, h2⟩
            · cases hev
          · cases hev
        · rename_i v cs hk
          split at hev
          · rename_i hv
            subst hv
            obtain ⟨L, hL, hc, hb, hO⟩ := S.at hk
            generalize ρv x = u at *
            cases hp with
            | eptr _ _ _ _ _ b o hv hl =>
            obtain ⟨rfl, rfl⟩ := hl hc L hL
            refine RunV.same S (loadVar_cells hi (cs := cs.drop (idx * sz + fo)) (fun j p hp => ?_) hev)
            rw [List.getElem?_drop] at hp
            obtain ⟨v, h1, h2⟩ := hO.cells_at hp
            exact ⟨v, by rw [Nat.add_assoc]; exact h1, h2⟩
          · cases hev
        · cases hev
      · cases hev
    · cases hev
  · rename_i t x lo hi mx
    have ho : ∀ y : Option Operand, ORelO G w (y.map ρ) (y.map ρv) := fun y => by
      cases y with
      | none => trivial
      | some y => exact hρ y
    split at hev
    · rename_i n e sz0 by0 z0 k ver hi0 hx
      have hp := hρ x
      rw [hx] at hp
      obtain ⟨d', hd, hkk⟩ := tinfo_under hi0
      have hd' := tkind_array hkk.symm
      subst hd'
      split at hev
      · rename_i ei v cs hei hk
        split at hev
        · rename_i hcond
          obtain ⟨rfl, hsz, hn⟩ := hcond
          obtain ⟨L, hL, hc, hb, hO⟩ := S.at hk
          have hsize : L.base + cs.length ≤ L.size := by cases hO; assumption
          generalize ρv x = u at *
          cases hp with
          | ptr _ _ _ b o hv hl =>
          obtain ⟨rfl, rfl⟩ := hl hc L hL
          have fin : ∀ (l hh m : Nat), l ≤ hh → hh ≤ m → m ≤ n → PRel G w (if l < m then .row k v 1 l (hh - l) (some (m - l)) else .list .any []) (.slice (some (if m = l then ⟨L.b, L.base + 0, none⟩ else ⟨L.b, L.base + 0 + l * ei.size, none⟩)) (hh - l) (m - l)) := by
            intro l hh m h1 h2 h3
            split
            · rename_i hlm
              rw [if_neg (by omega), hsz, Nat.add_zero]
              exact .row _ _ _ _ _ _ _ _ _ (by omega) (fun q hq => by cases hq; rfl) hv fun e L' hL' => by
                rw [hL] at hL'
                cases hL'
                exact ⟨rfl, rfl, by omega⟩
            · rw [show hh - l = 0 by omega]
              exact PRel.list_nil G w _ _
          split at hev
          · split at hev
            · rename_i hh h1
              split at hev
              · rename_i l h2
                have B := sliceBounds2 (P := P) (isS := false) (ho lo) (ho hi) h1 h2 (Nat.le_refl n)
                refine RunV.same S ⟨.slice (some (if n = l then ⟨L.b, L.base + 0, none⟩ else ⟨L.b, L.base + 0 + l * ei.size, none⟩)) (hh - l) (n - l), ?_, ?_⟩
                · simp only [Instr.sliceAt, Sem.run_bind, run_underlying hd, Result.andThen_ok, Option.map_none, B.1, run_sizeOf' hei, Sem.run_pure, add_none, Instr.sureAddr]
                · have := fin l hh n B.2.1 B.2.2 (Nat.le_refl n)
                  split at hev <;> rename_i hc <;> cases hev
                  · rwa [if_pos hc] at this
                  · rwa [if_neg hc] at this
              · cases hev
            · cases hev
          · rename_i mo
            split at hev
            · rename_i m ho' h0
              split at hev
              · rename_i hh h1
                split at hev
                · rename_i l h2
                  have B := sliceBounds3 (P := P) (isS := false) (ho lo) (ho (some ho')) (hρ mo) h0 rfl h1 h2 (Nat.le_refl n)
                  refine RunV.same S ⟨.slice (some (if m = l then ⟨L.b, L.base + 0, none⟩ else ⟨L.b, L.base + 0 + l * ei.size, none⟩)) (hh - l) (m - l), ?_, ?_⟩
                  · simp only [Instr.sliceAt, Sem.run_bind, run_underlying hd, Result.andThen_ok, Option.map_some, run_sizeOf' hei, Sem.run_pure, add_none, Instr.sureAddr]
                    have B1 := B.1
                    simp only [Option.map_some] at B1
                    simp only [B1, Result.andThen_ok]
                  · have := fin l hh m B.2.1 B.2.2.1 B.2.2.2
                    split at hev <;> rename_i hc <;> cases hev
                    · rwa [if_pos hc] at this
                    · rwa [if_neg hc] at this
                · cases hev
              · cases hev
            · cases hev
        · cases hev
      · cases hev
    · cases hev
  · rename_i s t x
    split at hev
    · rename_i e _ _ _ _ _ _ k ver sz off len _ hs ht hx
      have hp := hρ x
      rw [hx] at hp
      obtain ⟨d1, hd, hk0⟩ := tinfo_under hs
      obtain ⟨d2, hd', hk⟩ := tinfo_under ht
      have := tkind_str hk.symm
      subst this
      have := tkind_slice hk0.symm
      subst this
      split at hev
      · rename_i v cs he hk
        obtain ⟨d3, hd2, hk2⟩ := tinfo_under he
        have := tkind_int hk2.symm
        subst this
        split at hev
        · rename_i hcond
          obtain ⟨rfl, rfl, hlen⟩ := hcond
          split at hev
          · rename_i l hb
            cases hev
            obtain ⟨xs, hxs, rfl⟩ := bytesP_ints hb
            obtain ⟨L, hL, hc, hbl, hO⟩ := S.at hk
            generalize ρv x = u at *
            cases hp with
            | row _ _ _ _ _ b o c _ hcc hcap hv hl =>
            obtain ⟨rfl, rfl, _⟩ := hl hc L hL
            have hlx : xs.length = len := by
              have := congrArg List.length hxs
              simp at this
              omega
            refine RunV.same S ⟨_, run_convert_bytes_arg w s e hd hd2 L.b (L.base + off * 1) len c xs hlx (fun i hi => ?_) t hd', PRel.str _⟩
            have hg : xs[i]? = some (xs.getD i 0) := by
              rw [List.getElem?_eq_getElem (by omega), List.getD_eq_getElem?_getD, List.getElem?_eq_getElem (by omega)]
              rfl
            have he' : cs[off + i]? = some (.int .u8 (xs.getD i 0)) := by
              have : ((cs.drop off).take len)[i]? = some (.int .u8 (xs.getD i 0)) := by rw [hxs, List.getElem?_map, hg]; rfl
              rw [List.getElem?_take, if_pos hi, List.getElem?_drop] at this
              exact this
            obtain ⟨v, h1, h2⟩ := hO.cells_at he'
            cases h2
            rw [Nat.mul_one, Nat.add_assoc]
            exact h1
          · cases hev
        · cases hev
      · cases hev
    · cases hev
  · rename_i t x key
    split at hev
    · split at hev
      · split at hev <;> cases hev
      · cases hev
    · cases hev
  · cases hev
end Go.Fh
