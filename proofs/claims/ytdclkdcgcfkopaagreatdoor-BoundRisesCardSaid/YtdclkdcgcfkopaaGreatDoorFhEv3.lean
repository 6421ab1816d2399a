/- Literals; boxes that are not written; lengths; conversions. -/
import Derived.Test.YtdclkdcgcfkopaaGreatDoorFhEv2
set_option linter.all false
namespace Go.Fh
open Go.RowKit

def setsA (cs : Array Value) (off : Nat) : List Value → Array Value
  | [] => cs
  | v :: vs => setsA (cs.setIfInBounds off v) (off + 1) vs
theorem setsA_size (off : Nat) (vs : List Value) : ∀ cs : Array Value, (setsA cs off vs).size = cs.size := by
  induction vs generalizing off with
  | nil => intro cs; rfl
  | cons v vs ih => intro cs; simp [setsA, ih]
theorem setsA_get (off : Nat) (vs : List Value) : ∀ (cs : Array Value), off + vs.length ≤ cs.size → ∀ k, (setsA cs off vs)[k]? = if off ≤ k ∧ k < off + vs.length then vs[k - off]? else cs[k]? := by
  induction vs generalizing off with
  | nil => intro cs _ k; simp [setsA]; omega
  | cons v vs ih =>
    intro cs hl k
    simp only [setsA]
    simp only [List.length_cons] at hl
    rw [ih (off + 1) (cs.setIfInBounds off v) (by simp; omega) k]
    by_cases h1 : off + 1 ≤ k ∧ k < off + 1 + vs.length
    · rw [if_pos h1, if_pos (by simp; omega), show k - off = (k - (off + 1)) + 1 by omega]
      rfl
    · rw [if_neg h1, Array.getElem?_setIfInBounds]
      by_cases h2 : off = k
      · subst h2
        rw [if_pos rfl, if_pos (by omega), if_pos (by simp), Nat.sub_self]
        rfl
      · rw [if_neg h2, if_neg (by simp; omega)]
theorem foldl_setsA (off : Nat) (vs : List Value) : ∀ (n : Nat) (cs : Array Value), (vs.zipIdx n).foldl (fun cs x => cs.setIfInBounds (off + x.2) x.1) cs = setsA cs (off + n) vs := by
  induction vs with
  | nil => intro n cs; rfl
  | cons v vs ih => intro n cs; simp [List.zipIdx_cons, setsA, ih, Nat.add_assoc]
theorem fill_cons (place : Nat → Option (Nat × Nat)) (cells : Array Value) (i : Nat) (v : Value) (rest : List (Nat × Value)) {off size : Nat} (hp : place i = some (off, size)) (hs : v.cells.size = size) (hl : off + size ≤ cells.size) :
    Instr.fill place cells ((i, v) :: rest) = Instr.fill place (setsA cells off v.cells.toList) rest := by
  simp only [Instr.fill, hp]
  rw [if_neg (by simp [hs]; omega)]
  congr 1
  rw [← Array.foldl_toList, Array.toList_zipIdx, foldl_setsA]
  rfl

def setsP (cs : List PV) (off : Nat) : List PV → List PV
  | [] => cs
  | v :: vs => setsP (cs.set off v) (off + 1) vs
def fillP (place : Nat → Option (Nat × Nat)) (cs : List PV) : List (Nat × PV) → Option (List PV)
  | [] => some cs
  | (i, v) :: rest =>
    match place i with
    | some (off, size) => if v.solid = true ∧ v.cells.length = size ∧ off + size ≤ cs.length then fillP place (setsP cs off v.cells) rest else none
    | none => none
theorem setsP_sound {G : Ghost} {w : World} : ∀ (ps : List PV) (vs : List Value) (off : Nat) (cs : List PV) (xs : Array Value), PRels G w cs xs → ps.length = vs.length → (∀ (i : Nat) (p : PV) (v : Value), ps[i]? = some p → vs[i]? = some v → PRel G w p v) →
    PRels G w (setsP cs off ps) (setsA xs off vs) := by
  intro ps
  induction ps with
  | nil => intro vs off cs xs h hl _; cases vs with
    | nil => exact h
    | cons v vs => simp at hl
  | cons p ps ih =>
    intro vs off cs xs h hl hr
    cases vs with
    | nil => simp at hl
    | cons v vs =>
      refine ih vs (off + 1) _ _ ⟨by simpa using h.1, fun i q u hq hu => ?_⟩ (by simpa using hl) (fun i q u hq hu => hr (i + 1) q u hq hu)
      rw [List.getElem?_set] at hq
      rw [Array.getElem?_setIfInBounds] at hu
      by_cases e : off = i
      · subst e
        rw [if_pos rfl] at hq hu
        split at hq
        · rw [if_pos (by have := h.1; omega)] at hu
          cases hq; cases hu
          exact hr 0 p v rfl rfl
        · cases hq
      · rw [if_neg e] at hq hu
        exact h.2 i q u hq hu
theorem setsP_length : ∀ (ps : List PV) (off : Nat) (cs : List PV), (setsP cs off ps).length = cs.length := by
  intro ps
  induction ps with
  | nil => intro off cs; rfl
  | cons p ps ih => intro off cs; simp [setsP, ih]
theorem fillP_sound {G : Ghost} {w : World} (place : Nat → Option (Nat × Nat)) : ∀ (ps : List (Nat × PV)) (vs : List (Nat × Value)) (cs : List PV) (xs : Array Value) {r : List PV}, fillP place cs ps = some r → PRels G w cs xs →
    ps.length = vs.length → (∀ (i : Nat) (p : Nat × PV) (v : Nat × Value), ps[i]? = some p → vs[i]? = some v → p.1 = v.1 ∧ PRel G w p.2 v.2) → ∃ ys, Instr.fill place xs vs = some ys ∧ PRels G w r ys := by
  intro ps
  induction ps with
  | nil =>
    intro vs cs xs r h hc hl _
    cases vs with
    | nil => simp only [fillP, Option.some.injEq] at h; subst h; exact ⟨xs, rfl, hc⟩
    | cons v vs => simp at hl
  | cons p ps ih =>
    intro vs cs xs r h hc hl hr
    cases vs with
    | nil => simp at hl
    | cons v vs =>
      obtain ⟨i, p⟩ := p
      obtain ⟨i', v⟩ := v
      obtain ⟨rfl, hpv⟩ := hr 0 _ _ rfl rfl
      simp only [fillP] at h
      split at h
      · rename_i off size hp
        split at h
        · rename_i hcond
          obtain ⟨h1, h2, h3⟩ := hcond
          have hcs := hpv.cells h1
          rw [fill_cons place xs i v vs hp (by rw [← hcs.1, h2]) (by rw [← hc.1]; exact h3)]
          refine ih vs _ _ h (setsP_sound _ _ _ _ _ hc (by rw [hcs.1, Array.length_toList]) fun i p v hp hv => hcs.2 i p v hp (by rwa [Array.getElem?_toList] at hv)) (by simpa using hl) fun i p v hp hv => hr (i + 1) p v hp hv
        · cases h
      · cases h

def placesP (P : Program) : List (Nat × TypeId) → Option (List (Nat × Nat))
  | [] => some []
  | (off, t) :: fs => match tinfo P t, placesP P fs with
    | some i, some r => some ((off, i.size) :: r)
    | _, _ => none
def evBuild (P : Program) (t : TypeId) (parts : List (Nat × PV)) : Option PV :=
  match tinfo P t with
  | some { k := .struct fs, zero := some z, .. } =>
    match placesP P fs with
    | some pl => match fillP (fun i => pl[i]?) z parts with
      | some cs => some (.agg cs)
      | none => none
    | none => none
  | some { k := .array _ e, zero := some z, .. } =>
    match tinfo P e with
    | some ei => match fillP (fun i => some (i * ei.size, ei.size)) z parts with
      | some cs => some (.agg cs)
      | none => none
    | none => none
  | _ => none
theorem run_mapM {P : Program} {w : World} {α β : Type} (f : α → Sem β) (g : α → β) (a : Array α) (h : ∀ x ∈ a.toList, (f x).run P w = .ok (g x) w) : (a.mapM f).run P w = .ok (a.map g) w := by
  rw [Array.mapM_eq_foldlM, ← Array.foldlM_toList]
  have key : ∀ (l : List α) (acc : Array β), (∀ x ∈ l, (f x).run P w = .ok (g x) w) → (l.foldlM (fun bs x => bs.push <$> f x) acc).run P w = .ok (acc ++ (l.map g).toArray) w := by
    intro l
    induction l with
    | nil => intro acc _; simp
    | cons x l ih =>
      intro acc hl
      simp only [List.foldlM_cons, Sem.run_bind, Sem.run_map, hl x (by simp), Result.andThen_ok]
      rw [ih _ fun y hy => hl y (by simp [hy])]
      simp
  rw [key a.toList #[] h]
  congr 1
  apply Array.ext'
  simp
theorem placesP_sound {P : Program} : ∀ (fs : List Field) {pl : List (Nat × Nat)}, placesP P (fs.map fun (f : Field) => (f.offset, f.type)) = some pl →
    (∀ f ∈ fs, ∃ i, tinfo P f.type = some i ∧ i.size = P.cellsOf f.type) ∧ pl = fs.map fun (f : Field) => (f.offset, P.cellsOf f.type) := by
  intro fs
  induction fs with
  | nil => intro pl h; simp only [List.map_nil, placesP, Option.some.injEq] at h; subst h; exact ⟨fun f hf => by simp at hf, rfl⟩
  | cons f fs ih =>
    intro pl h
    simp only [List.map_cons, placesP] at h
    split at h
    · rename_i i r hi hr
      cases h
      obtain ⟨h1, h2⟩ := ih hr
      have hs : i.size = P.cellsOf f.type := by
        obtain ⟨ti, d, k1, k2, rfl⟩ := tinfo_parts hi
        simp [Program.cellsOf, k1]
      refine ⟨fun g hg => ?_, ?_⟩
      · rcases List.mem_cons.1 hg with rfl | hg
        · exact ⟨i, hi, hs⟩
        · exact h1 g hg
      · simp [hs, h2]
    · cases h
theorem evBuild_sound {P : Program} {t : TypeId} {ps : List (Nat × PV)} {vs : Array (Nat × Value)} {r : PV} {G : Ghost} {w : World} (h : evBuild P t ps = some r)
    (hl : ps.length = vs.size) (hr : ∀ (i : Nat) (p : Nat × PV) (v : Nat × Value), ps[i]? = some p → vs[i]? = some v → p.1 = v.1 ∧ PRel G w p.2 v.2) : ∃ v, (Instr.build t vs).run P w = .ok v w ∧ PRel G w r v := by
  unfold evBuild at h
  split at h
  · rename_i fs sz by0 z hi
    split at h
    · rename_i pl hpl
      split at h
      · rename_i cs hcs
        cases h
        obtain ⟨d, hd, hk⟩ := tinfo_under hi
        obtain ⟨a, rfl, hfs⟩ := tkind_struct hk.symm
        subst hfs
        obtain ⟨zv, hz, hzs, hzr⟩ := run_zeroValue' hi rfl w
        obtain ⟨ys, hf, hy⟩ := fillP_sound (fun i => pl[i]?) ps vs.toList z zv.cells hcs (hzr G w) (by simpa using hl) (fun i p v hp hv => hr i p v hp (by rwa [Array.getElem?_toList] at hv))
        obtain ⟨hp1, hp2⟩ := placesP_sound a.toList hpl
        have hm : (a.mapM (fun (f : Field) => (do pure (f.offset, ← sizeOf f.type) : Sem (Nat × Nat)))).run P w = .ok pl.toArray w := by
          rw [run_mapM _ (fun (f : Field) => (f.offset, P.cellsOf f.type)) a fun f hf => by
            obtain ⟨i, hi', hs'⟩ := hp1 f hf
            simp only [Sem.run_bind, run_sizeOf' hi', Result.andThen_ok, Sem.run_pure, hs']]
          rw [hp2]
          congr 1
          apply Array.ext'
          simp
        refine ⟨.agg ys, ?_, .agg _ _ hy.1 hy.2⟩
        simp only [Instr.build, Sem.run_bind, hz, Result.andThen_ok, run_underlying hd]
        rw [hm]
        simp only [Result.andThen_ok]
        have e : (fun (i : Nat) => pl.toArray[i]?) = fun (i : Nat) => pl[i]? := by funext i; simp
        rw [e, hf]
        rfl
      · cases h
    · cases h
  · rename_i n e sz by0 z hi
    split at h
    · rename_i ei hei
      split at h
      · rename_i cs hcs
        cases h
        obtain ⟨d, hd, hk⟩ := tinfo_under hi
        have hd' := tkind_array hk.symm
        subst hd'
        obtain ⟨zv, hz, hzs, hzr⟩ := run_zeroValue' hi rfl w
        obtain ⟨ys, hf, hy⟩ := fillP_sound (fun i => some (i * ei.size, ei.size)) ps vs.toList z zv.cells hcs (hzr G w) (by simpa using hl) (fun i p v hp hv => hr i p v hp (by rwa [Array.getElem?_toList] at hv))
        refine ⟨.agg ys, ?_, .agg _ _ hy.1 hy.2⟩
        simp only [Instr.build, Sem.run_bind, hz, Result.andThen_ok, run_underlying hd, run_sizeOf' hei, hf]
        rfl
      · cases h
    · cases h
  · cases h

/-! ### A slice literal, all of whose elements are given in order -/
theorem fill_row (size : Nat) : ∀ (vs : List Value) (i0 : Nat) (xs : Array Value), (∀ v ∈ vs, v.cells.size = size) → (i0 + vs.length) * size ≤ xs.size →
    ∃ ys, Instr.fill (fun i => some (i * size, size)) xs ((vs.zipIdx i0).map fun x => (x.2, x.1)) = some ys ∧ ys.size = xs.size ∧ (∀ k, k < i0 * size → ys[k]? = xs[k]?) ∧
      ∀ (i : Nat) (v : Value) (j : Nat), vs[i]? = some v → j < size → ys[(i0 + i) * size + j]? = v.cells[j]? := by
  intro vs
  induction vs with
  | nil => intro i0 xs _ _; exact ⟨xs, rfl, rfl, fun _ _ => rfl, fun i v j h => by simp at h⟩
  | cons v vs ih =>
    intro i0 xs hs hl
    have hv := hs v (by simp)
    simp only [List.length_cons] at hl
    have e1 : (i0 + (vs.length + 1)) * size = (i0 + 1 + vs.length) * size := by congr 1; omega
    have e2 : (i0 + 1) * size ≤ (i0 + 1 + vs.length) * size := Nat.mul_le_mul_right _ (by omega)
    have e3 : (i0 + 1) * size = i0 * size + size := Nat.succ_mul _ _
    simp only [List.zipIdx_cons, List.map_cons]
    rw [fill_cons _ xs i0 v _ rfl hv (by omega)]
    obtain ⟨ys, h1, h2, h3, h4⟩ := ih (i0 + 1) (setsA xs (i0 * size) v.cells.toList) (fun u hu => hs u (by simp [hu])) (by rw [setsA_size]; omega)
    refine ⟨ys, h1, by rw [h2, setsA_size], fun k hk => ?_, fun i u j hu hj => ?_⟩
    · rw [h3 k (by omega), setsA_get _ _ _ (by simp; omega), if_neg (by omega)]
    · cases i with
      | zero =>
        cases hu
        rw [Nat.add_zero, h3 _ (by omega), setsA_get _ _ _ (by simp; omega), if_pos (by simp; omega), show i0 * size + j - i0 * size = j by omega, Array.getElem?_toList]
      | succ i =>
        have := h4 i u j hu hj
        rwa [show i0 + 1 + i = i0 + (i + 1) by omega] at this

def evBuildSlice (P : Program) (t : TypeId) (len : Nat) (parts : List (Nat × PV)) : Option PV :=
  match tinfo P t with
  | some { k := .slice e, .. } =>
    match tinfo P e with
    | some ei => if len = 0 ∧ parts = [] then some (.list .full []) else if 0 < len ∧ parts.map (·.1) = List.range len ∧ len * ei.size ≤ 16777216 ∧ 0 < ei.size ∧ ei.zero.isSome = true ∧ (∀ x ∈ parts, x.2.solid = true ∧ x.2.cells.length = ei.size) then some (.list .full (parts.map (·.2))) else none
    | none => none
  | _ => none

theorem zip_parts : ∀ (vs : List (Nat × Value)) (n : Nat), vs.map (·.1) = List.range' n vs.length → vs = ((vs.map (·.2)).zipIdx n).map fun x => (x.2, x.1) := by
  intro vs
  induction vs with
  | nil => intro n _; rfl
  | cons v vs ih =>
    intro n h
    simp only [List.map_cons, List.length_cons, List.range'_succ, List.cons.injEq] at h
    simp only [List.map_cons, List.zipIdx_cons, List.cons.injEq]
    exact ⟨by rw [← h.1], ih (n + 1) h.2⟩

theorem evBuildSlice_sound {P : Program} {d : Nat} {hp : PHeap} {t : TypeId} {len : Nat} {ps : List (Nat × PV)} {vs : Array (Nat × Value)} {r : PV} {G : Ghost} {w : World} (S : SimH d G hp w) (h : evBuildSlice P t len ps = some r)
    (hl : ps.length = vs.size) (hr : ∀ (i : Nat) (p : Nat × PV) (v : Nat × Value), ps[i]? = some p → vs[i]? = some v → p.1 = v.1 ∧ PRel G w p.2 v.2) : RunP P d G hp w (Instr.buildSlice t len vs) r := by
  unfold evBuildSlice at h
  split at h
  · rename_i e sz by0 z hi
    split at h
    · rename_i ei hei
      obtain ⟨d', hd, hk⟩ := tinfo_under hi
      have hd' := tkind_slice hk.symm
      subst hd'
      split at h
      · rename_i hcond
        obtain ⟨rfl, rfl⟩ := hcond
        cases h
        have hv0 : vs.toList = [] := List.eq_nil_of_length_eq_zero (by simpa using hl.symm)
        refine ⟨.slice (some ⟨w.heap.size, 0, none⟩) 0 0, w.alloc (.cells #[] e), ?_, Ext.of_alloc S _, S.of_alloc _, PRel.full_nil G _ _⟩
        simp only [Instr.buildSlice, Sem.run_bind, run_underlying hd, Result.andThen_ok, run_sizeOf' hei, Nat.zero_mul]
        rw [if_neg (by omega)]
        simp only [if_true, Sem.run_pure, Result.andThen_ok, hv0, Instr.fill, newRow, Sem.run_bind, run_newObj]
        have e0 : ∀ f : Nat → Value, (Array.range 0).map f = #[] := fun f => by simp
        rw [e0]
        rfl
      · split at h
        · rename_i hcond
          obtain ⟨hlpos, hidx, hsmall, hpos, hzero, hall⟩ := hcond
          cases h
          obtain ⟨z, hz⟩ := Option.isSome_iff_exists.1 hzero
          obtain ⟨zv, hzv, hzs, hzr⟩ := run_zeroValue' hei hz w
          have hlen : ps.length = len := by have := congrArg List.length hidx; simpa using this
          have hfst : vs.toList.map (·.1) = List.range' 0 vs.toList.length := by
            rw [← List.range_eq_range', Array.length_toList, ← hl, hlen, ← hidx]
            apply List.ext_getElem?
            intro i
            simp only [List.getElem?_map, Array.getElem?_toList]
            rcases Nat.lt_or_ge i ps.length with hi' | hi'
            · rw [List.getElem?_eq_getElem hi', Array.getElem?_eq_getElem (by omega)]
              have := (hr i _ _ (List.getElem?_eq_getElem hi') (Array.getElem?_eq_getElem (by omega))).1
              simp [this]
            · rw [List.getElem?_eq_none hi', Array.getElem?_eq_none (by omega)]
              rfl
          have hvz := zip_parts vs.toList 0 hfst
          have hcells : ∀ v ∈ vs.toList.map (·.2), v.cells.size = ei.size := by
            intro v hv
            obtain ⟨x, hx, rfl⟩ := List.mem_map.1 hv
            obtain ⟨i, hi', hxe⟩ := List.getElem_of_mem hx
            rw [Array.length_toList] at hi'
            have hps := List.getElem?_eq_getElem (show i < ps.length by omega)
            have hrel := (hr i _ x hps (by rw [Array.getElem?_eq_getElem hi']; simpa using hxe)).2
            have hm := hall ps[i] (List.getElem_mem _)
            rw [← (hrel.cells hm.1).1, hm.2]
          have hsz : zv.cells.size = z.length := hzs
          obtain ⟨ys, h1, h2, _, h4⟩ := fill_row ei.size (vs.toList.map (·.2)) 0 ((Array.range (len * ei.size)).map (fun k => zv.cells[k % zv.cells.size]!)) hcells (by simp; rw [← hl, hlen]; exact Nat.le_refl _)
          rw [← hvz] at h1
          let w1 := w.alloc (.cells ys e)
          have hE := Ext.of_alloc S (.cells ys e)
          refine ⟨.slice (some ⟨w.heap.size, 0, none⟩) len len, w1, ?_, hE, S.of_alloc _, ?_⟩
          · simp only [Instr.buildSlice, Sem.run_bind, run_underlying hd, Result.andThen_ok, run_sizeOf' hei]
            rw [if_neg (by omega)]
            have h0 : ¬ len * ei.size = 0 := by rw [Nat.mul_eq_zero]; omega
            simp only [if_neg h0, Sem.run_bind, hzv, Result.andThen_ok, Sem.run_pure, h1, newRow, run_newObj]
            rfl
          · have := PRel.list (G := G) (w := w1) .full (ps.map (·.2)) (some ⟨w.heap.size, 0, none⟩) len w.heap.size 0 ei.size (fun i j => ((vs.getD i default).2.cells.getD j undef)) (by simp [hlen]) (by simp [Room.ok, hlen]) hpos (fun _ => rfl) (fun o _ _ => not_M_new S o) ?_ ?_ ?_
            · simpa [hlen] using this
            · intro i e' he
              simp only [List.getElem?_map, Option.map_eq_some_iff] at he
              obtain ⟨x, hx, rfl⟩ := he
              exact (hall x (List.mem_of_getElem? hx)).2
            · intro i e' j p he hpj
              simp only [List.getElem?_map, Option.map_eq_some_iff] at he
              obtain ⟨x, hx, rfl⟩ := he
              have hi' := (List.getElem?_eq_some_iff.1 hx).1
              have hj := (List.getElem?_eq_some_iff.1 hpj).1
              have hm := hall x (List.mem_of_getElem? hx)
              rw [hm.2] at hj
              have hv : vs[i]? = some vs[i] := Array.getElem?_eq_getElem (by omega)
              have hc := h4 i vs[i].2 j (by simp [hv]) hj
              have hrel := ((hr i x _ hx hv).2.cells hm.1)
              have hcs : j < vs[i].2.cells.size := by rw [← hrel.1, hm.2]; exact hj
              have hg : vs.getD i default = vs[i] := by simp [Array.getD, show i < vs.size by omega]
              have hg2 : vs[i].2.cells.getD j undef = vs[i].2.cells[j] := by simp [Array.getD, hcs]
              show (w.alloc (.cells ys e)).cell? ⟨w.heap.size, 0 + (i * ei.size + j), none⟩ = _
              rw [hg, hg2, Nat.zero_add, World.cell?_alloc_at _ _ _ _ rfl]
              rw [Nat.zero_add] at hc
              rw [hc, Array.getElem?_eq_getElem hcs]
            · intro i e' j p he hpj
              simp only [List.getElem?_map, Option.map_eq_some_iff] at he
              obtain ⟨x, hx, rfl⟩ := he
              have hi' := (List.getElem?_eq_some_iff.1 hx).1
              have hj := (List.getElem?_eq_some_iff.1 hpj).1
              have hm := hall x (List.mem_of_getElem? hx)
              rw [hm.2] at hj
              have hv : vs[i]? = some vs[i] := Array.getElem?_eq_getElem (by omega)
              have hrel := ((hr i x _ hx hv).2.cells hm.1)
              have hcs : j < vs[i].2.cells.size := by rw [← hrel.1, hm.2]; exact hj
              have hg : vs.getD i default = vs[i] := by simp [Array.getD, show i < vs.size by omega]
              have hg2 : vs[i].2.cells.getD j undef = vs[i].2.cells[j] := by simp [Array.getD, hcs]
              show PRel G w1 p (((vs.getD i default).2.cells).getD j undef)
              rw [hg, hg2]
              exact (hrel.2 j p _ hpj (Array.getElem?_eq_getElem hcs)).mono hE
        · cases h
    · cases h
  · cases h
end Go.Fh
