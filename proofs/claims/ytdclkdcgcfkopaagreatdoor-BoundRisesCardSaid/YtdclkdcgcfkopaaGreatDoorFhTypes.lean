/- What is asked of the program's types, as plain data; constants as pure values. -/
import Derived.Test.YtdclkdcgcfkopaaGreatDoorFhHeap
import Derived.Laws.Slices
import Derived.Laws.BytesArg
import Derived.Laws.CopyRow
import Derived.Laws.Cells
import Derived.Laws.Entries
import Derived.Laws.Strings2
import Derived.Laws.StructEq
set_option linter.all false
namespace Go.Fh
open Go.RowKit

inductive TK where
  | int (k : IntKind) | bool | str | ptr | slice (e : TypeId) | array (n : Nat) (e : TypeId) | struct (fs : List (Nat × TypeId)) | map (k e : TypeId) | iface | chan (e : TypeId) | other

def tkind : TypeDesc → TK
  | .int k => .int k
  | .bool => .bool
  | .string => .str
  | .pointer _ => .ptr
  | .slice e => .slice e
  | .array n e => .array n e
  | .struct fs => .struct (fs.toList.map fun f => (f.offset, f.type))
  | .map k e => .map k e
  | .interface _ => .iface
  | .chan _ e => .chan e
  | _ => .other

structure TI where
  k : TK
  size : Nat
  bytes : Nat
  zero : Option (List PV)

def PV.ofVal : Value → PV
  | .int k n => .int k n
  | .bool b => .bool b
  | .string s => .str s.data.toList
  | .slice none 0 0 => .list .full []
  | .pointer none => .nilptr
  | .nilFunc => .nilfn
  | .nilIface => .niliface
  | _ => .dead
def PV.ofConst : Value → PV
  | .agg cs => .agg (cs.toList.map PV.ofVal)
  | v => PV.ofVal v

def tinfo (P : Program) (t : TypeId) : Option TI :=
  match P.info? t, P.underlying t with
  | some i, some d => some ⟨tkind d, i.size, i.bytes, i.zero.map fun z => z.cells.toList.map PV.ofVal⟩
  | _, _ => none

def TI.agg (i : TI) : Bool := match i.k with | .array .. | .struct _ => true | _ => false

@[simp] theorem mkStr_toList (s : Str) : (mkStr s).data.toList = s := rfl
@[simp] theorem mkStr_size (s : Str) : (mkStr s).size = s.length := by simp [mkStr, ByteArray.size]
theorem mkStr_data (b : ByteArray) : mkStr b.data.toList = b := rfl
theorem mkStr_append (a b : Str) : mkStr a ++ mkStr b = mkStr (a ++ b) := by
  have h : ((mkStr a ++ mkStr b).data.toList) = (mkStr (a ++ b)).data.toList := by simp [mkStr]
  have h2 := Array.toList_inj.1 h
  cases hx : mkStr a ++ mkStr b with
  | mk d => rw [hx] at h2; simp at h2; subst h2; rfl
theorem mkStr_inj {a b : Str} : mkStr a = mkStr b ↔ a = b := by
  constructor
  · intro h
    have : (mkStr a).data.toList = (mkStr b).data.toList := by rw [h]
    simpa using this
  · intro h; rw [h]
theorem mkStr_beq (a b : Str) : (mkStr a == mkStr b) = (a == b) := by
  rw [beq_toListBytes]
  simp [mkStr]
@[simp] theorem mkStr_toList' (s : Str) : (mkStr s).toList = s := ByteArray.toList_mk s
theorem mkStr_extract (s : Str) (l h : Nat) : (mkStr s).extract l h = mkStr ((s.take h).drop l) := by
  unfold mkStr
  rw [ByteArray.extract_mk, List.drop_take]

theorem PRel.ofVal (G : Ghost) (w : World) (v : Value) : PRel G w (PV.ofVal v) v := by
  unfold PV.ofVal
  split
  · exact .int _ _
  · exact .bool _
  · rename_i s; exact PRel.str (G := G) (w := w) s.data.toList
  · exact .list .full [] none 0 0 0 1 (fun _ _ => undef) (Nat.le_refl _) rfl (by omega) (fun h => absurd rfl h) (fun o h1 h2 => by simp at h2) (fun i e h => by simp at h) (fun i e j p h => by simp at h) (fun i e j p h => by simp at h)
  · exact .nilptr
  · exact .nilfn
  · exact .niliface
  · exact .dead _

theorem PRel.ofConst (G : Ghost) (w : World) (v : Value) : PRel G w (PV.ofConst v) v := by
  unfold PV.ofConst
  split
  · refine .agg _ _ (by simp) fun i p v hp hv => ?_
    simp only [List.getElem?_map, Array.getElem?_toList] at hp
    rw [hv] at hp
    simp at hp
    subst hp
    exact PRel.ofVal G w v
  · exact PRel.ofVal G w v

/-! ### What the table says, as runs -/
section
variable {P : Program} {t : TypeId} {i : TI}
theorem tinfo_parts (h : tinfo P t = some i) : ∃ ti d, P.info? t = some ti ∧ P.underlying t = some d ∧ i = ⟨tkind d, ti.size, ti.bytes, ti.zero.map fun z => z.cells.toList.map PV.ofVal⟩ := by
  unfold tinfo at h
  split at h
  · rename_i ti d h1 h2
    exact ⟨ti, d, h1, h2, by simpa using h.symm⟩
  · simp at h
theorem tinfo_under (h : tinfo P t = some i) : ∃ d, P.underlying t = some d ∧ i.k = tkind d := by
  obtain ⟨ti, d, _, h2, rfl⟩ := tinfo_parts h
  exact ⟨d, h2, rfl⟩
theorem run_sizeOf' (h : tinfo P t = some i) (w : World) : (sizeOf t).run P w = .ok i.size w := by
  obtain ⟨ti, d, h1, h2, rfl⟩ := tinfo_parts h
  simp [sizeOf, typeInfo, h1]
theorem run_typeInfo' (h : tinfo P t = some i) (w : World) : ∃ ti, (typeInfo t).run P w = .ok ti w ∧ ti.bytes = i.bytes ∧ ti.size = i.size := by
  obtain ⟨ti, d, h1, h2, rfl⟩ := tinfo_parts h
  exact ⟨ti, by simp [typeInfo, h1], rfl, rfl⟩
theorem tkind_agg (d : TypeDesc) : (match tkind d with | .array .. | .struct _ => true | _ => false) = (match d with | .struct _ | .array _ _ => true | _ => false) := by cases d <;> rfl
theorem run_isAgg' (h : tinfo P t = some i) (w : World) : (isAgg t).run P w = .ok i.agg w := by
  obtain ⟨ti, d, h1, h2, rfl⟩ := tinfo_parts h
  simp only [isAgg, Sem.run_bind, run_underlying h2, Result.andThen_ok, TI.agg, tkind_agg]
  cases d <;> rfl
theorem run_zeroValue' (h : tinfo P t = some i) {z : List PV} (hz : i.zero = some z) (w : World) : ∃ v, (zeroValue t).run P w = .ok v w ∧ v.cells.size = z.length ∧ ∀ (G : Ghost) (w' : World), PRels G w' z v.cells := by
  obtain ⟨ti, d, h1, h2, rfl⟩ := tinfo_parts h
  simp only [Option.map_eq_some_iff] at hz
  obtain ⟨v, hv, rfl⟩ := hz
  refine ⟨v, by simp [zeroValue, typeInfo, h1, hv], by simp, fun G w' => ⟨by simp, fun i p x hp hx => ?_⟩⟩
  simp only [List.getElem?_map, Array.getElem?_toList, hx, Option.map_some, Option.some.injEq] at hp
  subst hp
  exact PRel.ofVal G w' x
theorem tkind_slice {d : TypeDesc} {e : TypeId} (h : tkind d = .slice e) : d = .slice e := by cases d <;> simp [tkind] at h; rw [h]
theorem tkind_array {d : TypeDesc} {n : Nat} {e : TypeId} (h : tkind d = .array n e) : d = .array n e := by cases d <;> simp [tkind] at h; obtain ⟨rfl, rfl⟩ := h; rfl
theorem tkind_struct {d : TypeDesc} {fs : List (Nat × TypeId)} (h : tkind d = .struct fs) : ∃ a, d = .struct a ∧ fs = a.toList.map fun f => (f.offset, f.type) := by cases d <;> simp [tkind] at h; exact ⟨_, rfl, by rw [h]⟩
theorem tkind_int {d : TypeDesc} {k : IntKind} (h : tkind d = .int k) : d = .int k := by cases d <;> simp [tkind] at h; rw [h]
theorem tkind_str {d : TypeDesc} (h : tkind d = .str) : d = .string := by cases d <;> simp [tkind] at h; rfl
theorem tkind_bool {d : TypeDesc} (h : tkind d = .bool) : d = .bool := by cases d <;> simp [tkind] at h; rfl
theorem tkind_ptr {d : TypeDesc} (h : tkind d = .ptr) : ∃ e, d = .pointer e := by cases d <;> simp [tkind] at h; exact ⟨_, rfl⟩
theorem tkind_map {d : TypeDesc} {k e : TypeId} (h : tkind d = .map k e) : d = .map k e := by cases d <;> simp [tkind] at h; obtain ⟨rfl, rfl⟩ := h; rfl
theorem tkind_iface {d : TypeDesc} (h : tkind d = .iface) : ∃ ms, d = .interface ms := by cases d <;> simp [tkind] at h; exact ⟨_, rfl⟩
theorem tkind_chan {d : TypeDesc} {e : TypeId} (h : tkind d = .chan e) : ∃ r, d = .chan r e := by cases d <;> simp [tkind] at h; exact ⟨_, by rw [h]⟩
end
end Go.Fh
