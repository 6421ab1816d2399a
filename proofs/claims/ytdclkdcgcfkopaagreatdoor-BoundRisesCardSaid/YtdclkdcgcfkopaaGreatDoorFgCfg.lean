/- The config's text: what its reader does, as plain Lean. -/
import Derived.Test.YtdclkdcgcfkopaaGreatDoorFhFog
import Derived.Test.YtdclkdcgcfkopaaGreatDoorFhWk
set_option linter.all false
namespace Go.Fog
open Go.Fh

/-- A number's text, as strconv prints it. -/
def numOf (s : Str) : Int := match Lib.atoiAll s with
  | .ok v => v
  | .«syntax» => 0
  | .range => Lib.atoiSat s
def numOk (s : Str) : Bool := match Lib.atoiAll s with
  | .ok v => tickRight v && decide (Lib.itoa v = s)
  | _ => false

def wIf : Str := [105, 102]
def wReceiver : Str := [114, 101, 99, 101, 105, 118, 101, 114]
def wRoute : Str := [114, 111, 117, 116, 101]
def wRepeat : Str := [114, 101, 112, 101, 97, 116]
def wBeat : Str := [98, 101, 97, 116]

theorem splitOn_le {c : UInt8} : ∀ {s w : Str}, w ∈ splitOn c s → w.length ≤ s.length := by
  intro s
  induction s with
  | nil => intro w h; simp [splitOn] at h; subst h; simp
  | cons b s ih =>
    intro w h
    simp only [splitOn] at h
    split at h
    · rcases List.mem_cons.1 h with rfl | h
      · simp
      · have := ih h; simp; omega
    · split at h
      · simp at h; subst h; simp
      · rename_i x l hs
        rcases List.mem_cons.1 h with rfl | h
        · have := ih (by rw [hs]; simp : x ∈ _); simp; omega
        · have := ih (by rw [hs]; simp [h] : w ∈ _); simp; omega
theorem splitOn_len (c : UInt8) (s : Str) : (splitOn c s).length ≤ s.length + 1 := by
  induction s with
  | nil => simp [splitOn]
  | cons b s ih =>
    simp only [splitOn]
    split
    · simp; omega
    · split
      · simp
      · rename_i x l hs
        rw [hs] at ih
        simp at ih ⊢
        omega
theorem splitOn_append_last (c : UInt8) (s : Str) : splitOn c (s ++ [c]) = splitOn c s ++ [[]] := by
  induction s with
  | nil => simp [splitOn]
  | cons b s ih =>
    simp only [List.cons_append, splitOn]
    split
    · simp [ih]
    · rw [ih]
      cases hs : splitOn c s with
      | nil => exact absurd hs (splitOn_ne c s)
      | cons x l => simp
theorem splitOn_last (c : UInt8) : ∀ (s : Str) (h : s ≠ []), s.getLast h ≠ c → (splitOn c s).getLast (splitOn_ne c s) ≠ [] := by
  intro s
  induction s with
  | nil => intro h; exact absurd rfl h
  | cons b s ih =>
    intro h hl
    cases s with
    | nil =>
      simp at hl
      simp [splitOn, hl]
    | cons b' s' =>
      have hl' : (b' :: s').getLast (by simp) ≠ c := by simpa [List.getLast_cons] using hl
      have := ih (by simp) hl'
      cases hs : splitOn c (b' :: s') with
      | nil => exact absurd hs (splitOn_ne c _)
      | cons x l =>
        simp only [hs] at this
        by_cases hb : b = c
        · have e : splitOn c (b :: b' :: s') = [] :: splitOn c (b' :: s') := by rw [splitOn, if_pos hb]
          simp only [e, hs, List.getLast_cons (by simp : x :: l ≠ [])]
          exact this
        · have e : splitOn c (b :: b' :: s') = (b :: x) :: l := by rw [splitOn, if_neg hb, hs]
          simp only [e]
          cases l with
          | nil => simp
          | cons y l => simpa [List.getLast_cons] using this
/-- A text's lines, but a last one that is empty. -/
def linesD (s : Str) : List Str := if (splitOn 10 s).getLast (splitOn_ne 10 s) = [] then (splitOn 10 s).dropLast else splitOn 10 s
theorem linesD_hit {s : Str} {i : Nat} (h : s.findIdx? (· == 10) = some i) : linesD s = s.take i :: linesD (s.drop (i + 1)) := by
  have hs := splitOn_hit (c := 10) h
  unfold linesD
  have hne := splitOn_ne 10 (s.drop (i + 1))
  simp only [hs, List.getLast_cons hne, List.dropLast_cons_of_ne_nil hne]
  split <;> rfl
theorem linesD_miss {s : Str} (h : s.findIdx? (· == 10) = none) : linesD s = if s = [] then [] else [s] := by
  have hs := splitOn_miss (c := 10) h
  unfold linesD
  simp only [hs, List.getLast_singleton]
  split <;> simp
/-! ### A matcher's text -/
def isSign (b : UInt8) : Bool := decide (b = 61) || decide (b = 33) || decide (b = 94) || decide (b = 63)
def kindOf (b : UInt8) : Int := if b = 61 then 0 else if b = 33 then 1 else if b = 94 then 2 else 3
def askedAt (s : Str) (i : Nat) : Matcher := { kind := kindOf (s.getD i 0), name := s.take i, value := s.drop (i + 1) }
def askedOf (s : Str) : Option Matcher := match s.findIdx? isSign with
  | none => none
  | some i => if (askedAt s i).right = true then some (askedAt s i) else none

/-! ### The reader -/
def mkReceiver (name : Str) (n : List Int) : Receiver := { name := name, base := n.getD 0 0, top := n.getD 1 0, jitter := n.getD 2 0, tries := n.getD 3 0, fails := n.getD 4 0, opens := n.getD 5 0, burst := n.getD 6 0, every := n.getD 7 0 }
def recvOf (recs : List Receiver) (w : List Str) : Int × List Receiver :=
  if recs.length = 4 then (2, recs) else if w.length ≠ 10 then (12, recs) else
  if 0 ≤ placeOf recs (w.getD 1 []) then (11, recs) else
  if (w.drop 2).all numOk = false then (13, recs) else
  if (mkReceiver (w.getD 1 []) ((w.drop 2).map numOf)).right = true then (0, recs ++ [mkReceiver (w.getD 1 []) ((w.drop 2).map numOf)]) else (3, recs)

def Route.plain (r : Route) : Route := { r with rc := .any, ra := .any }
def mkRoute (keys : List Int) (asked : List Matcher) : Route := { chain := keys, asked := asked, rc := .any, ra := .any }
def routeOf (recs : List Receiver) (routes : List Route) (w : List Str) : Int × List Route :=
  if routes.length = 4 then (2, routes) else
  match (w.drop 1).findIdx? (fun x => decide (x = wIf)) with
  | none => (12, routes)
  | some i =>
    if ((w.drop 1).take i).all (fun x => decide (0 ≤ placeOf recs x)) = false then (4, routes) else
    if ((w.drop 1).drop (i + 1)).all (fun x => (askedOf x).isSome) = false then (13, routes) else
    if (mkRoute (((w.drop 1).take i).map (placeOf recs)) (((w.drop 1).drop (i + 1)).filterMap askedOf)).right recs.length = true
      then (0, routes ++ [mkRoute (((w.drop 1).take i).map (placeOf recs)) (((w.drop 1).drop (i + 1)).filterMap askedOf)]) else (3, routes)

/-- A line of how often something is: what is told of it, and the number. -/
def timeOf (words : List Str) : Int × Int := match words with
  | [_, w] => if numOk w = false then (13, 0) else if often (numOf w) = false then (3, 0) else (0, numOf w)
  | _ => (12, 0)

def timeNew (t : Int × Int) (old : Int) : Int := if t.1 = 0 then t.2 else old
structure Core where
  recs : List Receiver
  routes : List Route
  rep : Int
  beat : Int
  ahead : Str
def Core.init : Core := ⟨[], [], 0, 0, []⟩
def lineOf (s : Core) (line : Str) : Int × Core :=
  let w := splitOn 32 line
  let first := w.headD []
  if first = wReceiver ∧ (s.ahead = [] ∨ s.ahead = wReceiver) then ((recvOf s.recs w).1, { s with recs := (recvOf s.recs w).2, ahead := first })
  else if first = wRoute ∧ (s.ahead = wReceiver ∨ s.ahead = wRoute) then ((routeOf s.recs s.routes w).1, { s with routes := (routeOf s.recs s.routes w).2, ahead := first })
  else if first = wRepeat ∧ s.ahead = wRoute then ((timeOf w).1, { s with rep := timeNew (timeOf w) s.rep, ahead := first })
  else if first = wBeat ∧ s.ahead = wRepeat then ((timeOf w).1, { s with beat := timeNew (timeOf w) s.beat, ahead := first })
  else (10, s)
def runLines : List Str → Nat → Core → Core × Nat × Int
  | [], i, s => (s, i, 0)
  | l :: ls, i, s => if (lineOf s l).1 = 0 then runLines ls (i + 1) (lineOf s l).2 else ((lineOf s l).2, i, (lineOf s l).1)
def linesOf (text : Str) : List Str := if text = [] then [] else splitOn 10 (Lib.trimSuffix text [10])
theorem trimSuffix_last (s : Str) : Lib.trimSuffix (s ++ [10]) [10] = s := by
  have h : Lib.hasSuffix (s ++ [10]) [10] = true := by simp [Lib.hasSuffix, List.isSuffixOf]
  simp [Lib.trimSuffix, h]
theorem linesOf_eq (s : Str) : linesOf s = linesD s := by
  unfold linesOf
  by_cases h : s = []
  · subst h; rfl
  rw [if_neg h]
  obtain ⟨t, b, rfl⟩ : ∃ t b, s = t ++ [b] := ⟨s.dropLast, s.getLast h, (List.dropLast_concat_getLast h).symm⟩
  by_cases hb : b = 10
  · subst hb
    rw [trimSuffix_last]
    unfold linesD
    simp [splitOn_append_last]
  · have ht : Lib.trimSuffix (t ++ [b]) [10] = t ++ [b] := by
      unfold Lib.trimSuffix
      rw [if_neg]
      simp [Lib.hasSuffix, List.isSuffixOf, hb, Ne.symm hb]
    rw [ht]
    unfold linesD
    rw [if_neg (splitOn_last 10 _ h (by simpa using hb))]
def Core.config (s : Core) : Config := { receivers := s.recs, routes := s.routes, rep := s.rep, beat := s.beat, rr := .any, rt := .any }
def Config.zero : Config := Core.init.config
def parseOf (text : Str) : Config × Int × Int :=
  if (runLines (linesOf text) 0 .init).2.2 ≠ 0 then (.zero, (runLines (linesOf text) 0 .init).2.1, (runLines (linesOf text) 0 .init).2.2)
  else if (runLines (linesOf text) 0 .init).1.ahead ≠ wBeat then (.zero, (linesOf text).length, 12)
  else ((runLines (linesOf text) 0 .init).1.config, 0, 0)

/-- Are two configs the same? -/
def sameCfg (a b : Config) : Bool := decide (a.receivers = b.receivers) && decide (a.routes.map Route.plain = b.routes.map Route.plain) && decide (a.rep = b.rep) && decide (a.beat = b.beat)
/-- What is known of the room of a row that grows. -/
def RoomOk (h : PHeap) (k : Key) (sz : Nat) {α : Type} (l : List α) (r : Room) : Prop := r = .full ∨ ∃ v, r = .tok k v sz ∧ h k = (v, some .tok) ∧ l ≠ []
end Go.Fog
