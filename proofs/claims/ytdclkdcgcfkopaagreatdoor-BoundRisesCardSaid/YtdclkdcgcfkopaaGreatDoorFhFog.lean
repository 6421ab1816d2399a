/- The program's data and what its functions answer, as plain Lean; texts are lists of bytes. -/
import Derived.Test.YtdclkdcgcfkopaaGreatDoorFhLift
set_option linter.all false
namespace Go.Fog
open Go.Fh

/-- A text, cut at each c. -/
def splitOn (c : UInt8) : Str → List Str
  | [] => [[]]
  | b :: s => if b = c then [] :: splitOn c s else match splitOn c s with
    | [] => [[b]]
    | x :: l => (b :: x) :: l
theorem splitOn_ne (c : UInt8) (s : Str) : splitOn c s ≠ [] := by
  induction s with
  | nil => simp [splitOn]
  | cons b s ih =>
    simp only [splitOn]
    split
    · simp
    · split <;> simp

theorem index_one (c : UInt8) : ∀ s : Str, Lib.index s [c] = match s.findIdx? (· == c) with
    | some i => (i : Int)
    | none => -1 := by
  intro s
  induction s with
  | nil => rfl
  | cons b s ih =>
    unfold Lib.index
    rw [List.findIdx?_cons]
    have hp : List.isPrefixOf [c] (b :: s) = (c == b) := by simp [List.isPrefixOf]
    rw [hp]
    by_cases hb : b = c
    · subst hb; simp
    · have h1 : (c == b) = false := by simpa using Ne.symm hb
      have h2 : (b == c) = false := by simpa using hb
      rw [h1, h2, ih]
      cases s.findIdx? (· == c) <;> simp

/-- Cut at the first c, or not at all. -/
theorem splitOn_miss {c : UInt8} : ∀ {s : Str}, s.findIdx? (· == c) = none → splitOn c s = [s] := by
  intro s
  induction s with
  | nil => intro _; rfl
  | cons b s ih =>
    intro h
    rw [List.findIdx?_cons] at h
    by_cases hb : b = c
    · subst hb; simp at h
    · have h2 : (b == c) = false := by simpa using hb
      rw [h2] at h
      simp at h
      simp only [splitOn, if_neg hb]
      rw [ih (by simpa using h)]
theorem splitOn_hit {c : UInt8} : ∀ {s : Str} {i : Nat}, s.findIdx? (· == c) = some i → splitOn c s = s.take i :: splitOn c (s.drop (i + 1)) := by
  intro s
  induction s with
  | nil => intro i h; simp at h
  | cons b s ih =>
    intro i h
    rw [List.findIdx?_cons] at h
    by_cases hb : b = c
    · subst hb
      simp at h
      subst h
      simp [splitOn]
    · have h2 : (b == c) = false := by simpa using hb
      rw [h2] at h
      simp only [Bool.false_eq_true, if_false, Option.map_eq_some_iff] at h
      obtain ⟨j, hj, rfl⟩ := h
      simp only [splitOn, if_neg hb]
      rw [ih hj]
      simp

theorem splitK_one (c : UInt8) : ∀ (k : Nat) (s : Str), Lib.countFrom [c] (s.length + 1) s ≤ k → Lib.splitK [c] 0 k s = splitOn c s := by
  intro k
  induction k with
  | zero =>
    intro s h
    have h0 : Lib.countFrom [c] (s.length + 1) s = 0 := by omega
    simp only [Lib.countFrom, index_one] at h0
    cases hf : s.findIdx? (· == c) with
    | none => rw [splitOn_miss hf]; rfl
    | some i =>
      rw [hf] at h0
      simp at h0
  | succ k ih =>
    intro s h
    unfold Lib.splitK
    cases hf : s.findIdx? (· == c) with
    | none => rw [splitOn_miss hf, index_one, hf]; rfl
    | some i =>
      have hidx : Lib.index s [c] = i := by rw [index_one, hf]
      have hne : (Lib.index s [c] == -1) = false := by rw [hidx]; simp
      rw [hne, splitOn_hit hf, hidx]
      simp only [Bool.false_eq_true, if_false, Int.toNat_natCast, Nat.add_zero, List.length_cons, List.length_nil, Nat.zero_add]
      congr 1
      refine ih _ ?_
      have hil : i < s.length := by
        have := List.findIdx?_eq_some_iff_getElem.1 hf
        exact this.1
      simp only [Lib.countFrom, hidx] at h
      have hne2 : ((i : Int) == -1) = false := by simp
      rw [hne2] at h
      simp only [Bool.false_eq_true, if_false, Int.toNat_natCast, List.length_cons, List.length_nil, Nat.zero_add] at h
      have hmono : ∀ (f f' : Nat) (t : Str), t.length < f → t.length < f' → Lib.countFrom [c] f t = Lib.countFrom [c] f' t := by
        intro f
        induction f with
        | zero => intro f' t h1 _; omega
        | succ f ihf =>
          intro f' t h1 h2
          cases f' with
          | zero => omega
          | succ f' =>
            simp only [Lib.countFrom]
            split
            · rfl
            · rename_i hx
              congr 1
              have : (t.drop ((Lib.index t [c]).toNat + 1)).length < t.length ∨ t = [] := by
                cases t with
                | nil => exact .inr rfl
                | cons a t => left; simp; omega
              rcases this with h3 | h3
              · exact ihf f' _ (by simp only [List.length_cons, List.length_nil, Nat.zero_add]; omega) (by simp only [List.length_cons, List.length_nil, Nat.zero_add]; omega)
              · subst h3
                exact absurd rfl hx
      rw [hmono _ s.length _ (by simp) (by simp; omega)]
      omega
theorem split_one (c : UInt8) (s : Str) : Lib.splitK [c] 0 (Lib.count s [c]) s = splitOn c s := splitK_one c _ s (Nat.le_refl _)

/-- No text is longer. -/
structure Fits (s : Str) : Prop where
  le : s.length ≤ 9223372036854775807

/-- A rune of a text, as the program's range over it meets it. -/
theorem decode_cases (s : Str) (pos : Nat) (h : pos < s.length) : (s[pos].toNat < 128 ∧ Utf8.decode (mkStr s) pos = (s[pos].toNat, 1)) ∨ (128 ≤ s[pos].toNat ∧ 128 ≤ (Utf8.decode (mkStr s) pos).1 ∧ 1 ≤ (Utf8.decode (mkStr s) pos).2) := by
  have hs : pos < (mkStr s).size := by simpa using h
  have he : (mkStr s)[pos]'hs = s[pos] := List.getElem_toArray (xs := s) (i := pos) (h := by simpa using h)
  rcases Nat.lt_or_ge s[pos].toNat 128 with hl | hl
  · left
    have := decode_ascii (mkStr s) pos hs (by rw [he]; exact hl)
    rw [he] at this
    exact ⟨hl, this⟩
  · right
    have := decode_high (mkStr s) pos hs (by rw [he]; exact hl)
    exact ⟨hl, this⟩
theorem wrap64 {x : Int} (h : -9223372036854775808 ≤ x) (h' : x ≤ 9223372036854775807) : IntKind.i64.wrap x = x := by
  show (if IntKind.i64.signed && (x % (2 ^ IntKind.i64.bits : Int) ≥ (2 ^ (IntKind.i64.bits - 1) : Int)) then x % (2 ^ IntKind.i64.bits : Int) - (2 ^ IntKind.i64.bits : Int) else x % (2 ^ IntKind.i64.bits : Int)) = x
  have hb : IntKind.i64.bits = 64 := rfl
  have hs : IntKind.i64.signed = true := rfl
  rw [hb, hs]
  simp only [Bool.true_and, decide_eq_true_eq, ge_iff_le]
  have e1 : (2 ^ 64 : Int) = 18446744073709551616 := by decide
  have e2 : (2 ^ (64 - 1) : Int) = 9223372036854775808 := by decide
  rw [e1, e2]
  split <;> omega

@[simp] theorem wrap_lit (n : Nat) (h : n ≤ 9223372036854775807) : IntKind.i64.wrap (no_index (OfNat.ofNat n : Int)) = (OfNat.ofNat n : Int) := wrap64 (by show (-9223372036854775808 : Int) ≤ (n : Int); omega) (by show (n : Int) ≤ 9223372036854775807; omega)
@[simp] theorem wrap_neg1 : IntKind.i64.wrap (-1) = -1 := by decide
theorem all_bad {α : Type} {p : α → Bool} {s : List α} {i : Nat} (hi : i < s.length) (h : p s[i] = false) : s.all p = false := by
  rw [List.all_eq_false]
  exact ⟨s[i], List.getElem_mem hi, by simp [h]⟩
theorem all_take_succ {α : Type} {p : α → Bool} {s : List α} {i : Nat} (hi : i < s.length) (h0 : (s.take i).all p = true) (h : p s[i] = true) : ∀ x ∈ s.take (i + 1), p x = true := by
  rw [List.take_succ_eq_append_getElem hi]
  intro x hx
  rcases List.mem_append.1 hx with hx | hx
  · exact List.all_eq_true.1 h0 x hx
  · simp at hx; subst hx; exact h
theorem all_take_end {α : Type} {p : α → Bool} {s : List α} {i : Nat} (hi : ¬ i < s.length) (h0 : (s.take i).all p = true) : s.all p = true := by
  rwa [List.take_of_length_le (by omega)] at h0

@[simp] theorem wrap_0 : IntKind.i64.wrap 0 = 0 := by decide
@[simp] theorem wrap_1 : IntKind.i64.wrap 1 = 1 := by decide
@[simp] theorem wrap_2 : IntKind.i64.wrap 2 = 2 := by decide

/-! ### slices.IndexFunc and its kin -/
def indexF {α : Type} (p : α → Bool) (l : List α) : Int := match l.findIdx? p with
  | some i => i
  | none => -1
theorem take_ext {α : Type} {a b : List α} (hl : a.length = b.length) {i : Nat} (hi : i < a.length) (h0 : a.take i = b.take i) (h : a[i] = b[i]'(hl ▸ hi)) : a.take (i + 1) = b.take (i + 1) := by
  rw [List.take_succ_eq_append_getElem hi, List.take_succ_eq_append_getElem (hl ▸ hi), h0, h]
theorem ne_at {α : Type} {a b : List α} (hl : a.length = b.length) {i : Nat} (hi : i < a.length) (h : a[i] ≠ b[i]'(hl ▸ hi)) : a ≠ b := fun e => by subst e; exact h rfl
theorem indexF_step {α : Type} {p : α → Bool} {l : List α} {i : Nat} (h : l.findIdx? p = ((l.drop i).findIdx? p).map (· + i)) (hi : i < l.length) (hp : p l[i] = false) : l.findIdx? p = ((l.drop (i + 1)).findIdx? p).map (· + (i + 1)) := by
  rw [h, List.drop_eq_getElem_cons hi, List.findIdx?_cons, hp]
  cases (List.drop (i + 1) l).findIdx? p <;> simp; omega
theorem indexF_hit {α : Type} {p : α → Bool} {l : List α} {i : Nat} (h : l.findIdx? p = ((l.drop i).findIdx? p).map (· + i)) (hi : i < l.length) (hp : p l[i] = true) : indexF p l = i := by
  unfold indexF
  rw [h, List.drop_eq_getElem_cons hi, List.findIdx?_cons, hp]
  simp
theorem indexF_none {α : Type} {p : α → Bool} {l : List α} {i : Nat} (h : l.findIdx? p = ((l.drop i).findIdx? p).map (· + i)) (hi : l.length ≤ i) : indexF p l = -1 := by
  unfold indexF
  rw [h, List.drop_eq_nil_of_le hi]
  simp
theorem indexF_any {α : Type} (p : α → Bool) (l : List α) : decide (0 ≤ indexF p l) = l.any p := by
  unfold indexF
  cases h : l.findIdx? p with
  | none =>
    have := List.findIdx?_eq_none_iff.1 h
    simp
    simpa using this
  | some i =>
    obtain ⟨hi, hp, _⟩ := List.findIdx?_eq_some_iff_getElem.1 h
    simp
    exact ⟨_, List.getElem_mem hi, hp⟩

/-! ### The program's data -/
structure Label where
  name : Str
  value : Str
  deriving DecidableEq
structure Matcher where
  kind : Int
  name : Str
  value : Str
  deriving DecidableEq
structure Receiver where
  name : Str
  base : Int
  top : Int
  jitter : Int
  tries : Int
  fails : Int
  opens : Int
  burst : Int
  every : Int
  deriving DecidableEq
/-- A slice's room is told beside what it holds; no answer hangs on it. -/
structure Route where
  chain : List Int
  asked : List Matcher
  rc : Room
  ra : Room
  deriving DecidableEq
structure Config where
  receivers : List Receiver
  routes : List Route
  rep : Int
  beat : Int
  rr : Room
  rt : Room
@[simp] abbrev Label.pv (x : Label) : PV := .agg [.str x.name, .str x.value]
@[simp] abbrev Matcher.pv (m : Matcher) : PV := .agg [.int .i64 m.kind, .str m.name, .str m.value]
@[simp] abbrev Receiver.pv (r : Receiver) : PV := .agg [.str r.name, .int .i64 r.base, .int .i64 r.top, .int .i64 r.jitter, .int .i64 r.tries, .int .i64 r.fails, .int .i64 r.opens, .int .i64 r.burst, .int .i64 r.every]
@[simp] abbrev Route.pv (r : Route) : PV := .agg [.list r.rc (r.chain.map (.int .i64)), .list r.ra (r.asked.map Matcher.pv)]
@[simp] abbrev Config.pv (c : Config) : PV := .agg [.list c.rr (c.receivers.map Receiver.pv), .list c.rt (c.routes.map Route.pv), .int .i64 c.rep, .int .i64 c.beat]

theorem Matcher.ext' {a b : Matcher} (h1 : a.kind = b.kind) (h2 : a.name = b.name) (h3 : a.value = b.value) : a = b := by cases a; cases b; simp_all
theorem Label.ext' {a b : Label} (h1 : a.name = b.name) (h2 : a.value = b.value) : a = b := by cases a; cases b; simp_all
def tickRight (t : Int) : Bool := decide (0 ≤ t) && decide (t ≤ 1099511627776)
def letter (b : UInt8) : Bool := decide (97 ≤ b.toNat) && decide (b.toNat ≤ 122)
def valued (b : UInt8) : Bool := letter b || (decide (48 ≤ b.toNat) && decide (b.toNat ≤ 57)) || decide (b.toNat = 45)
def isName (s : Str) : Bool := s.all letter && decide (s ≠ []) && decide (s.length ≤ 8)
def isValue (s : Str) : Bool := s.all valued && decide (s.length ≤ 8)
theorem isName_bad {s : Str} {i : Nat} (hi : i < s.length) (h : letter s[i] = false) : isName s = false := by simp only [isName, all_bad hi h, Bool.false_and]
theorem isValue_bad {s : Str} {i : Nat} (hi : i < s.length) (h : valued s[i] = false) : isValue s = false := by simp only [isValue, all_bad hi h, Bool.false_and]
def Matcher.right (m : Matcher) : Bool := decide (0 ≤ m.kind) && decide (m.kind ≤ 3) && isName m.name && isValue m.value && (decide (m.kind ≠ 3) || decide (m.value = []))
def Label.right (x : Label) : Bool := isName x.name && isValue x.value
def within (n low high : Int) : Bool := decide (low ≤ n) && decide (n ≤ high)

def backRight (base top jitter : Int) : Bool := within base 1 1048576 && within top base 1073741824 && within jitter 0 1048576
def breakerRight (fails opens state count til : Int) : Bool := within fails 1 100 && within opens 1 1048576 && (if state = 1 then decide (count = 0) && tickRight til else if state = 2 then decide (count = 0) && decide (til = 0) else decide (state = 0) && within count 0 (fails - 1) && decide (til = 0))
def bucketRight (burst every have_ at_ : Int) : Bool := within burst 1 100 && within every 1 1048576 && within have_ 0 burst && tickRight at_
def often (n : Int) : Bool := within n 1 1073741824
def Receiver.right (r : Receiver) : Bool := isName r.name && decide (r.name ≠ [105, 102]) && backRight r.base r.top r.jitter && decide (1 ≤ r.tries) && decide (r.tries ≤ 100) && within r.fails 1 100 && within r.opens 1 1048576 && within r.burst 1 100 && within r.every 1 1048576
def placeOf (l : List Receiver) (name : Str) : Int := indexF (fun r => decide (r.name = name)) l
/-- Keys of a chain: each a receiver's number, none twice. -/
def goodKeys (n : Int) (l : List Int) : Bool := l.all (fun k => decide (0 ≤ k) && decide (k < n)) && decide l.Nodup
theorem goodKeys_nil (n : Int) : goodKeys n [] = true := by simp [goodKeys]
theorem goodKeys_bad {n : Int} {l : List Int} {i : Nat} (hi : i < l.length) (h : ¬ (0 ≤ l[i] ∧ l[i] < n)) : goodKeys n l = false := by
  simp only [goodKeys, Bool.and_eq_false_iff]
  left
  refine all_bad hi ?_
  simp only [Bool.and_eq_false_iff, decide_eq_false_iff_not]
  omega
theorem goodKeys_twice {n : Int} {l : List Int} {i : Nat} (hi : i < l.length) (h : l[i] ∈ l.take i) : goodKeys n l = false := by
  simp only [goodKeys, Bool.and_eq_false_iff, decide_eq_false_iff_not]
  right
  intro hn
  have h1 : (l.take (i + 1)).Nodup := hn.sublist (List.take_sublist _ _)
  rw [List.take_succ_eq_append_getElem hi, List.nodup_append] at h1
  exact h1.2.2 _ h _ (List.mem_singleton.2 rfl) rfl
theorem goodKeys_succ {n : Int} {l : List Int} {i : Nat} (hi : i < l.length) (h : l[i] ∉ l.take i) (h0 : goodKeys n (l.take i) = true) (h1 : 0 ≤ l[i]) (h2 : l[i] < n) : goodKeys n (l.take (i + 1)) = true := by
  simp only [goodKeys, Bool.and_eq_true, decide_eq_true_eq] at h0 ⊢
  refine ⟨List.all_eq_true.2 (all_take_succ hi h0.1 (by simp [h1, h2])), ?_⟩
  rw [List.take_succ_eq_append_getElem hi, List.nodup_append]
  refine ⟨h0.2, by simp, ?_⟩
  intro a ha b hb
  simp at hb
  subst hb
  intro e
  subst e
  exact h ha
def metKey (k : Int) : PV × PV := (.int .i64 k, .int .i64 1)
theorem findP_skip {t : TK} {p : PV} {e : PV × PV} {es : List (PV × PV)} {j : Nat} (h : keyP t p e.1 = some false) : findP t p (e :: es) j = findP t p es (j + 1) := by simp only [findP, h]
theorem findP_hit {t : TK} {p : PV} {e : PV × PV} {es : List (PV × PV)} {j : Nat} (h : keyP t p e.1 = some true) : findP t p (e :: es) j = some (some (j, e.2)) := by simp only [findP, h]
theorem keyP_int (x a : Int) : keyP (.int .i64) (.int .i64 x) (metKey a).1 = some (x == a) := by simp [keyP, metKey]
theorem find_none (x : Int) : ∀ (l : List Int) (j : Nat), x ∉ l → findP (.int .i64) (.int .i64 x) (l.map metKey) j = some none := by
  intro l
  induction l with
  | nil => intro j _; rfl
  | cons a l ih =>
    intro j h
    have ha : (x == a) = false := by simpa using fun e : x = a => h (by simp [e])
    rw [List.map_cons, findP_skip (by rw [keyP_int, ha])]
    exact ih _ fun e => h (by simp [e])
theorem find_last (x y : Int) : ∀ (l : List Int) (j : Nat), x ∉ l → findP (.int .i64) (.int .i64 x) (l.map metKey ++ [(.int .i64 x, .int .i64 y)]) j = some (some (j + l.length, .int .i64 y)) := by
  intro l
  induction l with
  | nil => intro j _; simp [findP, keyP]
  | cons a l ih =>
    intro j h
    have ha : (x == a) = false := by simpa using fun e : x = a => h (by simp [e])
    rw [List.map_cons, List.cons_append, findP_skip (by rw [keyP_int, ha]), ih _ fun e => h (by simp [e])]
    simp
    omega
theorem find_some (x : Int) : ∀ (l : List Int) (j : Nat), x ∈ l → ∃ q, findP (.int .i64) (.int .i64 x) (l.map metKey) j = some (some (j + q, .int .i64 1)) ∧ ∀ y, findP (.int .i64) (.int .i64 x) ((l.map metKey).set q (.int .i64 x, .int .i64 y)) j = some (some (j + q, .int .i64 y)) := by
  intro l
  induction l with
  | nil => intro j h; cases h
  | cons a l ih =>
    intro j h
    by_cases ha : x = a
    · subst ha
      exact ⟨0, by simp [findP, keyP, metKey], fun y => by simp [findP, keyP]⟩
    · have hl : x ∈ l := by
        rcases List.mem_cons.1 h with h | h
        · exact absurd h ha
        · exact h
      obtain ⟨q, h1, h2⟩ := ih (j + 1) hl
      have hxa : (x == a) = false := by simpa using ha
      refine ⟨q + 1, ?_, fun y => ?_⟩
      · rw [List.map_cons, findP_skip (by rw [keyP_int, hxa]), h1, show j + 1 + q = j + (q + 1) by omega]
      · rw [List.map_cons, List.set_cons_succ, findP_skip (by rw [keyP_int, hxa]), h2 y, show j + 1 + q = j + (q + 1) by omega]
def Route.right (r : Route) (n : Int) : Bool := goodKeys n r.chain && decide ((1 : Int) ≤ r.chain.length) && decide ((r.chain.length : Int) ≤ 4) && decide ((r.asked.length : Int) ≤ 4) && !(r.asked.any fun m => !m.right)
theorem has_right (n : Str) : (⟨3, n, []⟩ : Matcher).right = isName n := by simp [Matcher.right, isValue]
theorem breakerRight_new (fails opens : Int) : breakerRight fails opens 0 0 0 = (within fails 1 100 && within opens 1 1048576) := by
  rw [Bool.eq_iff_iff]
  simp [breakerRight, within]
  omega
theorem bucketRight_new (burst every : Int) : bucketRight burst every 0 0 = (within burst 1 100 && within every 1 1048576) := by
  rw [Bool.eq_iff_iff]
  simp [bucketRight, within, tickRight]
  omega
theorem placeOf_ge (l : List Receiver) (name : Str) : decide (0 ≤ placeOf l name) = l.any fun r => decide (r.name = name) := indexF_any _ _
def recsOk (l : List Receiver) : Bool := l.all Receiver.right && decide (l.map Receiver.name).Nodup
theorem recsOk_nil : recsOk [] = true := by simp [recsOk]
theorem recsOk_bad {l : List Receiver} {i : Nat} (hi : i < l.length) (h : l[i].right = false) : recsOk l = false := by simp [recsOk, all_bad hi h]
theorem recsOk_twice {l : List Receiver} {i : Nat} (hi : i < l.length) (h : 0 ≤ placeOf (l.take i) l[i].name) : recsOk l = false := by
  have h1 := placeOf_ge (l.take i) l[i].name
  rw [decide_eq_true h] at h1
  obtain ⟨r, hr, hn⟩ := List.any_eq_true.1 h1.symm
  simp only [recsOk, Bool.and_eq_false_iff, decide_eq_false_iff_not]
  right
  intro hnd
  have h2 : ((l.take (i + 1)).map Receiver.name).Nodup := hnd.sublist ((List.take_sublist _ _).map _)
  rw [List.take_succ_eq_append_getElem hi, List.map_append, List.nodup_append] at h2
  exact h2.2.2 r.name (List.mem_map.2 ⟨r, hr, rfl⟩) l[i].name (by simp) (by simpa using hn)
theorem recsOk_succ {l : List Receiver} {i : Nat} (hi : i < l.length) (h0 : recsOk (l.take i) = true) (h : l[i].right = true) (h1 : ¬ 0 ≤ placeOf (l.take i) l[i].name) : recsOk (l.take (i + 1)) = true := by
  have h2 := placeOf_ge (l.take i) l[i].name
  rw [decide_eq_false h1] at h2
  simp only [recsOk, Bool.and_eq_true, decide_eq_true_eq] at h0 ⊢
  refine ⟨List.all_eq_true.2 (all_take_succ hi h0.1 h), ?_⟩
  rw [List.take_succ_eq_append_getElem hi, List.map_append, List.nodup_append]
  refine ⟨h0.2, by simp, ?_⟩
  intro a ha b hb e
  simp at hb
  subst hb
  obtain ⟨r, hr, hn⟩ := List.mem_map.1 ha
  have := List.any_eq_false.1 h2.symm r hr
  simp [hn, e] at this
def Config.right (c : Config) : Bool := recsOk c.receivers && !(c.routes.any fun r => !r.right c.receivers.length) && decide ((1 : Int) ≤ c.receivers.length) && decide ((c.receivers.length : Int) ≤ 4) && decide ((1 : Int) ≤ c.routes.length) && decide ((c.routes.length : Int) ≤ 4) && often c.rep && often c.beat
/-- What every machine's config is. -/
structure Route.Fits (r : Route) : Prop where
  chain : r.chain.length ≤ 9223372036854775807
  asked : r.asked.length ≤ 9223372036854775807
  each : ∀ m ∈ r.asked, Fog.Fits m.name ∧ Fog.Fits m.value
structure Config.Fits (c : Config) : Prop where
  recs : c.receivers.length ≤ 9223372036854775807
  names : ∀ r ∈ c.receivers, Fog.Fits r.name
  routes : c.routes.length ≤ 9223372036854775807
  each : ∀ r ∈ c.routes, r.Fits
/-- A variable of a caller's. -/
theorem enterH_old {d : Nat} {c : Key → Nat} {h : PHeap} {k : Key} (hk : k.1 ≤ d) : enterH d c h k = h k := if_pos hk
theorem leave_set_old {d : Nat} {c : Key → Nat} {h : PHeap} {k : Key} {x : Nat × Option PObj} (hk : k.1 ≤ d) : leaveH d ((enterH d c h).set k x) h = h.set k x := by
  funext q
  simp only [leaveH, PHeap.set, enterH]
  split
  · rfl
  · rename_i h1
    rw [if_neg (by intro e; subst e; exact h1 hk)]

/-- What config's reader holds. -/
structure Rd where
  recs : List Receiver
  routes : List Route
  rep : Int
  beat : Int
  words : List Str
  ahead : Str
  rr : Room
  rt : Room
  rw : Room
@[simp] abbrev Rd.cells (s : Rd) : List PV := [.list s.rr (s.recs.map Receiver.pv), .list s.rt (s.routes.map Route.pv), .int .i64 s.rep, .int .i64 s.beat, .list s.rw (s.words.map .str), .str s.ahead]
end Go.Fog
