/- What is known of config's reader. -/
import Derived.Test.YtdclkdcgcfkopaaGreatDoorFgCfg
set_option linter.all false
namespace Go.Fog
open Go.Fh

def Rd.core (s : Rd) : Core := ⟨s.recs, s.routes.map Route.plain, s.rep, s.beat, s.ahead⟩
/-- The reader's variables, with what it holds. -/
structure RdIn (h : PHeap) (k kr kt : Key) (v : Nat) (s : Rd) : Prop where
  at_ : h k = (v, some (.cells s.cells))
  recs : RoomOk h kr 9 s.recs s.rr
  routes : RoomOk h kt 2 s.routes s.rt
/-- The variables changed so that the reader holds that. -/
def RdTo (h h' : PHeap) (k kr kt : Key) (v : Nat) (words : List Str) (c : Core) : Prop :=
  ∃ (s : Rd) (x y : Nat × Option PObj), h' = ((h.set kr x).set kt y).set k (v, some (.cells s.cells)) ∧ s.core = c ∧ s.words = words ∧ RoomOk h' kr 9 s.recs s.rr ∧ RoomOk h' kt 2 s.routes s.rt
theorem RdIn.quiet {h : PHeap} {k kr kt : Key} {v : Nat} {s : Rd} (H : RdIn h k kr kt v s) : RdTo h h k kr kt v s.words s.core :=
  ⟨s, h kr, h kt, by rw [set_same rfl, set_same rfl, set_same H.at_], rfl, rfl, H.recs, H.routes⟩
theorem RoomOk.keep {h : PHeap} {k q : Key} {sz : Nat} {α : Type} {l : List α} {r : Room} {x : Nat × Option PObj} (H : RoomOk h k sz l r) (hne : k ≠ q) : RoomOk (h.set q x) k sz l r := by
  rcases H with h0 | ⟨v, h1, h2, h3⟩
  · exact .inl h0
  · exact .inr ⟨v, h1, by rw [PHeap.set_ne _ _ hne]; exact h2, h3⟩
theorem RoomOk.enter {d : Nat} {c : Key → Nat} {h : PHeap} {k : Key} {sz : Nat} {α : Type} {l : List α} {r : Room} (H : RoomOk h k sz l r) (hk : k.1 ≤ d) : RoomOk (enterH d c h) k sz l r := by
  rcases H with h0 | ⟨v, h1, h2, h3⟩
  · exact .inl h0
  · exact .inr ⟨v, h1, by rw [enterH_old hk]; exact h2, h3⟩
theorem RdTo.recv {h : PHeap} {k kr kt : Key} {v ver : Nat} {s : Rd} {recs' : List Receiver} {cs : List PV} (hcs : cs = recs'.map Receiver.pv) (hne : k ≠ kr) (hnt : kt ≠ kr) (hnk : kt ≠ k) (hr : RoomOk h kt 2 s.routes s.rt) (h0 : recs' ≠ []) :
    RdTo h ((h.set kr (ver, some .tok)).set k (v, some (.cells [.list (.tok kr ver 9) cs, .list s.rt (s.routes.map Route.pv), .int .i64 s.rep, .int .i64 s.beat, .list s.rw (s.words.map .str), .str s.ahead]))) k kr kt v s.words { s.core with recs := recs' } :=
  ⟨{ s with recs := recs', rr := .tok kr ver 9 }, (ver, some .tok), h kt, by rw [set_skip hnt, hcs], rfl, rfl, .inr ⟨ver, rfl, by rw [PHeap.set_ne _ _ (Ne.symm hne), PHeap.set_self], h0⟩, (hr.keep hnt).keep hnk⟩
theorem RdTo.rout {h : PHeap} {k kr kt : Key} {v ver : Nat} {s : Rd} {routes' : List Route} {rs : List Route} {cs : List PV} (hcs : cs = routes'.map Route.pv) (hne : k ≠ kt) (hnt : kr ≠ kt) (hnk : kr ≠ k) (hr : RoomOk h kr 9 s.recs s.rr) (h0 : routes' ≠ []) (hp : routes'.map Route.plain = rs) :
    RdTo h ((h.set kt (ver, some .tok)).set k (v, some (.cells [.list s.rr (s.recs.map Receiver.pv), .list (.tok kt ver 2) cs, .int .i64 s.rep, .int .i64 s.beat, .list s.rw (s.words.map .str), .str s.ahead]))) k kr kt v s.words { s.core with routes := rs } :=
  ⟨{ s with routes := routes', rt := .tok kt ver 2 }, h kr, (ver, some .tok), by rw [set_same (h := h) (k := kr) rfl, hcs], by rw [← hp]; rfl, rfl, (hr.keep hnt).keep hnk, .inr ⟨ver, rfl, by rw [PHeap.set_ne _ _ (Ne.symm hne), PHeap.set_self], h0⟩⟩
theorem leave_at {d : Nat} {h' h : PHeap} {k : Key} (hk : k.1 ≤ d) : leaveH d h' h k = h' k := if_pos hk
/-- A callee's changes, seen from the caller's caller. -/
theorem RdTo.leave {d : Nat} {h hm h' : PHeap} {k kr kt : Key} {v : Nat} {words : List Str} {c : Core} {z : Nat × Option PObj} (hk : k.1 ≤ d) (hkr : kr.1 ≤ d) (hkt : kt.1 ≤ d) (hl : leaveH d hm h = h.set k z) (R : RdTo hm h' k kr kt v words c) : RdTo h (leaveH d h' h) k kr kt v words c := by
  obtain ⟨s, x, y, rfl, h2, h3, h4, h5⟩ := R
  refine ⟨s, x, y, ?_, h2, h3, ?_, ?_⟩
  · rw [leave_set_keep hk, leave_set_keep hkt, leave_set_keep hkr, hl]
    funext q
    simp only [PHeap.set]
    split
    · rfl
    · rfl
  · rcases h4 with h4 | ⟨w, e1, e2, e3⟩
    · exact .inl h4
    · exact .inr ⟨w, e1, by rw [leave_at hkr]; exact e2, e3⟩
  · rcases h5 with h5 | ⟨w, e1, e2, e3⟩
    · exact .inl h5
    · exact .inr ⟨w, e1, by rw [leave_at hkt]; exact e2, e3⟩
/-- One object of the reader's is written. -/
theorem RdTo.put {h : PHeap} {k kr kt : Key} {v : Nat} {s : Rd} (hkr : kr ≠ k) (hkt : kt ≠ k) (h1 : RoomOk h kr 9 s.recs s.rr) (h2 : RoomOk h kt 2 s.routes s.rt) : RdTo h (h.set k (v, some (.cells s.cells))) k kr kt v s.words s.core :=
  ⟨s, h kr, h kt, by rw [set_same (h := h) (k := kr) rfl, set_same (h := h) (k := kt) rfl], rfl, rfl, h1.keep hkr, h2.keep hkt⟩
/-- The numbers of a receiver's line, as far as they are read. -/
def numCells (nums : List Str) (i : Nat) : List PV := (nums.take i).map (fun s => .int .i64 (numOf s)) ++ List.replicate (8 - i) (.int .i64 0)
theorem numCells_length {nums : List Str} (h8 : nums.length = 8) {i : Nat} (hi : i ≤ 8) : (numCells nums i).length = 8 := by
  simp [numCells]
  omega
theorem numCells_step {nums : List Str} (h8 : nums.length = 8) {i : Nat} (hi : i < nums.length) : List.take i (numCells nums i) ++ PV.int .i64 (numOf nums[i]) :: List.drop (i + 1) (numCells nums i) = numCells nums (i + 1) := by
  have hl : ((nums.take i).map fun s => PV.int .i64 (numOf s)).length = i := by simp; omega
  unfold numCells
  rw [List.take_append_of_le_length (by omega), List.take_of_length_le (by omega), List.drop_append, List.drop_of_length_le (by omega), hl, List.take_succ_eq_append_getElem hi, List.map_append, List.append_assoc]
  simp only [List.map_cons, List.map_nil, List.cons_append, List.nil_append, List.append_cancel_left_eq, List.cons.injEq, true_and]
  rw [show i + 1 - i = 1 by omega, List.drop_replicate, show 8 - i - 1 = 8 - (i + 1) by omega]
theorem recvOf_bound {recs : List Receiver} (h : recs.length ≤ 4) (w : List Str) : (recvOf recs w).2.length ≤ 4 := by
  unfold recvOf
  split
  · exact h
  · split
    · exact h
    · split
      · exact h
      · split
        · exact h
        · split
          · simp; omega
          · exact h
theorem routeOf_bound {recs : List Receiver} {routes : List Route} (h : routes.length ≤ 4) (w : List Str) : (routeOf recs routes w).2.length ≤ 4 := by
  unfold routeOf
  split
  · exact h
  · split
    · exact h
    · split
      · exact h
      · split
        · exact h
        · split
          · simp; omega
          · exact h
theorem lineOf_bounds {c : Core} (h : c.recs.length ≤ 4) (h' : c.routes.length ≤ 4) (line : Str) : (lineOf c line).2.recs.length ≤ 4 ∧ (lineOf c line).2.routes.length ≤ 4 := by
  unfold lineOf
  simp only
  split
  · exact ⟨recvOf_bound h _, h'⟩
  · split
    · exact ⟨h, routeOf_bound h' _⟩
    · split
      · exact ⟨h, h'⟩
      · split
        · exact ⟨h, h'⟩
        · exact ⟨h, h'⟩
theorem trimSuffix_len (s p : Str) : (Lib.trimSuffix s p).length ≤ s.length := by
  unfold Lib.trimSuffix
  split <;> simp
/-- A row of routes of which only what they hold is told. -/
theorem Wk.routes (r : Room) {l l' : List Route} (h : l.map Route.plain = l') : Wk (.list r (l.map Route.pv)) (.list .any (l'.map Route.pv)) := by
  subst h
  refine Wk.mapAgg r l (l.map Route.plain) (by simp) fun i a b ha hb => ⟨rfl, fun j p q hp hq => ?_⟩
  rw [List.getElem?_map, ha] at hb
  cases hb
  exact Wk.cells2 (Wk.room _ _) (Wk.room _ _) j p q hp hq
theorem parseOf_rooms (text : Str) : (parseOf text).1.rr = .any ∧ (parseOf text).1.rt = .any := by
  unfold parseOf
  split
  · exact ⟨rfl, rfl⟩
  · split <;> exact ⟨rfl, rfl⟩
theorem sameCfg_recs {a b : Config} (h : a.receivers ≠ b.receivers) : sameCfg a b = false := by simp [sameCfg, h]
theorem sameCfg_routes {a b : Config} (h : a.routes.map Route.plain ≠ b.routes.map Route.plain) : sameCfg a b = false := by simp [sameCfg, h]
theorem Receiver.ext' {a b : Receiver} (h : a.name = b.name ∧ a.base = b.base ∧ a.top = b.top ∧ a.jitter = b.jitter ∧ a.tries = b.tries ∧ a.fails = b.fails ∧ a.opens = b.opens ∧ a.burst = b.burst ∧ a.every = b.every) : a = b := by
  cases a; cases b; simp_all
theorem Route.plain_eq {a b : Route} (h1 : a.chain = b.chain) (h2 : a.asked = b.asked) : a.plain = b.plain := by cases a; cases b; simp_all [Route.plain]
theorem Route.plain_inj {a b : Route} (h : a.plain = b.plain) : a.chain = b.chain ∧ a.asked = b.asked := by cases a; cases b; simp_all [Route.plain]
end Go.Fog
