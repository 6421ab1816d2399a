/- The program's functions, one by one. -/
import Derived.Test.YtdclkdcgcfkopaaGreatDoorTy
import Derived.Test.YtdclkdcgcfkopaaGreatDoorShelf
import Derived.Test.YtdclkdcgcfkopaaGreatDoorFgCfg
import Derived.Test.YtdclkdcgcfkopaaGreatDoorFgRd
import Derived.Test.YtdclkdcgcfkopaaGreatDoorFgAny
import Derived.Test.YtdclkdcgcfkopaaGreatDoorFgTick
import Derived.Test.YtdclkdcgcfkopaaGreatDoorFgLaw13
import Derived.Test.YtdclkdcgcfkopaaGreatDoorFgLaw24
import Derived.Test.YtdclkdcgcfkopaaGreatDoorFhCard
import Derived.Carry
set_option linter.all false
namespace Go.Proofs.YtdclkdcgcfkopaaGreatDoor
open Go.Fh Go.Fog Go.RowKit

theorem mixed : Tryz.prog.follows .mixedOrders = true := by kernel_rfl
def keyHere (d : Nat) : Tmp → Key := fun n => (d, n)
@[simp] theorem keyHere_def (d n : Nat) : keyHere d n = (d, n) := rfl

/-- What is known of the package-level variables. -/
structure Glob (h : PHeap) : Prop where
  max : ∃ m, (h (0, 0)).2 = some (.const [.int .i64 m])
  pow : (h (0, 1)).2 = some (.const (Lib.pow10Tab.map (.int .u64)))
  syn : ∃ t, (h (0, 4)).2 = some (.const [.iface t .dead])
  ran : ∃ t, (h (0, 5)).2 = some (.const [.iface t .dead])
theorem Glob.of_eq {h h' : PHeap} (G : Glob h) (he : ∀ g, h' (0, g) = h (0, g)) : Glob h' := ⟨by rw [he]; exact G.max, by rw [he]; exact G.pow, by rw [he]; exact G.syn, by rw [he]; exact G.ran⟩
@[simp] theorem Glob_enter {d : Nat} {c : Key → Nat} {h : PHeap} : Glob (enterH d c h) ↔ Glob h :=
  ⟨fun G => G.of_eq fun g => by simp [enterH], fun G => G.of_eq fun g => by simp [enterH]⟩
@[simp] theorem Glob_set {d n : Nat} {x : Nat × Option PObj} {h : PHeap} : Glob (h.set (d + 1, n) x) ↔ Glob h :=
  ⟨fun G => G.of_eq fun g => by rw [PHeap.set_ne]; simp, fun G => G.of_eq fun g => by rw [PHeap.set_ne]; simp⟩

theorem Glob_put {k : Key} (hk : 0 < k.1) {x : Nat × Option PObj} {h : PHeap} : Glob (h.set k x) ↔ Glob h :=
  ⟨fun G => G.of_eq fun g => by rw [PHeap.set_ne]; intro e; rw [← e] at hk; exact Nat.lt_irrefl _ hk, fun G => G.of_eq fun g => by rw [PHeap.set_ne]; intro e; rw [← e] at hk; exact Nat.lt_irrefl _ hk⟩

theorem enters {f : FuncId} {fn : Func} (hf : Tryz.prog.funcs[f]? = some fn) (hn : (fn.name == "runtime.NumGoroutine") = false) (hb : fn.body.isNone = false) : Into Tryz.prog f := ⟨fn, hf, hn, hb⟩

theorem lib_TrimSuffix (d : Nat) (h : PHeap) (s p : Str) (hs : s.length ≤ 9223372036854775807) : FnRet Tryz.prog d 46 [.str s, .str p] h (.str (Lib.trimSuffix s p)) :=
  FnRet.of_below (enters Tryz.func46 (by decide) rfl) fun G w vs S R => by
    rw [R.str2]
    refine (Tryz.strings_TrimSuffix (mkStr s) (mkStr p) w (by simpa using hs)).mono ?_
    rintro e w' ⟨rfl, rfl⟩
    exact ⟨Below.refl _ _, _, rfl, .str _⟩

theorem lib_Split (d : Nat) (h : PHeap) (s : Str) (c : UInt8) (hs : s.length < 4294967281) (hg : Glob h) : FnRet Tryz.prog d 47 [.str s, .str [c]] h (.list .full ((splitOn c s).map .str)) :=
  FnRet.of_below (enters Tryz.func47 (by decide) rfl) fun G w vs S R => by
    rw [R.str2]
    obtain ⟨m, hm⟩ := hg.max
    obtain ⟨v, hv, hp⟩ := S.var hm (j := 0) rfl
    rw [hp.int_inv] at hv
    refine (Tryz.strings_Split (mkStr s) (mkStr [c]) m w (by simpa using hs) hv (by simp)).mono ?_
    rintro e w' ⟨rfl, rfl⟩
    have hk : (Lib.splitB (mkStr [c]) 0 (Lib.countB (mkStr s) (mkStr [c])) (mkStr s)).map Value.string = (splitOn c s).map fun x => Value.string (mkStr x) := by
      rw [splitB_strs]
      simp only [mkStr_dataList]
      show List.map _ (Lib.splitK [c] 0 (Lib.count s [c]) s) = _
      rw [split_one]
    have hlen := Lib.splitB_all (mkStr [c]) (by simp) 0 (Lib.countB (mkStr s) (mkStr [c])) (mkStr s) rfl
    have hl2 : (splitOn c s).length = Lib.countB (mkStr s) (mkStr [c]) + 1 := by
      have := congrArg List.length hk
      simpa [hlen] using this.symm
    rw [hk]
    exact ⟨below_alloc w _, _, rfl, PRel.newStrs S _ _ _ hl2.symm⟩

theorem lib_Itoa (d : Nat) (h : PHeap) (n : Int) (h0 : -9223372036854775808 ≤ n) (h1 : n ≤ 9223372036854775807) (hg : Glob h) : FnRet Tryz.prog d 66 [.int .i64 n] h (.str (Lib.itoa n)) :=
  FnRet.of_below (enters Tryz.func66 (by decide) rfl) fun G w vs S R => by
    rw [R.int1]
    refine (Tryz.strconv_Itoa n h0 h1 w ?_).mono ?_
    · exact S.named (by kernel_rfl) hg.pow
    · rintro e w' ⟨rfl, k, os, rfl⟩
      exact ⟨below_grow w k os, _, rfl, .str _⟩

/-- What strconv.Atoi answers. -/
def atoiPV (s : Str) : PV := match Lib.atoiAll s with
  | .ok v => .tuple [.int .i64 v, .niliface]
  | .«syntax» => .tuple [.int .i64 0, .iface 218 .dead]
  | .range => .tuple [.int .i64 (Lib.atoiSat s), .iface 218 .dead]
theorem lib_Atoi (d : Nat) (h : PHeap) (s : Str) (hs : s.length ≤ 281474976710656) (hg : Glob h) : FnRet Tryz.prog d 158 [.str s] h (atoiPV s) :=
  FnRet.of_below (enters Tryz.func158 (by decide) rfl) fun G w vs S R => by
    rw [R.str1]
    unfold atoiPV
    cases ha : Lib.atoiAll s with
    | ok v =>
      refine (Tryz.strconv_Atoi_ok (mkStr s) (by simp; omega) v (by simpa using ha) w).mono ?_
      rintro e w' ⟨rfl, hw⟩
      refine ⟨?_, _, rfl, PRel.tuple2 (.int _ _) .niliface⟩
      rcases hw with rfl | ⟨t, rfl⟩
      · exact Below.refl _ _
      · exact below_bytesWorld w _ _
    | «syntax» =>
      obtain ⟨t, hm⟩ := hg.syn
      obtain ⟨v, hv, hp⟩ := S.var hm (j := 0) rfl
      cases hp with
      | iface _ _ v' _ =>
      refine (Tryz.strconv_Atoi_syntax (mkStr s) (by simpa using hs) (by simpa using ha) _ w hv (.inr ⟨_, _, rfl⟩)).mono ?_
      rintro e w' ⟨N, rfl, _, _, hb⟩
      exact ⟨hb, _, rfl, PRel.tuple2 (.int _ _) (.iface _ _ _ (.dead _))⟩
    | range =>
      obtain ⟨t, hm⟩ := hg.ran
      obtain ⟨v, hv, hp⟩ := S.var hm (j := 0) rfl
      cases hp with
      | iface _ _ v' _ =>
      refine (Tryz.strconv_Atoi_range (mkStr s) (by simpa using hs) (by simpa using ha) _ w hv (.inr ⟨_, _, rfl⟩)).mono ?_
      rintro e w' ⟨N, rfl, _, _, hb⟩
      exact ⟨hb, _, rfl, PRel.tuple2 (.int _ _) (.iface _ _ _ (.dead _))⟩

theorem lib_Join (d : Nat) (h : PHeap) (room : Room) (ss : List Str) (sep : Str) (hn : ss.length ≤ 140737488355328) (hl : (Lib.join ss sep).length ≤ 140737488355328) : FnRet Tryz.prog d 65 [.list room (ss.map .str), .str sep] h (.str (Lib.join ss sep)) :=
  FnRet.of_below (enters Tryz.func65 (by decide) rfl) fun G w vs S R => by
    obtain ⟨u, v, rfl, h1, h2⟩ := R.of2
    rw [h2.str_inv]
    obtain ⟨A, c, rfl, hc, hne⟩ := h1.strs_at
    by_cases h0 : ss = []
    · subst h0
      refine (Tryz.strings_Join_none A c (mkStr sep) w).mono ?_
      rintro e w' ⟨rfl, rfl⟩
      exact ⟨Below.refl _ _, _, rfl, .str _⟩
    · obtain ⟨b, o, rfl, hb, hcell⟩ := hne h0
      have hmap : (ss.map mkStr).map (·.data.toList) = ss := by rw [List.map_map]; exact List.map_id _
      have := Tryz.strings_Join b o c (ss.map mkStr) (mkStr sep) w hcell hb (by simpa using hn) (by simpa using hc) (by rw [hmap]; exact hl)
      rw [hmap, List.length_map] at this
      refine this.mono ?_
      rintro e w' ⟨rfl, hb'⟩
      exact ⟨hb', _, rfl, .str _⟩

theorem lib_Cut (d : Nat) (h : PHeap) (s sep : Str) (hs : s.length < 4294967281) (hg : Glob h) : FnRet Tryz.prog d 120 [.str s, .str sep] h (.tuple [.str (Lib.cut s sep).1, .str (Lib.cut s sep).2.1, .bool (Lib.cut s sep).2.2]) :=
  FnRet.of_below (enters Tryz.func120 (by decide) rfl) fun G w vs S R => by
    rw [R.str2]
    obtain ⟨m, hm⟩ := hg.max
    obtain ⟨v, hv, hp⟩ := S.var hm (j := 0) rfl
    rw [hp.int_inv] at hv
    refine (Tryz.strings_Cut (mkStr s) (mkStr sep) m w (by simpa using hs) hv).mono ?_
    rintro e w' ⟨rfl, n, rfl⟩
    exact ⟨below_drewN w n, _, rfl, PRel.tuple3 (.str _) (.str _) (.bool _)⟩
end Go.Proofs.YtdclkdcgcfkopaaGreatDoor
namespace Go.Proofs.YtdclkdcgcfkopaaGreatDoor
open Go.Fh Go.Fog Go.RowKit

theorem slices_IndexFunc_int (d : Nat) (h : PHeap) (room : Room) (es : List Int) (f : FuncId) (first cap : List PV) (p : Int → Bool) (hl : es.length ≤ 9223372036854775807)
    (hp : ∀ c0, ∀ e ∈ es, FnRet Tryz.prog (d + 1) f (first ++ (PV.int .i64) e :: cap) (enterH d c0 h) (.bool (p e))) : FnRet Tryz.prog d 171 [.list room (es.map (PV.int .i64)), .fn (.func f) first cap] h (.int .i64 (indexF p es)) := by
  refine FnSpec.walk mixed (fun _ => false) (keyHere (d + 1)) Tryz.func171 rfl rfl rfl (by decide) rfl rfl (fun c0 => ?_)
  simp [-Int.not_le, -Int.not_lt]
  refine hLoop.walk mixed (Nat.succ_pos _) (fun _ => false) (keyHere (d + 1)) rfl (fun n σ => ∃ i, i + n = es.length ∧ σ.t 0 = .list room (es.map (PV.int .i64)) ∧ σ.t 1 = .fn (.func f) first cap ∧ σ.t 7 = .int .i64 es.length ∧ σ.t 8 = .int .i64 i ∧ σ.h = enterH d c0 h ∧ es.findIdx? p = ((es.drop i).findIdx? p).map (· + i)) es.length ⟨0, by simp⟩ ?_
  rintro n ⟨t, h'⟩ ⟨i, h1, h2, h3, h4, h5, h6, h7⟩
  simp only at h2 h3 h4 h5 h6
  subst h6
  simp [h2, h3, h4, h5]
  refine goIf.decide (fun hi => ?_) (fun hi => ?_)
  · simp [h2, h3, h4, h5, indexF_none h7 (Nat.le_of_not_lt hi)]
  · simp [h2, h3, h4, h5, hi]
    refine FnRet.use (hp c0 es[i] (List.getElem_mem hi)) ?_
    simp [h2, h3, h4, h5, hi]
    refine goIf.intro (fun hb => ?_) (fun hb => ?_)
    · simp [h2, h3, h4, h5, hi, hb]
      exact ⟨n - 1, by omega, i + 1, by omega, by rw [wrap64 (by omega) (by omega)]; simp, indexF_step h7 hi hb⟩
    · simp [h2, h3, h4, h5, hi, hb, indexF_hit h7 hi hb]
theorem slices_ContainsFunc_int (d : Nat) (h : PHeap) (room : Room) (es : List Int) (f : FuncId) (first cap : List PV) (p : Int → Bool) (hl : es.length ≤ 9223372036854775807)
    (hp : ∀ c0 c1, ∀ e ∈ es, FnRet Tryz.prog (d + 2) f (first ++ (PV.int .i64) e :: cap) (enterH (d + 1) c1 (enterH d c0 h)) (.bool (p e))) : FnRet Tryz.prog d 146 [.list room (es.map (PV.int .i64)), .fn (.func f) first cap] h (.bool (es.any p)) := by
  refine FnSpec.walk mixed (fun _ => false) (keyHere (d + 1)) Tryz.func146 rfl rfl rfl (by decide) rfl rfl (fun c0 => ?_)
  simp [-Int.not_le, -Int.not_lt]
  refine (slices_IndexFunc_int (d + 1) _ room es f first cap p hl fun c1 e he => hp c0 c1 e he).mono ?_
  rintro _ _ ⟨rfl, rfl⟩
  simp [-Int.not_le, -Int.not_lt]
  exact indexF_any p es

theorem slices_IndexFunc_receiver (d : Nat) (h : PHeap) (room : Room) (es : List Receiver) (f : FuncId) (first cap : List PV) (p : Receiver → Bool) (hl : es.length ≤ 9223372036854775807)
    (hp : ∀ c0, ∀ e ∈ es, FnRet Tryz.prog (d + 1) f (first ++ Receiver.pv e :: cap) (enterH d c0 h) (.bool (p e))) : FnRet Tryz.prog d 115 [.list room (es.map Receiver.pv), .fn (.func f) first cap] h (.int .i64 (indexF p es)) := by
  refine FnSpec.walk mixed (fun _ => false) (keyHere (d + 1)) Tryz.func115 rfl rfl rfl (by decide) rfl rfl (fun c0 => ?_)
  simp [-Int.not_le, -Int.not_lt, -Receiver.pv]
  refine hLoop.walk mixed (Nat.succ_pos _) (fun _ => false) (keyHere (d + 1)) rfl (fun n σ => ∃ i, i + n = es.length ∧ σ.t 0 = .list room (es.map Receiver.pv) ∧ σ.t 1 = .fn (.func f) first cap ∧ σ.t 7 = .int .i64 es.length ∧ σ.t 8 = .int .i64 i ∧ σ.h = enterH d c0 h ∧ es.findIdx? p = ((es.drop i).findIdx? p).map (· + i)) es.length ⟨0, by simp⟩ ?_
  rintro n ⟨t, h'⟩ ⟨i, h1, h2, h3, h4, h5, h6, h7⟩
  simp only at h2 h3 h4 h5 h6
  subst h6
  simp [h2, h3, h4, h5, -Receiver.pv]
  refine goIf.decide (fun hi => ?_) (fun hi => ?_)
  · simp [h2, h3, h4, h5, -Receiver.pv, indexF_none h7 (Nat.le_of_not_lt hi)]
  · simp [h2, h3, h4, h5, hi, -Receiver.pv]
    refine FnRet.use (hp c0 es[i] (List.getElem_mem hi)) ?_
    simp [h2, h3, h4, h5, hi, -Receiver.pv]
    refine goIf.intro (fun hb => ?_) (fun hb => ?_)
    · simp [h2, h3, h4, h5, hi, hb, -Receiver.pv]
      exact ⟨n - 1, by omega, i + 1, by omega, by rw [wrap64 (by omega) (by omega)]; simp, indexF_step h7 hi hb⟩
    · simp [h2, h3, h4, h5, hi, hb, indexF_hit h7 hi hb, -Receiver.pv]

theorem slices_IndexFunc_route (d : Nat) (h : PHeap) (room : Room) (es : List Route) (f : FuncId) (first cap : List PV) (p : Route → Bool) (hl : es.length ≤ 9223372036854775807)
    (hp : ∀ c0, ∀ e ∈ es, FnRet Tryz.prog (d + 1) f (first ++ Route.pv e :: cap) (enterH d c0 h) (.bool (p e))) : FnRet Tryz.prog d 117 [.list room (es.map Route.pv), .fn (.func f) first cap] h (.int .i64 (indexF p es)) := by
  refine FnSpec.walk mixed (fun _ => false) (keyHere (d + 1)) Tryz.func117 rfl rfl rfl (by decide) rfl rfl (fun c0 => ?_)
  simp [-Int.not_le, -Int.not_lt, -Route.pv]
  refine hLoop.walk mixed (Nat.succ_pos _) (fun _ => false) (keyHere (d + 1)) rfl (fun n σ => ∃ i, i + n = es.length ∧ σ.t 0 = .list room (es.map Route.pv) ∧ σ.t 1 = .fn (.func f) first cap ∧ σ.t 7 = .int .i64 es.length ∧ σ.t 8 = .int .i64 i ∧ σ.h = enterH d c0 h ∧ es.findIdx? p = ((es.drop i).findIdx? p).map (· + i)) es.length ⟨0, by simp⟩ ?_
  rintro n ⟨t, h'⟩ ⟨i, h1, h2, h3, h4, h5, h6, h7⟩
  simp only at h2 h3 h4 h5 h6
  subst h6
  simp [h2, h3, h4, h5, -Route.pv]
  refine goIf.decide (fun hi => ?_) (fun hi => ?_)
  · simp [h2, h3, h4, h5, -Route.pv, indexF_none h7 (Nat.le_of_not_lt hi)]
  · simp [h2, h3, h4, h5, hi, -Route.pv]
    refine FnRet.use (hp c0 es[i] (List.getElem_mem hi)) ?_
    simp [h2, h3, h4, h5, hi, -Route.pv]
    refine goIf.intro (fun hb => ?_) (fun hb => ?_)
    · simp [h2, h3, h4, h5, hi, hb, -Route.pv]
      exact ⟨n - 1, by omega, i + 1, by omega, by rw [wrap64 (by omega) (by omega)]; simp, indexF_step h7 hi hb⟩
    · simp [h2, h3, h4, h5, hi, hb, indexF_hit h7 hi hb, -Route.pv]
theorem slices_ContainsFunc_route (d : Nat) (h : PHeap) (room : Room) (es : List Route) (f : FuncId) (first cap : List PV) (p : Route → Bool) (hl : es.length ≤ 9223372036854775807)
    (hp : ∀ c0 c1, ∀ e ∈ es, FnRet Tryz.prog (d + 2) f (first ++ Route.pv e :: cap) (enterH (d + 1) c1 (enterH d c0 h)) (.bool (p e))) : FnRet Tryz.prog d 70 [.list room (es.map Route.pv), .fn (.func f) first cap] h (.bool (es.any p)) := by
  refine FnSpec.walk mixed (fun _ => false) (keyHere (d + 1)) Tryz.func70 rfl rfl rfl (by decide) rfl rfl (fun c0 => ?_)
  simp [-Int.not_le, -Int.not_lt, -Route.pv]
  refine (slices_IndexFunc_route (d + 1) _ room es f first cap p hl fun c1 e he => hp c0 c1 e he).mono ?_
  rintro _ _ ⟨rfl, rfl⟩
  simp [-Int.not_le, -Int.not_lt, -Route.pv]
  exact indexF_any p es

theorem slices_IndexFunc_matcher (d : Nat) (h : PHeap) (room : Room) (es : List Matcher) (f : FuncId) (first cap : List PV) (p : Matcher → Bool) (hl : es.length ≤ 9223372036854775807)
    (hp : ∀ c0, ∀ e ∈ es, FnRet Tryz.prog (d + 1) f (first ++ Matcher.pv e :: cap) (enterH d c0 h) (.bool (p e))) : FnRet Tryz.prog d 154 [.list room (es.map Matcher.pv), .fn (.func f) first cap] h (.int .i64 (indexF p es)) := by
  refine FnSpec.walk mixed (fun _ => false) (keyHere (d + 1)) Tryz.func154 rfl rfl rfl (by decide) rfl rfl (fun c0 => ?_)
  simp [-Int.not_le, -Int.not_lt, -Matcher.pv]
  refine hLoop.walk mixed (Nat.succ_pos _) (fun _ => false) (keyHere (d + 1)) rfl (fun n σ => ∃ i, i + n = es.length ∧ σ.t 0 = .list room (es.map Matcher.pv) ∧ σ.t 1 = .fn (.func f) first cap ∧ σ.t 7 = .int .i64 es.length ∧ σ.t 8 = .int .i64 i ∧ σ.h = enterH d c0 h ∧ es.findIdx? p = ((es.drop i).findIdx? p).map (· + i)) es.length ⟨0, by simp⟩ ?_
  rintro n ⟨t, h'⟩ ⟨i, h1, h2, h3, h4, h5, h6, h7⟩
  simp only at h2 h3 h4 h5 h6
  subst h6
  simp [h2, h3, h4, h5, -Matcher.pv]
  refine goIf.decide (fun hi => ?_) (fun hi => ?_)
  · simp [h2, h3, h4, h5, -Matcher.pv, indexF_none h7 (Nat.le_of_not_lt hi)]
  · simp [h2, h3, h4, h5, hi, -Matcher.pv]
    refine FnRet.use (hp c0 es[i] (List.getElem_mem hi)) ?_
    simp [h2, h3, h4, h5, hi, -Matcher.pv]
    refine goIf.intro (fun hb => ?_) (fun hb => ?_)
    · simp [h2, h3, h4, h5, hi, hb, -Matcher.pv]
      exact ⟨n - 1, by omega, i + 1, by omega, by rw [wrap64 (by omega) (by omega)]; simp, indexF_step h7 hi hb⟩
    · simp [h2, h3, h4, h5, hi, hb, indexF_hit h7 hi hb, -Matcher.pv]
theorem slices_ContainsFunc_matcher (d : Nat) (h : PHeap) (room : Room) (es : List Matcher) (f : FuncId) (first cap : List PV) (p : Matcher → Bool) (hl : es.length ≤ 9223372036854775807)
    (hp : ∀ c0 c1, ∀ e ∈ es, FnRet Tryz.prog (d + 2) f (first ++ Matcher.pv e :: cap) (enterH (d + 1) c1 (enterH d c0 h)) (.bool (p e))) : FnRet Tryz.prog d 118 [.list room (es.map Matcher.pv), .fn (.func f) first cap] h (.bool (es.any p)) := by
  refine FnSpec.walk mixed (fun _ => false) (keyHere (d + 1)) Tryz.func118 rfl rfl rfl (by decide) rfl rfl (fun c0 => ?_)
  simp [-Int.not_le, -Int.not_lt, -Matcher.pv]
  refine (slices_IndexFunc_matcher (d + 1) _ room es f first cap p hl fun c1 e he => hp c0 c1 e he).mono ?_
  rintro _ _ ⟨rfl, rfl⟩
  simp [-Int.not_le, -Int.not_lt, -Matcher.pv]
  exact indexF_any p es

theorem slices_IndexFunc_label (d : Nat) (h : PHeap) (room : Room) (es : List Label) (f : FuncId) (first cap : List PV) (p : Label → Bool) (hl : es.length ≤ 9223372036854775807)
    (hp : ∀ c0, ∀ e ∈ es, FnRet Tryz.prog (d + 1) f (first ++ Label.pv e :: cap) (enterH d c0 h) (.bool (p e))) : FnRet Tryz.prog d 185 [.list room (es.map Label.pv), .fn (.func f) first cap] h (.int .i64 (indexF p es)) := by
  refine FnSpec.walk mixed (fun _ => false) (keyHere (d + 1)) Tryz.func185 rfl rfl rfl (by decide) rfl rfl (fun c0 => ?_)
  simp [-Int.not_le, -Int.not_lt, -Label.pv]
  refine hLoop.walk mixed (Nat.succ_pos _) (fun _ => false) (keyHere (d + 1)) rfl (fun n σ => ∃ i, i + n = es.length ∧ σ.t 0 = .list room (es.map Label.pv) ∧ σ.t 1 = .fn (.func f) first cap ∧ σ.t 7 = .int .i64 es.length ∧ σ.t 8 = .int .i64 i ∧ σ.h = enterH d c0 h ∧ es.findIdx? p = ((es.drop i).findIdx? p).map (· + i)) es.length ⟨0, by simp⟩ ?_
  rintro n ⟨t, h'⟩ ⟨i, h1, h2, h3, h4, h5, h6, h7⟩
  simp only at h2 h3 h4 h5 h6
  subst h6
  simp [h2, h3, h4, h5, -Label.pv]
  refine goIf.decide (fun hi => ?_) (fun hi => ?_)
  · simp [h2, h3, h4, h5, -Label.pv, indexF_none h7 (Nat.le_of_not_lt hi)]
  · simp [h2, h3, h4, h5, hi, -Label.pv]
    refine FnRet.use (hp c0 es[i] (List.getElem_mem hi)) ?_
    simp [h2, h3, h4, h5, hi, -Label.pv]
    refine goIf.intro (fun hb => ?_) (fun hb => ?_)
    · simp [h2, h3, h4, h5, hi, hb, -Label.pv]
      exact ⟨n - 1, by omega, i + 1, by omega, by rw [wrap64 (by omega) (by omega)]; simp, indexF_step h7 hi hb⟩
    · simp [h2, h3, h4, h5, hi, hb, indexF_hit h7 hi hb, -Label.pv]
theorem slices_ContainsFunc_label (d : Nat) (h : PHeap) (room : Room) (es : List Label) (f : FuncId) (first cap : List PV) (p : Label → Bool) (hl : es.length ≤ 9223372036854775807)
    (hp : ∀ c0 c1, ∀ e ∈ es, FnRet Tryz.prog (d + 2) f (first ++ Label.pv e :: cap) (enterH (d + 1) c1 (enterH d c0 h)) (.bool (p e))) : FnRet Tryz.prog d 164 [.list room (es.map Label.pv), .fn (.func f) first cap] h (.bool (es.any p)) := by
  refine FnSpec.walk mixed (fun _ => false) (keyHere (d + 1)) Tryz.func164 rfl rfl rfl (by decide) rfl rfl (fun c0 => ?_)
  simp [-Int.not_le, -Int.not_lt, -Label.pv]
  refine (slices_IndexFunc_label (d + 1) _ room es f first cap p hl fun c1 e he => hp c0 c1 e he).mono ?_
  rintro _ _ ⟨rfl, rfl⟩
  simp [-Int.not_le, -Int.not_lt, -Label.pv]
  exact indexF_any p es

theorem slices_Index_str (d : Nat) (h : PHeap) (room : Room) (es : List Str) (x : Str) (hl : es.length ≤ 9223372036854775807) : FnRet Tryz.prog d 143 [.list room (es.map .str), .str x] h (.int .i64 (indexF (fun e => decide (x = e)) es)) := by
  refine FnSpec.walk mixed (fun _ => false) (keyHere (d + 1)) Tryz.func143 rfl rfl rfl (by decide) rfl rfl (fun c0 => ?_)
  simp [-Int.not_le, -Int.not_lt]
  refine hLoop.walk mixed (Nat.succ_pos _) (fun _ => false) (keyHere (d + 1)) rfl (fun n σ => ∃ i, i + n = es.length ∧ σ.t 0 = .list room (es.map .str) ∧ σ.t 1 = .str x ∧ σ.t 7 = .int .i64 es.length ∧ σ.t 8 = .int .i64 i ∧ σ.h = enterH d c0 h ∧ es.findIdx? (fun e => decide (x = e)) = ((es.drop i).findIdx? (fun e => decide (x = e))).map (· + i)) es.length ⟨0, by simp⟩ ?_
  rintro n ⟨t, h'⟩ ⟨i, h1, h2, h3, h4, h5, h6, h7⟩
  simp only at h2 h3 h4 h5 h6
  subst h6
  simp [h2, h3, h4, h5]
  refine goIf.decide (fun hi => ?_) (fun hi => ?_)
  · simp [h2, h3, h4, h5, indexF_none h7 (Nat.le_of_not_lt hi)]
  · simp [h2, h3, h4, h5, hi]
    refine goIf.decide (fun hb => ?_) (fun hb => ?_)
    · simp [h2, h3, h4, h5, hi, hb]
      exact ⟨n - 1, by omega, i + 1, by omega, by rw [wrap64 (by omega) (by omega)]; simp, indexF_step h7 hi (by simpa using hb)⟩
    · have hh := indexF_hit (p := fun e => decide (x = e)) h7 hi (by simpa using hb)
      simp [h2, h3, h4, h5, hi, hh]
theorem slices_Contains_str (d : Nat) (h : PHeap) (room : Room) (es : List Str) (x : Str) (hl : es.length ≤ 9223372036854775807) : FnRet Tryz.prog d 98 [.list room (es.map .str), .str x] h (.bool (es.contains x)) := by
  refine FnSpec.walk mixed (fun _ => false) (keyHere (d + 1)) Tryz.func98 rfl rfl rfl (by decide) rfl rfl (fun c0 => ?_)
  simp [-Int.not_le, -Int.not_lt]
  refine (slices_Index_str (d + 1) _ room es x hl).mono ?_
  rintro _ _ ⟨rfl, rfl⟩
  have h1 := indexF_any (fun e => decide (x = e)) es
  rw [Bool.eq_iff_iff] at h1
  simpa using h1
end Go.Proofs.YtdclkdcgcfkopaaGreatDoor
namespace Go.Proofs.YtdclkdcgcfkopaaGreatDoor
open Go.Fh Go.Fog Go.RowKit

theorem tick_Right (d : Nat) (h : PHeap) (t : Int) : FnRet Tryz.prog d 132 [.int .i64 t] h (.bool (tickRight t)) := by
  refine FnSpec.walk mixed (fun _ => false) (keyHere (d + 1)) Tryz.func132 rfl rfl rfl (by decide) rfl rfl (fun c0 => ?_)
  simp
  repeat' (first
    | (with_reducible apply goIf.decide <;> (intro _; try simp [*]))
    | (with_reducible apply goIf.intro <;> (intro _; try simp [*]))
    | with_reducible apply And.intro)
  all_goals simp_all [tickRight, -Int.not_le, -Int.not_lt]
theorem tick_all1 (d : Nat) (h : PHeap) (t : Int) : FnRet Tryz.prog d 147 [.int .i64 t] h (.bool (!tickRight t)) := by
  refine FnSpec.walk mixed (fun _ => false) (keyHere (d + 1)) Tryz.func147 rfl rfl rfl (by decide) rfl rfl (fun c0 => ?_)
  simp
  repeat' (first
    | (with_reducible apply goIf.decide <;> (intro _; try simp [*]))
    | (with_reducible apply goIf.intro <;> (intro _; try simp [*]))
    | with_reducible apply And.intro
    | (with_reducible apply goDCall.intro; (focus (intro _ _; first | with_reducible exact tick_Right _ _ _)); try simp [*])
    | (with_reducible apply FnRet.use; (focus (first | with_reducible exact tick_Right _ _ _)); try simp [*]))

theorem label_isName (d : Nat) (h : PHeap) (s : Str) (hl : Fits s) : FnRet Tryz.prog d 130 [.str s] h (.bool (isName s)) := by
  refine FnSpec.walk mixed (fun _ => false) (keyHere (d + 1)) Tryz.func130 rfl rfl rfl (by decide) rfl rfl (fun c0 => ?_)
  have hl := hl.le
  simp
  refine hLoop.walk mixed (Nat.succ_pos _) (fun _ => false) (keyHere (d + 1)) rfl (fun n σ => ∃ i v, i + n = s.length ∧ σ.t 0 = .str s ∧ σ.t 6 = .iter (d + 1, 6) v ∧ σ.h = (enterH d c0 h).set (d + 1, 6) (v, some (.iter s i)) ∧ (s.take i).all letter = true) s.length ⟨0, c0 (d + 1, 6) + 1, by simp⟩ ?_
  rintro n ⟨t, h'⟩ ⟨i, v, h1, h2, h3, h4, h5⟩
  simp only at h2 h3 h4
  subst h4
  by_cases hi : i < s.length
  · have good : letter s[i] = true → ∃ k, k < n ∧ ∃ i', i' + k = s.length ∧ (enterH d c0 h).set (d + 1, 6) (v, some (PObj.iter s (i + 1))) = (enterH d c0 h).set (d + 1, 6) (v, some (PObj.iter s i')) ∧ ∀ x ∈ s.take i', letter x = true :=
      fun hv => ⟨n - 1, by omega, i + 1, by omega, rfl, all_take_succ hi h5 hv⟩
    rcases decode_cases s i hi with ⟨hb, hd⟩ | ⟨hb, hd1, hd2⟩
    · simp [h2, h3, hi, hd]
      repeat' (first
        | (with_reducible apply goIf.decide <;> (intro _; try simp [*]))
        | (with_reducible apply goIf.intro <;> (intro _; try simp [*]))
        | with_reducible apply And.intro)
      all_goals first
        | exact good (by simp [letter]; omega)
        | exact isName_bad hi (by simp [letter]; omega)
    · simp [h2, h3, hi]
      repeat' (first
        | (with_reducible apply goIf.decide <;> (intro _; try simp [*]))
        | (with_reducible apply goIf.intro <;> (intro _; try simp [*]))
        | with_reducible apply And.intro)
      all_goals first
        | exfalso; omega
        | exact isName_bad hi (by simp [letter]; omega)
  · have hall := all_take_end hi h5
    simp [h2, h3, hi]
    repeat' (first
      | (with_reducible apply goIf.decide <;> (intro _; try simp [*]))
      | (with_reducible apply goIf.intro <;> (intro _; try simp [*]))
      | with_reducible apply And.intro)
    all_goals rw [Bool.eq_iff_iff]
    all_goals simp_all [isName]
    all_goals omega
theorem label_isValue (d : Nat) (h : PHeap) (s : Str) (hl : Fits s) : FnRet Tryz.prog d 131 [.str s] h (.bool (isValue s)) := by
  refine FnSpec.walk mixed (fun _ => false) (keyHere (d + 1)) Tryz.func131 rfl rfl rfl (by decide) rfl rfl (fun c0 => ?_)
  have hl := hl.le
  simp
  refine hLoop.walk mixed (Nat.succ_pos _) (fun _ => false) (keyHere (d + 1)) rfl (fun n σ => ∃ i v, i + n = s.length ∧ σ.t 0 = .str s ∧ σ.t 6 = .iter (d + 1, 6) v ∧ σ.h = (enterH d c0 h).set (d + 1, 6) (v, some (.iter s i)) ∧ (s.take i).all valued = true) s.length ⟨0, c0 (d + 1, 6) + 1, by simp⟩ ?_
  rintro n ⟨t, h'⟩ ⟨i, v, h1, h2, h3, h4, h5⟩
  simp only at h2 h3 h4
  subst h4
  by_cases hi : i < s.length
  · have good : valued s[i] = true → ∃ k, k < n ∧ ∃ i', i' + k = s.length ∧ (enterH d c0 h).set (d + 1, 6) (v, some (PObj.iter s (i + 1))) = (enterH d c0 h).set (d + 1, 6) (v, some (PObj.iter s i')) ∧ ∀ x ∈ s.take i', valued x = true :=
      fun hv => ⟨n - 1, by omega, i + 1, by omega, rfl, all_take_succ hi h5 hv⟩
    rcases decode_cases s i hi with ⟨hb, hd⟩ | ⟨hb, hd1, hd2⟩
    · simp [h2, h3, hi, hd]
      repeat' (first
        | (with_reducible apply goIf.decide <;> (intro _; try simp [*]))
        | (with_reducible apply goIf.intro <;> (intro _; try simp [*]))
        | with_reducible apply And.intro)
      all_goals first
        | exact good (by simp [valued, letter]; omega)
        | exact isValue_bad hi (by simp [valued, letter]; omega)
    · simp [h2, h3, hi]
      repeat' (first
        | (with_reducible apply goIf.decide <;> (intro _; try simp [*]))
        | (with_reducible apply goIf.intro <;> (intro _; try simp [*]))
        | with_reducible apply And.intro)
      all_goals first
        | exfalso; omega
        | exact isValue_bad hi (by simp [valued, letter]; omega)
  · have hall := all_take_end hi h5
    simp [h2, h3, hi]
    rw [Bool.eq_iff_iff]
    simp_all [isValue]
    omega
theorem label_Matcher (d : Nat) (h : PHeap) (m : Matcher) (hn : Fits m.name) (hv : Fits m.value) : FnRet Tryz.prog d 82 [m.pv] h (.bool m.right) := by
  refine FnSpec.walk mixed (fun _ => false) (keyHere (d + 1)) Tryz.func82 rfl rfl rfl (by decide) rfl rfl (fun c0 => ?_)
  simp
  repeat' (first
    | (with_reducible apply goIf.decide <;> (intro _; try simp [*]))
    | (with_reducible apply goIf.intro <;> (intro _; try simp [*]))
    | with_reducible apply And.intro
    | (with_reducible apply goDCall.intro; (focus (intro _ _; first | with_reducible exact label_isName _ _ _ hn | with_reducible exact label_isValue _ _ _ hv)); try simp [*])
    | (with_reducible apply FnRet.use; (focus (first | with_reducible exact label_isName _ _ _ hn | with_reducible exact label_isValue _ _ _ hv)); try simp [*]))
  all_goals simp_all [Matcher.right, -Int.not_le, -Int.not_lt]
end Go.Proofs.YtdclkdcgcfkopaaGreatDoor
namespace Go.Proofs.YtdclkdcgcfkopaaGreatDoor
open Go.Fh Go.Fog Go.RowKit

theorem backoff_in (d : Nat) (h : PHeap) (n low high : Int) : FnRet Tryz.prog d 153 [.int .i64 n, .int .i64 low, .int .i64 high] h (.bool (within n low high)) := by
  refine FnSpec.walk mixed (fun _ => false) (keyHere (d + 1)) Tryz.func153 rfl rfl rfl (by decide) rfl rfl (fun c0 => ?_)
  simp
  repeat' (first
    | (with_reducible apply goIf.decide <;> (intro _; try simp [*]))
    | (with_reducible apply goIf.intro <;> (intro _; try simp [*]))
    | with_reducible apply And.intro)
  all_goals simp_all [within, -Int.not_le, -Int.not_lt]
theorem breaker_in (d : Nat) (h : PHeap) (n low high : Int) : FnRet Tryz.prog d 177 [.int .i64 n, .int .i64 low, .int .i64 high] h (.bool (within n low high)) := by
  refine FnSpec.walk mixed (fun _ => false) (keyHere (d + 1)) Tryz.func177 rfl rfl rfl (by decide) rfl rfl (fun c0 => ?_)
  simp
  repeat' (first
    | (with_reducible apply goIf.decide <;> (intro _; try simp [*]))
    | (with_reducible apply goIf.intro <;> (intro _; try simp [*]))
    | with_reducible apply And.intro)
  all_goals simp_all [within, -Int.not_le, -Int.not_lt]
theorem bucket_in (d : Nat) (h : PHeap) (n low high : Int) : FnRet Tryz.prog d 178 [.int .i64 n, .int .i64 low, .int .i64 high] h (.bool (within n low high)) := by
  refine FnSpec.walk mixed (fun _ => false) (keyHere (d + 1)) Tryz.func178 rfl rfl rfl (by decide) rfl rfl (fun c0 => ?_)
  simp
  repeat' (first
    | (with_reducible apply goIf.decide <;> (intro _; try simp [*]))
    | (with_reducible apply goIf.intro <;> (intro _; try simp [*]))
    | with_reducible apply And.intro)
  all_goals simp_all [within, -Int.not_le, -Int.not_lt]
theorem backoff_Right (d : Nat) (h : PHeap) (base top jitter : Int) : FnRet Tryz.prog d 114 [.agg [.int .i64 base, .int .i64 top, .int .i64 jitter]] h (.bool (backRight base top jitter)) := by
  refine FnSpec.walk mixed (fun _ => false) (keyHere (d + 1)) Tryz.func114 rfl rfl rfl (by decide) rfl rfl (fun c0 => ?_)
  simp
  repeat' (first
    | (with_reducible apply goIf.decide <;> (intro _; try simp [*]))
    | (with_reducible apply goIf.intro <;> (intro _; try simp [*]))
    | with_reducible apply And.intro
    | (with_reducible apply goDCall.intro; (focus (intro _ _; first | with_reducible exact backoff_in _ _ _ _ _)); try simp [*])
    | (with_reducible apply FnRet.use; (focus (first | with_reducible exact backoff_in _ _ _ _ _)); try simp [*]))
  all_goals simp_all [backRight, -Int.not_le, -Int.not_lt]
theorem breaker_Right (d : Nat) (h : PHeap) (fails opens state count til : Int) : FnRet Tryz.prog d 151 [.agg [.int .i64 fails, .int .i64 opens, .int .i64 state, .int .i64 count, .int .i64 til]] h (.bool (breakerRight fails opens state count til)) := by
  refine FnSpec.walk mixed (fun _ => false) (keyHere (d + 1)) Tryz.func151 rfl rfl rfl (by decide) rfl rfl (fun c0 => ?_)
  simp
  repeat' (first
    | (with_reducible apply goIf.decide <;> (intro _; try simp [*]))
    | (with_reducible apply goIf.intro <;> (intro _; try simp [*]))
    | with_reducible apply And.intro
    | (with_reducible apply goDCall.intro; (focus (intro _ _; first | with_reducible exact breaker_in _ _ _ _ _ | with_reducible exact tick_Right _ _ _)); try simp [*])
    | (with_reducible apply FnRet.use; (focus (first | with_reducible exact breaker_in _ _ _ _ _ | with_reducible exact tick_Right _ _ _)); try simp [*]))
  all_goals have hw : within fails 1 100 = true → IntKind.i64.wrap (fails - 1) = fails - 1 := fun h => by simp [within] at h; exact wrap64 (by omega) (by omega)
  all_goals simp_all [breakerRight]
  all_goals try (exfalso; simp only [within, Bool.and_eq_true, Bool.and_eq_false_iff, decide_eq_true_eq, decide_eq_false_iff_not] at *; omega)
theorem bucket_Right (d : Nat) (h : PHeap) (burst every have_ at_ : Int) : FnRet Tryz.prog d 152 [.agg [.int .i64 burst, .int .i64 every, .int .i64 have_, .int .i64 at_]] h (.bool (bucketRight burst every have_ at_)) := by
  refine FnSpec.walk mixed (fun _ => false) (keyHere (d + 1)) Tryz.func152 rfl rfl rfl (by decide) rfl rfl (fun c0 => ?_)
  simp
  repeat' (first
    | (with_reducible apply goIf.decide <;> (intro _; try simp [*]))
    | (with_reducible apply goIf.intro <;> (intro _; try simp [*]))
    | with_reducible apply And.intro
    | (with_reducible apply goDCall.intro; (focus (intro _ _; first | with_reducible exact bucket_in _ _ _ _ _ | with_reducible exact tick_Right _ _ _)); try simp [*])
    | (with_reducible apply FnRet.use; (focus (first | with_reducible exact bucket_in _ _ _ _ _ | with_reducible exact tick_Right _ _ _)); try simp [*]))
  all_goals simp_all [bucketRight, -Int.not_le, -Int.not_lt]
theorem config_often (d : Nat) (h : PHeap) (n : Int) : FnRet Tryz.prog d 73 [.int .i64 n] h (.bool (often n)) := by
  refine FnSpec.walk mixed (fun _ => false) (keyHere (d + 1)) Tryz.func73 rfl rfl rfl (by decide) rfl rfl (fun c0 => ?_)
  simp
  repeat' (first
    | (with_reducible apply goIf.decide <;> (intro _; try simp [*]))
    | (with_reducible apply goIf.intro <;> (intro _; try simp [*]))
    | with_reducible apply And.intro)
  all_goals simp_all [often, within, -Int.not_le, -Int.not_lt]
theorem breaker_New (d : Nat) (h : PHeap) (fails opens : Int) : FnRet Tryz.prog d 112 [.int .i64 fails, .int .i64 opens] h (.tuple [.agg [.int .i64 (if breakerRight fails opens 0 0 0 = true then fails else 0), .int .i64 (if breakerRight fails opens 0 0 0 = true then opens else 0), .int .i64 0, .int .i64 0, .int .i64 0], .int .i64 (if breakerRight fails opens 0 0 0 = true then 0 else 1)]) := by
  refine FnSpec.walk mixed (fun _ => false) (keyHere (d + 1)) Tryz.func112 rfl rfl rfl (by decide) rfl rfl (fun c0 => ?_)
  simp
  repeat' (first
    | (with_reducible apply goIf.decide <;> (intro _; try simp [*]))
    | (with_reducible apply goIf.intro <;> (intro _; try simp [*]))
    | with_reducible apply And.intro
    | (with_reducible apply goDCall.intro; (focus (intro _ _; first | with_reducible exact breaker_Right _ _ _ _ _ _ _)); try simp [*])
    | (with_reducible apply FnRet.use; (focus (first | with_reducible exact breaker_Right _ _ _ _ _ _ _)); try simp [*]))
  all_goals simp_all [-Int.not_le, -Int.not_lt]
theorem bucket_New (d : Nat) (h : PHeap) (burst every have_ at_ : Int) : FnRet Tryz.prog d 113 [.int .i64 burst, .int .i64 every, .int .i64 have_, .int .i64 at_] h (.tuple [.agg [.int .i64 (if bucketRight burst every have_ at_ = true then burst else 0), .int .i64 (if bucketRight burst every have_ at_ = true then every else 0), .int .i64 (if bucketRight burst every have_ at_ = true then have_ else 0), .int .i64 (if bucketRight burst every have_ at_ = true then at_ else 0)], .int .i64 (if bucketRight burst every have_ at_ = true then 0 else 1)]) := by
  refine FnSpec.walk mixed (fun _ => false) (keyHere (d + 1)) Tryz.func113 rfl rfl rfl (by decide) rfl rfl (fun c0 => ?_)
  simp
  repeat' (first
    | (with_reducible apply goIf.decide <;> (intro _; try simp [*]))
    | (with_reducible apply goIf.intro <;> (intro _; try simp [*]))
    | with_reducible apply And.intro
    | (with_reducible apply goDCall.intro; (focus (intro _ _; first | with_reducible exact bucket_Right _ _ _ _ _ _)); try simp [*])
    | (with_reducible apply FnRet.use; (focus (first | with_reducible exact bucket_Right _ _ _ _ _ _)); try simp [*]))
  all_goals simp_all [-Int.not_le, -Int.not_lt]
theorem config_isReceiver (d : Nat) (h : PHeap) (r : Receiver) (hn : Fits r.name) : FnRet Tryz.prog d 68 [r.pv] h (.bool r.right) := by
  refine FnSpec.walk mixed (fun _ => false) (keyHere (d + 1)) Tryz.func68 rfl rfl rfl (by decide) rfl rfl (fun c0 => ?_)
  simp
  repeat' (first
    | (with_reducible apply goIf.decide <;> (intro _; try simp [*]))
    | (with_reducible apply goIf.intro <;> (intro _; try simp [*]))
    | with_reducible apply And.intro
    | (with_reducible apply goDCall.intro; (focus (intro _ _; first | with_reducible exact breaker_New _ _ _ _ | with_reducible exact bucket_New _ _ _ _ _ _ | with_reducible exact label_Matcher _ _ ⟨3, r.name, []⟩ hn ⟨Nat.zero_le _⟩ | with_reducible exact backoff_Right _ _ _ _ _)); try simp [*])
    | (with_reducible apply FnRet.use; (focus (first | with_reducible exact breaker_New _ _ _ _ | with_reducible exact bucket_New _ _ _ _ _ _ | with_reducible exact label_Matcher _ _ ⟨3, r.name, []⟩ hn ⟨Nat.zero_le _⟩ | with_reducible exact backoff_Right _ _ _ _ _)); try simp [*]))
  all_goals simp only [has_right, breakerRight_new, bucketRight_new] at *
  all_goals simp_all [Receiver.right, -Int.not_le, -Int.not_lt]
  all_goals (rw [Bool.eq_iff_iff]; simp_all)
theorem config_place1 (d : Nat) (h : PHeap) (r : Receiver) (name : Str) : FnRet Tryz.prog d 116 [r.pv, .iptr [.str name]] h (.bool (decide (r.name = name))) := by
  refine FnSpec.walk mixed (fun _ => false) (keyHere (d + 1)) Tryz.func116 rfl rfl rfl (by decide) rfl rfl (fun c0 => ?_)
  simp
  repeat' (first
    | (with_reducible apply goIf.decide <;> (intro _; try simp [*]))
    | (with_reducible apply goIf.intro <;> (intro _; try simp [*]))
    | with_reducible apply And.intro)
  all_goals simp_all [-Int.not_le, -Int.not_lt]
theorem config_isRoute1 (d : Nat) (h : PHeap) (m : Matcher) (hn : Fits m.name) (hv : Fits m.value) : FnRet Tryz.prog d 119 [m.pv] h (.bool (!m.right)) := by
  refine FnSpec.walk mixed (fun _ => false) (keyHere (d + 1)) Tryz.func119 rfl rfl rfl (by decide) rfl rfl (fun c0 => ?_)
  simp
  repeat' (first
    | (with_reducible apply goIf.decide <;> (intro _; try simp [*]))
    | (with_reducible apply goIf.intro <;> (intro _; try simp [*]))
    | with_reducible apply And.intro
    | (with_reducible apply goDCall.intro; (focus (intro _ _; first | with_reducible exact label_Matcher _ _ _ hn hv)); try simp [*])
    | (with_reducible apply FnRet.use; (focus (first | with_reducible exact label_Matcher _ _ _ hn hv)); try simp [*]))
  all_goals simp_all [-Int.not_le, -Int.not_lt]
@[simp] theorem zp_int : zeroP Tryz.prog 3 = some (.int .i64 0) := by kernel_rfl
theorem config_place (d : Nat) (h : PHeap) (room : Room) (rs : List Receiver) (name : Str) (hl : rs.length ≤ 9223372036854775807) : FnRet Tryz.prog d 69 [.list room (rs.map Receiver.pv), .str name] h (.int .i64 (placeOf rs name)) := by
  have hp : ∀ d h, FnRet Tryz.prog d 115 [.list room (rs.map Receiver.pv), .fn (.func 116) [] [.iptr [.str name]]] h (.int .i64 (placeOf rs name)) := fun d h => slices_IndexFunc_receiver d h room rs 116 [] [.iptr [.str name]] (fun r => decide (r.name = name)) hl fun c0 e _ => config_place1 _ _ e name
  refine FnSpec.walk mixed (fun _ => false) (keyHere (d + 1)) Tryz.func69 rfl rfl rfl (by decide) rfl rfl (fun c0 => ?_)
  simp [-Receiver.pv]
  repeat' (first
    | (with_reducible apply goIf.decide <;> (intro _; try simp [*, -Receiver.pv]))
    | (with_reducible apply goIf.intro <;> (intro _; try simp [*, -Receiver.pv]))
    | with_reducible apply And.intro
    | (with_reducible apply goDCall.intro; (focus (intro _ _; first | with_reducible exact hp _ _)); try simp [*, -Receiver.pv])
    | (with_reducible apply FnRet.use; (focus (first | with_reducible exact hp _ _)); try simp [*, -Receiver.pv]))
theorem config_isRoute (d : Nat) (h : PHeap) (r : Route) (n : Int) (hl : r.chain.length ≤ 9223372036854775807) (hl2 : r.asked.length ≤ 9223372036854775807) (hf : ∀ m ∈ r.asked, Fits m.name ∧ Fits m.value) : FnRet Tryz.prog d 72 [r.pv, .int .i64 n] h (.bool (r.right n)) := by
  have hp : ∀ d h, FnRet Tryz.prog d 118 [.list r.ra (r.asked.map Matcher.pv), .fn (.func 119) [] []] h (.bool (r.asked.any fun m => !m.right)) := fun d h => slices_ContainsFunc_matcher d h r.ra r.asked 119 [] [] (fun m => !m.right) hl2 fun c0 c1 e he => config_isRoute1 _ _ e (hf e he).1 (hf e he).2
  refine FnSpec.walk mixed (fun _ => false) (keyHere (d + 1)) Tryz.func72 rfl rfl rfl (by decide) rfl rfl (fun c0 => ?_)
  simp [-Matcher.pv]
  refine hLoop.walk mixed (Nat.succ_pos _) (fun _ => false) (keyHere (d + 1)) rfl (fun k σ => ∃ i v, i + k = r.chain.length ∧ σ.t 1 = .int .i64 n ∧ σ.t 2 = .iptr [.list r.rc (r.chain.map (.int .i64)), .list r.ra (r.asked.map Matcher.pv)] ∧ σ.t 5 = .mapr (d + 1, 9) v ∧ σ.t 11 = .list r.rc (r.chain.map (.int .i64)) ∧ σ.t 12 = .int .i64 r.chain.length ∧ σ.t 13 = .int .i64 i ∧ σ.h = (enterH d c0 h).set (d + 1, 9) (v, some (.map ((r.chain.take i).map metKey))) ∧ goodKeys n (r.chain.take i) = true) r.chain.length ⟨0, c0 (d + 1, 9) + 1, by simp [goodKeys_nil]⟩ ?_
  rintro k ⟨t, h'⟩ ⟨i, v, h1, h2, h3, h4, h5, h6, h7, h8, h9⟩
  simp only at h2 h3 h4 h5 h6 h7 h8
  subst h8
  simp [h2, h3, h4, h5, h6, h7, -Matcher.pv, -List.map_take]
  refine goIf.decide (fun hi => ?_) (fun hi => ?_)
  · have hall : goodKeys n r.chain = true := by rwa [List.take_of_length_le (by omega)] at h9
    simp [h2, h3, h4, h5, h6, h7, hi, -Matcher.pv]
    repeat' (first
      | (with_reducible apply goIf.decide <;> (intro _; try simp [*, h2, -Matcher.pv]))
      | (with_reducible apply goIf.intro <;> (intro _; try simp [*, h2, -Matcher.pv]))
      | with_reducible apply And.intro
      | (with_reducible apply goDCall.intro; (focus (intro _ _; first | with_reducible exact hp _ _)); try simp [*, h2, -Matcher.pv])
      | (with_reducible apply FnRet.use; (focus (first | with_reducible exact hp _ _)); try simp [*, h2, -Matcher.pv]))
    all_goals simp_all [Route.right, -Int.not_le, -Int.not_lt]
  · by_cases hm : r.chain[i] ∈ r.chain.take i
    · obtain ⟨q, hq1, hq2⟩ := find_some r.chain[i] (r.chain.take i) 0 hm
      have hbad := goodKeys_twice (n := n) hi hm
      simp [h2, h3, h4, h5, h6, h7, hi, hq1, hq2, -Matcher.pv, -findP, -List.map_take]
      repeat' (first
        | (with_reducible apply goIf.decide <;> (intro _; try simp [*, h2, h3, h4, h5, h6, h7, hi, hq1, hq2, -Matcher.pv, -findP, -List.map_take]))
        | (with_reducible apply goIf.intro <;> (intro _; try simp [*, h2, h3, h4, h5, h6, h7, hi, hq1, hq2, -Matcher.pv, -findP, -List.map_take]))
        | with_reducible apply And.intro)
      all_goals simp [Route.right, hbad]
    · have hn1 := find_none r.chain[i] (r.chain.take i) 0 hm
      have hn2 := fun y => find_last r.chain[i] y (r.chain.take i) 0 hm
      simp [h2, h3, h4, h5, h6, h7, hi, hn1, hn2, -Matcher.pv, -findP, -List.map_take]
      repeat' (first
        | (with_reducible apply goIf.decide <;> (intro _; try simp [*, h2, h3, h4, h5, h6, h7, hi, hn1, hn2, -Matcher.pv, -findP, -List.map_take]))
        | (with_reducible apply goIf.intro <;> (intro _; try simp [*, h2, h3, h4, h5, h6, h7, hi, hn1, hn2, -Matcher.pv, -findP, -List.map_take]))
        | with_reducible apply And.intro)
      all_goals first
        | (refine ⟨k - 1, by omega, i + 1, by omega, by rw [wrap64 (by omega) (by omega)]; simp, ?_, goodKeys_succ hi hm h9 (by omega) (by omega)⟩
           rw [List.take_succ_eq_append_getElem hi, List.map_append]
           rfl)
        | (have hbad := goodKeys_bad (n := n) hi (by omega)
           simp [Route.right, hbad])
end Go.Proofs.YtdclkdcgcfkopaaGreatDoor
namespace Go.Proofs.YtdclkdcgcfkopaaGreatDoor
open Go.Fh Go.Fog Go.RowKit

theorem config_Right1 (d : Nat) (h : PHeap) (c : Config) (r : Route) (hc : c.Fits) (hr : r.Fits) : FnRet Tryz.prog d 71 [r.pv, .iptr [.list c.rr (c.receivers.map Receiver.pv), .list c.rt (c.routes.map Route.pv), .int .i64 c.rep, .int .i64 c.beat]] h (.bool (!r.right c.receivers.length)) := by
  refine FnSpec.walk mixed (fun _ => false) (keyHere (d + 1)) Tryz.func71 rfl rfl rfl (by decide) rfl rfl (fun c0 => ?_)
  simp [-Receiver.pv, -Matcher.pv]
  repeat' (first
    | (with_reducible apply goIf.decide <;> (intro _; try simp [*, -Receiver.pv, -Matcher.pv]))
    | (with_reducible apply goIf.intro <;> (intro _; try simp [*, -Receiver.pv, -Matcher.pv]))
    | with_reducible apply And.intro
    | (with_reducible apply goDCall.intro; (focus (intro _ _; first | with_reducible exact config_isRoute _ _ r _ hr.chain hr.asked hr.each)); try simp [*, -Receiver.pv, -Matcher.pv])
    | (with_reducible apply FnRet.use; (focus (first | with_reducible exact config_isRoute _ _ r _ hr.chain hr.asked hr.each)); try simp [*, -Receiver.pv, -Matcher.pv]))

theorem config_Right (d : Nat) (h : PHeap) (c : Config) (hc : c.Fits) : FnRet Tryz.prog d 29 [c.pv] h (.bool c.right) := by
  have hp : ∀ d h, FnRet Tryz.prog d 70 [.list c.rt (c.routes.map Route.pv), .fn (.func 71) [] [.iptr [.list c.rr (c.receivers.map Receiver.pv), .list c.rt (c.routes.map Route.pv), .int .i64 c.rep, .int .i64 c.beat]]] h (.bool (c.routes.any fun r => !r.right c.receivers.length)) := fun d h => slices_ContainsFunc_route d h c.rt c.routes 71 [] _ (fun r => !r.right c.receivers.length) hc.routes fun c0 c1 e he => config_Right1 _ _ c e hc (hc.each e he)
  refine FnSpec.walk mixed (fun _ => false) (keyHere (d + 1)) Tryz.func29 rfl rfl rfl (by decide) rfl rfl (fun c0 => ?_)
  simp [-Receiver.pv, -Route.pv]
  refine hLoop.walk mixed (Nat.succ_pos _) (fun _ => false) (keyHere (d + 1)) rfl (fun k σ => ∃ i x, i + k = c.receivers.length ∧ σ.t 1 = .iptr [.list c.rr (c.receivers.map Receiver.pv), .list c.rt (c.routes.map Route.pv), .int .i64 c.rep, .int .i64 c.beat] ∧ σ.t 7 = .list c.rr (c.receivers.map Receiver.pv) ∧ σ.t 8 = .int .i64 c.receivers.length ∧ σ.t 9 = .int .i64 i ∧ σ.h = (enterH d c0 h).set (d + 1, 4) x ∧ recsOk (c.receivers.take i) = true) c.receivers.length ⟨0, enterH d c0 h (d + 1, 4), by simp [recsOk_nil, -Receiver.pv, -Route.pv]; funext q; simp only [PHeap.set]; split <;> simp_all⟩ ?_
  rintro k ⟨t, h'⟩ ⟨i, x, h1, h2, h3, h4, h5, h6, h7⟩
  simp only at h2 h3 h4 h5 h6
  subst h6
  simp [h2, h3, h4, h5, -Receiver.pv, -Route.pv]
  refine goIf.decide (fun hi => ?_) (fun hi => ?_)
  · have hall : recsOk c.receivers = true := by rwa [List.take_of_length_le (by omega)] at h7
    simp [h2, h3, h4, h5, hi, -Receiver.pv, -Route.pv]
    repeat' (first
      | (with_reducible apply goIf.decide <;> (intro _; try simp [*, h2, -Receiver.pv, -Route.pv]))
      | (with_reducible apply goIf.intro <;> (intro _; try simp [*, h2, -Receiver.pv, -Route.pv]))
      | with_reducible apply And.intro
      | (with_reducible apply goDCall.intro; (focus (intro _ _; first | with_reducible exact hp _ _ | with_reducible exact config_often _ _ _)); try simp [*, h2, -Receiver.pv, -Route.pv])
      | (with_reducible apply FnRet.use; (focus (first | with_reducible exact hp _ _ | with_reducible exact config_often _ _ _)); try simp [*, h2, -Receiver.pv, -Route.pv]))
    all_goals simp_all [Config.right, -Int.not_le, -Int.not_lt]
    all_goals (intro ha; obtain ⟨y, hy, hr⟩ := ‹∃ x, _›; rw [ha y hy] at hr; cases hr)
  · have hpl : ∀ d h, FnRet Tryz.prog d 69 [.list .any (List.take i (List.map Receiver.pv c.receivers)), .str c.receivers[i].name] h (.int .i64 (placeOf (c.receivers.take i) c.receivers[i].name)) := by
      intro d h
      rw [← List.map_take]
      exact config_place d h .any (c.receivers.take i) c.receivers[i].name (by rw [List.length_take]; have := hc.recs; omega)
    have hile : i ≤ c.receivers.length := Nat.le_of_lt hi
    simp [h2, h3, h4, h5, hi, hile, -Route.pv]
    repeat' (first
      | (with_reducible apply goIf.decide <;> (intro _; try simp [*, h2, h3, h4, h5, hi, hile, -Route.pv]))
      | (with_reducible apply goIf.intro <;> (intro _; try simp [*, h2, h3, h4, h5, hi, hile, -Route.pv]))
      | with_reducible apply And.intro
      | (with_reducible apply goDCall.intro; (focus (intro _ _; first | with_reducible exact config_isReceiver _ _ c.receivers[i] (hc.names _ (List.getElem_mem hi)) | with_reducible exact hpl _ _)); try simp [*, h2, h3, h4, h5, hi, hile, -Route.pv])
      | (with_reducible apply FnRet.use; (focus (first | with_reducible exact config_isReceiver _ _ c.receivers[i] (hc.names _ (List.getElem_mem hi)) | with_reducible exact hpl _ _)); try simp [*, h2, h3, h4, h5, hi, hile, -Route.pv]))
    · have hb := recsOk_bad hi (by assumption)
      simp [Config.right, hb]
    · exact ⟨k - 1, by omega, i + 1, by omega, by rw [wrap64 (by have := hc.recs; omega) (by have := hc.recs; omega)]; simp, ⟨_, _, rfl⟩, recsOk_succ hi h7 (by assumption) (by assumption)⟩
    · have hb := recsOk_twice hi (by assumption)
      simp [Config.right, hb]

theorem config_number (d : Nat) (h : PHeap) (s : Str) (hs : s.length ≤ 281474976710656) (hg : Glob h) : FnRet Tryz.prog d 142 [.str s] h (.tuple [.int .i64 (numOf s), .bool (numOk s)]) := by
  refine FnSpec.walk mixed (fun _ => false) (keyHere (d + 1)) Tryz.func142 rfl rfl rfl (by decide) rfl rfl (fun c0 => ?_)
  simp
  refine FnRet.use (lib_Atoi _ _ _ hs (by simpa using hg)) ?_
  cases ha : Lib.atoiAll s with
  | ok v =>
    have hb : tickRight v = true → -9223372036854775808 ≤ v ∧ v ≤ 9223372036854775807 := fun h => by simp [tickRight] at h; omega
    have hG : ∀ c, Glob (enterH d c h) := fun c => by simpa using hg
    simp [atoiPV, ha]
    repeat' (first
      | (with_reducible apply goIf.decide <;> (intro _; try simp [*, ha]))
      | (with_reducible apply goIf.intro <;> (intro _; try simp [*, ha]))
      | with_reducible apply And.intro
      | (with_reducible apply goDCall.intro; (focus (intro _ _; first | with_reducible exact tick_Right _ _ _ | with_reducible exact lib_Itoa _ _ v (hb (by assumption)).1 (hb (by assumption)).2 (hG _))); try simp [*, ha])
      | (with_reducible apply FnRet.use; (focus (first | with_reducible exact tick_Right _ _ _ | with_reducible exact lib_Itoa _ _ v (hb (by assumption)).1 (hb (by assumption)).2 (hG _))); try simp [*, ha]))
    all_goals simp_all [numOf, numOk]
  | «syntax» => simp [atoiPV, numOf, numOk, ha]
  | range => simp [atoiPV, numOf, numOk, ha]
end Go.Proofs.YtdclkdcgcfkopaaGreatDoor
namespace Go.Proofs.YtdclkdcgcfkopaaGreatDoor
open Go.Fh Go.Fog Go.RowKit

theorem config_time (d : Nat) (h : PHeap) (k : Key) (v : Nat) (s : Rd) (third : Bool) (hk : k.1 ≤ d) (hh : h k = (v, some (.cells s.cells))) (hw : ∀ w ∈ s.words, w.length ≤ 281474976710656) (hl : s.words.length ≤ 9223372036854775807) (hg : Glob h) :
    FnSpec Tryz.prog d 144 [.ptr k v 0, .ptr k v (if third = true then 3 else 2)] h fun po h' => po = .ret (.int .i64 (timeOf s.words).1) ∧
      h' = if (timeOf s.words).1 = 0 then h.set k (v, some (.cells (if third = true then { s with beat := (timeOf s.words).2 } else { s with rep := (timeOf s.words).2 } : Rd).cells)) else h := by
  refine FnSpec.walk mixed (fun _ => false) (keyHere (d + 1)) Tryz.func144 rfl rfl rfl (by decide) rfl rfl (fun c0 => ?_)
  have h1 := enterH_old (c := c0) (h := h) hk
  rw [hh] at h1
  have hG : ∀ c, Glob (enterH d c h) := fun c => by simpa using hg
  obtain ⟨recs, routes, rep, beat, words, ahead, rr, rt, rw'⟩ := s
  have hset := fun x => leave_set_old (d := d) (c := c0) (h := h) (k := k) (x := x) hk
  rcases words with _ | ⟨a, _ | ⟨w, _ | ⟨y, l⟩⟩⟩
  · simp [h1, timeOf, -Receiver.pv, -Route.pv]
  · simp [h1, timeOf, -Receiver.pv, -Route.pv]
  · have hwl := hw w (by simp)
    simp [h1, timeOf, -Receiver.pv, -Route.pv]
    cases third
    all_goals
      repeat' (first
        | (with_reducible apply goIf.decide <;> (intro _; try simp [*, h1, hset, -Receiver.pv, -Route.pv]))
        | (with_reducible apply goIf.intro <;> (intro _; try simp [*, h1, hset, -Receiver.pv, -Route.pv]))
        | with_reducible apply And.intro
        | (with_reducible apply goDCall.intro; (focus (intro _ _; first | with_reducible exact config_number _ _ w hwl (hG _) | with_reducible exact config_often _ _ _)); try simp [*, h1, hset, -Receiver.pv, -Route.pv])
        | (with_reducible apply FnRet.use; (focus (first | with_reducible exact config_number _ _ w hwl (hG _) | with_reducible exact config_often _ _ _)); try simp [*, h1, hset, -Receiver.pv, -Route.pv]))
  · have hne : ¬ ((l.length : Int) + 1 + 1 + 1 = 2) := by omega
    simp [h1, hne, timeOf, -Receiver.pv, -Route.pv]
theorem config_repeat (d : Nat) (h : PHeap) (k : Key) (v : Nat) (s : Rd) (hk : k.1 ≤ d) (hh : h k = (v, some (.cells s.cells))) (hw : ∀ w ∈ s.words, w.length ≤ 281474976710656) (hl : s.words.length ≤ 9223372036854775807) (hg : Glob h) :
    FnSpec Tryz.prog d 96 [.ptr k v 0] h fun po h' => po = .ret (.int .i64 (timeOf s.words).1) ∧
      h' = if (timeOf s.words).1 = 0 then h.set k (v, some (.cells (if false = true then { s with beat := (timeOf s.words).2 } else { s with rep := (timeOf s.words).2 } : Rd).cells)) else h := by
  refine FnSpec.walk mixed (fun _ => false) (keyHere (d + 1)) Tryz.func96 rfl rfl rfl (by decide) rfl rfl (fun c0 => ?_)
  have h1 := enterH_old (c := c0) (h := h) hk
  rw [hh] at h1
  have hset := fun x => leave_set_old (d := d) (c := c0) (h := h) (k := k) (x := x) hk
  simp [h1, -Receiver.pv, -Route.pv]
  refine (config_time (d + 1) (enterH d c0 h) k v s false (by omega) h1 hw hl (by simpa using hg)).mono ?_
  rintro _ _ ⟨rfl, rfl⟩
  by_cases h0 : (timeOf s.words).1 = 0
  · simp [h0, hset, -Receiver.pv, -Route.pv]
  · simp [h0, -Receiver.pv, -Route.pv]
theorem config_beat (d : Nat) (h : PHeap) (k : Key) (v : Nat) (s : Rd) (hk : k.1 ≤ d) (hh : h k = (v, some (.cells s.cells))) (hw : ∀ w ∈ s.words, w.length ≤ 281474976710656) (hl : s.words.length ≤ 9223372036854775807) (hg : Glob h) :
    FnSpec Tryz.prog d 97 [.ptr k v 0] h fun po h' => po = .ret (.int .i64 (timeOf s.words).1) ∧
      h' = if (timeOf s.words).1 = 0 then h.set k (v, some (.cells (if true = true then { s with beat := (timeOf s.words).2 } else { s with rep := (timeOf s.words).2 } : Rd).cells)) else h := by
  refine FnSpec.walk mixed (fun _ => false) (keyHere (d + 1)) Tryz.func97 rfl rfl rfl (by decide) rfl rfl (fun c0 => ?_)
  have h1 := enterH_old (c := c0) (h := h) hk
  rw [hh] at h1
  have hset := fun x => leave_set_old (d := d) (c := c0) (h := h) (k := k) (x := x) hk
  simp [h1, -Receiver.pv, -Route.pv]
  refine (config_time (d + 1) (enterH d c0 h) k v s true (by omega) h1 hw hl (by simpa using hg)).mono ?_
  rintro _ _ ⟨rfl, rfl⟩
  by_cases h0 : (timeOf s.words).1 = 0
  · simp [h0, hset, -Receiver.pv, -Route.pv]
  · simp [h0, -Receiver.pv, -Route.pv]
end Go.Proofs.YtdclkdcgcfkopaaGreatDoor
namespace Go.Proofs.YtdclkdcgcfkopaaGreatDoor
open Go.Fh Go.Fog Go.RowKit

theorem config_receiver (d : Nat) (h : PHeap) (k kr kt : Key) (v : Nat) (s : Rd) (hk : k.1 ≤ d) (hk0 : 0 < k.1) (hr1 : kr.1 ≤ d) (hr0 : 0 < kr.1) (hne : k ≠ kr) (hnt : kt ≠ kr) (hnk : kt ≠ k) (H : RdIn h k kr kt v s)
    (hn : s.recs.length ≤ 4) (hw : ∀ w ∈ s.words, w.length ≤ 281474976710656) (hl : s.words.length ≤ 4294967296) (hg : Glob h) :
    FnSpec Tryz.prog d 94 [.ptr k v 0] h fun po h' => po = .ret (.int .i64 (recvOf s.recs s.words).1) ∧ RdTo h h' k kr kt v s.words { s.core with recs := (recvOf s.recs s.words).2 } := by
  refine FnSpec.walkH mixed (fun _ => false) (fun n => if n = 88 then kr else (d + 1, n)) Tryz.func94 rfl rfl rfl (by decide) rfl rfl (fun c0 => ?_)
  have h1 := enterH_old (c := c0) (h := h) hk
  rw [H.at_] at h1
  have hG : ∀ c, Glob (enterH d c h) := fun c => by simpa using hg
  have quiet := H.quiet
  have hroom := H.recs
  obtain ⟨recs, routes, rep, beat, words, ahead, rr, rt, rw'⟩ := s
  simp only at hroom hn hw hl quiet h1
  simp [h1, -Receiver.pv, -Route.pv]
  have kne := key_ne hk
  have krne := key_ne hr1
  have hpl : ∀ d h nm, FnRet Tryz.prog d 69 [.list rr (recs.map Receiver.pv), .str nm] h (.int .i64 (placeOf recs nm)) := fun d h nm => config_place d h rr recs nm (by omega)
  by_cases c1 : recs.length = 4
  · simp [h1, c1, -Receiver.pv, -Route.pv]
    apply hPost.intro
    simp [recvOf, c1]
    exact quiet
  have c1' : ¬ ((recs.length : Int) = 4) := by omega
  by_cases c2 : words.length = 10
  case neg =>
    have c2' : ¬ ((words.length : Int) = 10) := by omega
    simp [h1, c1, c1', c2, c2', -Receiver.pv, -Route.pv]
    apply hPost.intro
    simp [recvOf, c1, c2]
    exact quiet
  obtain ⟨w0, nm, nums, rfl⟩ : ∃ w0 nm nums, words = w0 :: nm :: nums := by
    rcases words with _ | ⟨a, _ | ⟨b, l⟩⟩
    · simp at c2
    · simp at c2
    · exact ⟨a, b, l, rfl⟩
  have hnm : Fits nm := ⟨by have := hw nm (by simp); omega⟩
  have c3 : nums.length = 8 := by simpa using c2
  simp [h1, c1, c1', c3, -Receiver.pv, -Route.pv]
  apply goDCall.intro
  · intro _ _; exact hpl _ _ _
  simp [h1, c1, c1', c3, -Receiver.pv, -Route.pv]
  refine goIf.decide (fun c4 => ?_) (fun c4 => ?_)
  rotate_left
  · simp [h1, c1, c1', c3, c4, -Receiver.pv, -Route.pv]
    apply hPost.intro
    simp [recvOf, c1, c3, c4]
    exact quiet
  simp [h1, c1, c1', c3, c4, -Receiver.pv, -Route.pv]
  refine hLoop.walkW mixed (Nat.succ_pos _) (fun _ => false) (fun n => if n = 88 then kr else (d + 1, n)) rfl [2, 5, 6, 7, 8, 40, 41, 42, 43, 44, 45, 46, 47, 48, 49, 50, 51, 52, 53, 54, 55]
    (fun n σ => ∃ i, i + n = 8 ∧ σ.t 40 = .int .i64 i ∧ σ.h = (enterH d c0 h).set (d + 1, 4) (c0 (d + 1, 4) + 1, some (.cells (numCells nums i))) ∧ (nums.take i).all numOk = true) 8 ⟨0, by simp [numCells]⟩ ?_
  rintro n t h' hW ⟨i, i1, i2, i3, i4⟩
  simp only at i2 i3
  subst i3
  have ht8 : List.take 8 (List.map PV.str nums) = List.map PV.str nums := List.take_of_length_le (by simp; omega)
  have lv0 := hW 0 rfl; have lv3 := hW 3 rfl; have lv4 := hW 4 rfl; have lv38 := hW 38 rfl; have lv39 := hW 39 rfl
  simp [h1, c3, ht8, -Receiver.pv, -Route.pv] at lv0 lv3 lv4 lv38 lv39
  simp [i2, lv0, lv3, lv4, lv38, lv39, c3, -Receiver.pv, -Route.pv]
  refine goIf.decide (fun hi => ?_) (fun hi => ?_)
  · obtain rfl : i = 8 := by omega
    have hall : nums.all numOk = true := by rwa [List.take_of_length_le (by omega)] at i4
    have hnc : numCells nums 8 = nums.map fun s => .int .i64 (numOf s) := by simp [numCells, List.take_of_length_le, c3]
    obtain ⟨n0, n1, n2, n3, n4, n5, n6, n7, rfl⟩ : ∃ n0 n1 n2 n3 n4 n5 n6 n7, nums = [n0, n1, n2, n3, n4, n5, n6, n7] := by
      rcases nums with _ | ⟨n0, _ | ⟨n1, _ | ⟨n2, _ | ⟨n3, _ | ⟨n4, _ | ⟨n5, _ | ⟨n6, _ | ⟨n7, _ | ⟨n8, l⟩⟩⟩⟩⟩⟩⟩⟩⟩
      all_goals first | exact ⟨_, _, _, _, _, _, _, _, rfl⟩ | (exfalso; simp at c3)
    simp [i2, lv0, lv3, lv4, lv38, lv39, hnc, -Receiver.pv, -Route.pv]
    apply FnRet.use
    · exact config_isReceiver _ _ (mkReceiver nm ([n0, n1, n2, n3, n4, n5, n6, n7].map numOf)) (hnm)
    simp [i2, lv0, lv3, lv4, lv38, lv39, hnc, -Receiver.pv, -Route.pv]
    refine goIf.intro (fun hb => ?_) (fun hb => ?_)
    · simp [i2, lv0, lv3, lv4, lv38, lv39, hnc, hb, -Receiver.pv, -Route.pv]
      apply hPost.intro
      have c4' : ¬ 0 ≤ placeOf recs nm := c4
      simp [recvOf, c1, c4', hall, hb, -Int.not_le]
      exact quiet
    · have hr0' := hr0
      have hr1' : kr.1 ≤ d + 1 := by omega
      have hnz : kr.1 ≠ 0 := by omega
      have hn9 : recs.length + 1 ≤ 9223372036854775807 := by omega
      have hbig : (recs.length + 1) * 80 ≤ 140737488355328 := by omega
      rcases hroom with rfl | ⟨v', rfl, hv', hne'⟩
      rotate_left
      have hv'' : enterH d c0 h kr = (v', some .tok) := (enterH_old hr1).trans hv'
      rotate_left
      · simp [i2, lv0, lv3, lv4, lv38, lv39, hnc, hb, h1, kne, krne, appOk, hr0', hr1', hne, hnz, hn9, hbig, appP, appH, appRoom, roomDrop, roomP, leave_set_keep, leave_set_drop, hk, hr1, -Receiver.pv, -Route.pv]
        refine ⟨by omega, hPost.intro ?_⟩
        have c4' : ¬ 0 ≤ placeOf recs nm := c4
        simp [recvOf, c1, c4', hall, hb, -Int.not_le, -Receiver.pv, -Route.pv]
        exact RdTo.recv (recs' := recs ++ [mkReceiver nm [numOf n0, numOf n1, numOf n2, numOf n3, numOf n4, numOf n5, numOf n6, numOf n7]]) (by simp [mkReceiver]) hne hnt hnk H.routes (by simp)
      · simp [i2, lv0, lv3, lv4, lv38, lv39, hnc, hb, h1, kne, krne, appOk, hr0', hr1', hne, hnz, hn9, hbig, hne', hv'', appP, appH, appRoom, roomDrop, roomP, leave_set_keep, leave_set_drop, hk, hr1, -Receiver.pv, -Route.pv]
        refine ⟨by omega, hPost.intro ?_⟩
        have c4' : ¬ 0 ≤ placeOf recs nm := c4
        simp [recvOf, c1, c4', hall, hb, -Int.not_le, -Receiver.pv, -Route.pv]
        exact RdTo.recv (recs' := recs ++ [mkReceiver nm [numOf n0, numOf n1, numOf n2, numOf n3, numOf n4, numOf n5, numOf n6, numOf n7]]) (by simp [mkReceiver]) hne hnt hnk H.routes (by simp)
  · have hil : i < nums.length := by omega
    have hget : nums[i]? = some nums[i] := List.getElem?_eq_getElem hil
    simp [i2, lv0, lv3, lv4, lv38, lv39, c3, hil, hget, -Receiver.pv, -Route.pv]
    apply FnRet.use
    · exact config_number _ _ nums[i] (hw _ (by simp)) (Glob_set.2 (hG c0))
    simp [i2, lv0, lv3, lv4, lv38, lv39, c3, hil, hget, -Receiver.pv, -Route.pv]
    refine goIf.intro (fun hb => ?_) (fun hb => ?_)
    · simp [i2, lv0, lv3, lv4, lv38, lv39, c3, hil, hget, hb, -Receiver.pv, -Route.pv]
      apply hPost.intro
      have c4' : ¬ 0 ≤ placeOf recs nm := c4
      have hbad : nums.all numOk = false := all_bad hil hb
      simp [recvOf, c1, c3, c4', hbad, -Int.not_le]
      exact quiet
    · have hil' : (i : Int) < 8 := by omega
      have hlen : (numCells nums i).length = 8 := by simp [numCells]; omega
      have hilt : i + 1 ≤ 8 := by omega
      simp [i2, lv0, lv3, lv4, lv38, lv39, c3, hil, hget, hb, hil', hlen, hilt, -Receiver.pv, -Route.pv]
      apply hInv.intro
      refine ⟨by simp, n - 1, by omega, i + 1, by omega, ?_, ?_, List.all_eq_true.2 (all_take_succ hil i4 hb)⟩
      · simp [wrap64 (x := (i : Int) + 1) (by omega) (by omega)]
      · simp [numCells_step c3 hil]
end Go.Proofs.YtdclkdcgcfkopaaGreatDoor
namespace Go.Proofs.YtdclkdcgcfkopaaGreatDoor
open Go.Fh Go.Fog Go.RowKit

theorem lib_IndexByte (d : Nat) (h : PHeap) (s : Str) (c : Int) : FnRet Tryz.prog d 159 [.str s, .int .u8 c] h (.int .i64 (Lib.indexByte s c.toNat.toUInt8)) :=
  FnRet.of_below (enters Tryz.func159 (by decide) rfl) fun G w vs S R => by
    obtain ⟨u, v, rfl, h1, h2⟩ := R.of2
    rw [h1.str_inv, h2.int_inv]
    refine (Tryz.strings_IndexByte (mkStr s) c w).mono ?_
    rintro e w' ⟨rfl, rfl⟩
    exact ⟨Below.refl _ _, _, rfl, .int _ _⟩
theorem lib_ValidRune (d : Nat) (h : PHeap) (r : Int) : FnRet Tryz.prog d 160 [.int .i32 r] h (.bool (Lib.validRune r)) :=
  FnRet.of_below (enters Tryz.func160 (by decide) rfl) fun G w vs S R => by
    obtain ⟨u, rfl, h1⟩ := R.of1
    rw [h1.int_inv]
    refine (Tryz.utf8_ValidRune r w).mono ?_
    rintro e w' ⟨rfl, rfl⟩
    exact ⟨Below.refl _ _, _, rfl, .bool _⟩
theorem lib_shouldUse (d : Nat) (h : PHeap) (n : Int) : FnRet Tryz.prog d 127 [.int .i64 n] h (.bool (decide (n > 8))) :=
  FnRet.of_below (enters Tryz.func127 (by decide) rfl) fun G w vs S R => by
    obtain ⟨u, rfl, h1⟩ := R.of1
    rw [h1.int_inv]
    refine (Tryz.strings_shouldUseASCIISet n w).mono ?_
    rintro e w' ⟨rfl, rfl⟩
    exact ⟨Below.refl _ _, _, rfl, .bool _⟩
theorem lib_IndexAny_long (d : Nat) (h : PHeap) (s : Str) (h8 : 8 < s.length) (hs : s.length < 4294967281) : FnRet Tryz.prog d 81 [.str s, .str signs] h (.int .i64 (Lib.indexAny s signs)) :=
  FnRet.of_below (enters Tryz.func81 (by decide) rfl) fun G w vs S R => by
    rw [R.str2]
    refine (Tryz.strings_IndexAny_long (fun w => by kernel_rfl) (mkStr s) (mkStr signs) w (by decide) (by simpa using h8) (by simpa using hs) (by decide) (fun j b hb => ?_)).mono ?_
    · have hm := List.mem_of_getElem? hb
      simp [signs] at hm
      rcases hm with rfl | rfl | rfl | rfl <;> decide
    · rintro e w' ⟨rfl, rfl⟩
      exact ⟨(below_alloc w _).trans ((below_alloc _ _).mono (by simp)), _, rfl, .int _ _⟩

theorem IndexRune_ascii (d : Nat) (h : PHeap) (r : Int) (h0 : 0 ≤ r) (h1 : r < 128) : FnRet Tryz.prog d 126 [.str signs, .int .i32 r] h (.int .i64 (Lib.indexByte signs r.toNat.toUInt8)) := by
  refine FnSpec.walk mixed (fun _ => false) (keyHere (d + 1)) Tryz.func126 rfl rfl rfl (by decide) rfl rfl (fun c0 => ?_)
  have hw : IntKind.u8.wrap r = r := wrap8 h0 (by omega)
  simp [h0, h1]
  apply FnRet.use
  · exact lib_IndexByte _ _ _ _
  simp [hw]

theorem IndexRune_high (d : Nat) (h : PHeap) (r : Int) (h0 : 128 ≤ r) : FnRet Tryz.prog d 126 [.str signs, .int .i32 r] h (.int .i64 (-1)) := by
  refine FnSpec.walk mixed (fun _ => false) (keyHere (d + 1)) Tryz.func126 rfl rfl rfl (by decide) rfl rfl (fun c0 => ?_)
  have h1 : ¬ r < 128 := by omega
  have h2 : 0 ≤ r := by omega
  simp [h1, h2]
  refine goIf.decide (fun h3 => ?_) (fun h3 => ?_)
  · simp [h1, h2, h3]
    apply FnRet.use
    · exact lib_ValidRune _ _ _
    simp [h1, h2, h3]
    refine goIf.intro (fun hv => ?_) (fun hv => ?_)
    · simp [h1, h2, h3, hv]
    · obtain ⟨bs, x, hbs, hx, hl1, hl2⟩ := encode_high h0 hv
      simp [h1, h2, h3, hv]
      apply hE.scope mixed (pos1 d) rfl
      have hne : ∀ b ∈ signs, b ≠ x := by
        intro b hb e
        subst e
        simp [signs] at hb
        rcases hb with rfl | rfl | rfl | rfl <;> simp at hx
      have h61 : ¬ ((33 : Int) = x.toNat) := by omega
      have h94 : ¬ ((94 : Int) = x.toNat) := by omega
      have h63 : ¬ ((63 : Int) = x.toNat) := by omega
      have hmiss : ∀ k, Lib.indexByte (List.drop k signs) x = -1 := fun k => indexByte_miss fun b hb => hne b (List.mem_of_mem_drop hb)
      have hx2 : (x.toNat : Int).toNat.toUInt8 = x := by simp
      obtain ⟨p, hp1, hp2⟩ : ∃ p : Nat, bs.length = p ∧ (p = 1 ∨ p = 2 ∨ p = 3) := ⟨_, rfl, by omega⟩
      have hlast : (bs ++ [x])[p]? = some x := by rw [← hp1]; simp
      have hlen : (bs ++ [x]).length = p + 1 := by simp [hp1]
      have hwp : IntKind.i64.wrap (p : Int) = p := wrap64 (by omega) (by omega)
      simp [hbs, hp1, hwp]
      refine hLoop.walkW mixed (pos1 d) (fun _ => false) (keyHere (d + 1)) rfl [4, 9, 10, 11, 12, 23, 24, 25, 26, 27, 28, 29, 30, 31, 32, 33, 34, 35, 36, 37, 38, 39, 40, 41, 42, 43, 44, 45, 46, 47, 48, 49, 50, 51, 52, 53, 54, 55, 56, 57, 58, 59, 60, 61, 62, 63, 64, 65, 66, 67, 68, 69, 70, 71, 72, 73, 74, 75, 76, 77, 78, 79, 80, 81, 82, 83, 84, 85, 86, 87, 88, 89, 90, 91, 92, 93, 94, 95, 96, 97, 98] (fun n σ => σ.t 9 = .int .i64 p ∧ σ.h = enterH d c0 h) 0 (by simp [hwp]) ?_
      rintro n t h' hW ⟨i1, i2⟩
      simp only at i1 i2
      subst i2
      have lv0 := hW 0 rfl; have lv1 := hW 1 rfl; have lv7 := hW 7 rfl; have lv8 := hW 8 rfl
      simp [hwp] at lv0 lv1 lv7 lv8
      have hp4 : (p : Int) < 4 := by omega
      have hsl : (signs.length : Int) = 4 := rfl
      simp [lv0, lv1, lv7, lv8, i1, hsl, hp4]
      apply hE.scope mixed (pos1 d) rfl
      have e2 : Lib.indexByte [94, 63] x = -1 := hmiss 2
      have e3 : Lib.indexByte [63] x = -1 := hmiss 3
      have e4 : Lib.indexByte [] x = -1 := rfl
      rcases hp2 with rfl | rfl | rfl
      all_goals
        simp [lv0, lv1, lv7, lv8, i1, hlast, signs, h61, h94, h63]
        apply goDCall.intro
        · intro _ _; exact lib_IndexByte _ _ _ _
        simp [hx2, e2, e3, e4]
  · subst h3
    simp
    refine hLoop.walkW mixed (pos1 d) (fun _ => false) (keyHere (d + 1)) rfl [4, 5, 6, 176, 177, 178, 179, 180, 181, 182] (fun n σ => ∃ i, i + n = 4 ∧ σ.h = (enterH d c0 h).set (d + 1, 175) (c0 (d + 1, 175) + 1, some (.iter signs i))) 4 ⟨0, by simp⟩ ?_
    rintro n t h' hW ⟨i, i1, i2⟩
    simp only at i2
    subst i2
    have lv0 := hW 0 rfl; have lv1 := hW 1 rfl; have lv175 := hW 175 rfl
    simp at lv0 lv1 lv175
    by_cases hi : i < 4
    · have hd : Utf8.decode (mkStr signs) i = (signs[i].toNat, 1) := by
        have : i = 0 ∨ i = 1 ∨ i = 2 ∨ i = 3 := by omega
        rcases this with rfl | rfl | rfl | rfl <;> rfl
      have hlt : ¬ ((signs[i].toNat : Int) = 65533) := by have := signs[i].toNat_lt; omega
      have hls : i < signs.length := hi
      simp [lv0, lv1, lv175, hls, hd, hlt]
      apply hInv.intro
      exact ⟨by simp, n - 1, by omega, i + 1, by omega, by simp⟩
    · have hls : ¬ i < signs.length := hi
      simp [lv0, lv1, lv175, hls]

theorem IndexAny_signs (d : Nat) (h : PHeap) (s : Str) (hs : s.length < 4294967281) : FnRet Tryz.prog d 81 [.str s, .str signs] h (.int .i64 (indexF isSign s)) := by
  by_cases h8 : 8 < s.length
  · have := lib_IndexAny_long d h s h8 hs
    rwa [indexAny_signs] at this
  refine FnSpec.walk mixed (fun _ => false) (keyHere (d + 1)) Tryz.func81 rfl rfl rfl (by decide) rfl rfl (fun c0 => ?_)
  have hsl : ¬ (signs = []) := by decide
  have hsl2 : (signs.length : Int) = 4 := rfl
  have hlt : ¬ ((s.length : Int) > 8) := by omega
  simp [hsl, hsl2]
  apply FnRet.use
  · exact lib_shouldUse _ _ _
  simp [hlt]
  refine hLoop.walkW mixed (pos1 d) (fun _ => false) (keyHere (d + 1)) rfl [4, 9, 10, 46, 47, 48, 49, 50, 51, 52, 53, 54] (fun n σ => ∃ i, i + n = s.length ∧ σ.h = (enterH d c0 h).set (d + 1, 45) (c0 (d + 1, 45) + 1, some (.iter s i)) ∧ NoSign s i) s.length ⟨0, by simp, by simp, Nat.zero_le _, fun j b hj => by omega⟩ ?_
  rintro n t h' hW ⟨i, i1, i2, i3⟩
  simp only at i2
  subst i2
  have lv1 := hW 1 rfl; have lv45 := hW 45 rfl
  simp at lv1 lv45
  by_cases hi : i < s.length
  · rcases decode_cases s i hi with ⟨hb, hd⟩ | ⟨hb, hd1, hd2⟩
    · have hs8 : (s[i].toNat : Int).toNat.toUInt8 = s[i] := by simp
      simp [lv1, lv45, hi, hd]
      apply FnRet.use
      · exact IndexRune_ascii _ _ _ (by omega) (by omega)
      simp [lv1, lv45, hi, hd, hs8]
      rw [indexByte_sign]
      refine goIf.intro (fun hx => ?_) (fun hx => ?_)
      · simp [lv1, lv45, hi, hd, hs8]
        apply hInv.intro
        exact ⟨by simp, n - 1, by omega, i + 1, by omega, by simp, i3.step hi hx⟩
      · simp [i3.hit hi hx]
    · have hmax := decode_max s i hi hb
      simp [lv1, lv45, hi]
      apply FnRet.use
      · exact IndexRune_high _ _ _ (by omega)
      simp [lv1, lv45, hi]
      apply hInv.intro
      exact ⟨by simp, n - (Utf8.decode (mkStr s) i).2, by omega, i + (Utf8.decode (mkStr s) i).2, by omega, by simp, i3.jump hi hb⟩
  · obtain rfl : i = s.length := by have := i3.1; omega
    simp [lv1, lv45, i3.end]

theorem wire_Asked (d : Nat) (h : PHeap) (s : Str) (hs : s.length < 4294967281) : FnRet Tryz.prog d 33 [.str s] h (match askedOf s with
    | some m => .tuple [m.pv, .int .i64 0]
    | none => .tuple [.agg [.int .i64 0, .str [], .str []], .int .i64 13]) := by
  refine FnSpec.walk mixed (fun _ => false) (keyHere (d + 1)) Tryz.func33 rfl rfl rfl (by decide) rfl rfl (fun c0 => ?_)
  simp
  apply FnRet.use
  · exact IndexAny_signs _ _ _ hs
  simp
  have hidx : ∀ i, s.findIdx? isSign = some i → indexF isSign s = (i : Int) ∧ i < s.length := fun i hi => ⟨by simp [indexF, hi], (List.findIdx?_eq_some_iff_getElem.1 hi).1⟩
  cases hf : s.findIdx? isSign with
  | none =>
    have : indexF isSign s = -1 := by simp [indexF, hf]
    simp [this, askedOf, hf]
  | some i =>
    obtain ⟨hi, hlt⟩ := hidx i hf
    have hi1 : IntKind.i64.wrap ((i : Int) + 1) = i + 1 := wrap64 (by omega) (by omega)
    have hg : s[i]? = some s[i] := List.getElem?_eq_getElem hlt
    have hgd : s.getD i 0 = s[i] := by simp [hg]
    have hw8 : IntKind.i32.wrap (s[i].toNat : Int) = s[i].toNat := wrap32 (by omega) (by have := s[i].toNat_lt; omega)
    have hile : i ≤ s.length := by omega
    have hile1 : (i : Int) + 1 ≤ s.length := by omega
    have h0i : (0 : Int) ≤ (i : Int) + 1 := by omega
    have hin : ¬ ((i : Int) < 0) := by omega
    simp [hi, hi1, hg, hw8, hlt, hile, hile1, h0i, hin]
    have eb : ∀ c : UInt8, ((s[i].toNat : Int) = c.toNat) = (s[i] = c) := fun c => propext ⟨fun e => UInt8.toNat_inj.1 (by omega), fun e => by rw [e]⟩
    have e61 : ((s[i].toNat : Int) = 61) = (s[i] = 61) := eb 61
    have e33 : ((s[i].toNat : Int) = 33) = (s[i] = 33) := eb 33
    have e94 : ((s[i].toNat : Int) = 94) = (s[i] = 94) := eb 94
    have hn : Fits (s.take i) := ⟨by simp; omega⟩
    have hv : Fits (s.drop (i + 1)) := ⟨by simp; omega⟩
    have fin : askedOf s = if (⟨kindOf s[i], s.take i, s.drop (i + 1)⟩ : Matcher).right = true then some ⟨kindOf s[i], s.take i, s.drop (i + 1)⟩ else none := by simp [askedOf, hf, askedAt, hgd, hg]
    rw [fin]
    simp only [e61, e33, e94]
    repeat' (first
      | (with_reducible apply goIf.decide <;> (intro _; try simp [*, e61, e33, e94, kindOf, hi, hi1, hg, hw8, hlt, hile, hile1, h0i, hin]))
      | (with_reducible apply goIf.intro <;> (intro _; try simp [*, e61, e33, e94, kindOf, hi, hi1, hg, hw8, hlt, hile, hile1, h0i, hin]))
      | with_reducible apply And.intro
      | (with_reducible apply goDCall.intro; (focus (intro _ _; first | with_reducible exact label_Matcher _ _ ⟨0, s.take i, s.drop (i + 1)⟩ hn hv | with_reducible exact label_Matcher _ _ ⟨1, s.take i, s.drop (i + 1)⟩ hn hv | with_reducible exact label_Matcher _ _ ⟨2, s.take i, s.drop (i + 1)⟩ hn hv | with_reducible exact label_Matcher _ _ ⟨3, s.take i, s.drop (i + 1)⟩ hn hv)); try simp [*, e61, e33, e94, kindOf, hi, hi1, hg, hw8, hlt, hile, hile1, h0i, hin])
      | (with_reducible apply FnRet.use; (focus (first | with_reducible exact label_Matcher _ _ ⟨0, s.take i, s.drop (i + 1)⟩ hn hv | with_reducible exact label_Matcher _ _ ⟨1, s.take i, s.drop (i + 1)⟩ hn hv | with_reducible exact label_Matcher _ _ ⟨2, s.take i, s.drop (i + 1)⟩ hn hv | with_reducible exact label_Matcher _ _ ⟨3, s.take i, s.drop (i + 1)⟩ hn hv)); try simp [*, e61, e33, e94, kindOf, hi, hi1, hg, hw8, hlt, hile, hile1, h0i, hin]))

end Go.Proofs.YtdclkdcgcfkopaaGreatDoor
namespace Go.Proofs.YtdclkdcgcfkopaaGreatDoor
open Go.Fh Go.Fog Go.RowKit

theorem config_route (d : Nat) (h : PHeap) (k kr kt : Key) (v : Nat) (s : Rd) (hk : k.1 ≤ d) (hk0 : 0 < k.1) (hr1 : kt.1 ≤ d) (hr0 : 0 < kt.1) (hne : k ≠ kt) (hnt : kr ≠ kt) (hnk : kr ≠ k) (H : RdIn h k kr kt v s)
    (hrl : s.recs.length ≤ 4) (hn : s.routes.length ≤ 4) (hw : ∀ w ∈ s.words, w.length < 4294967281) (hl0 : 1 ≤ s.words.length) (hl : s.words.length ≤ 4294967296) :
    FnSpec Tryz.prog d 95 [.ptr k v 0] h fun po h' => po = .ret (.int .i64 (routeOf s.recs (s.routes.map Route.plain) s.words).1) ∧ RdTo h h' k kr kt v s.words { s.core with routes := (routeOf s.recs (s.routes.map Route.plain) s.words).2 } := by
  refine FnSpec.walkH mixed (fun _ => false) (fun n => if n = 101 then kt else (d + 1, n)) Tryz.func95 rfl rfl rfl (by decide) rfl rfl (fun c0 => ?_)
  have h1 := enterH_old (c := c0) (h := h) hk
  rw [H.at_] at h1
  have quiet := H.quiet
  have hroom := H.routes
  have kne := key_ne hk
  have krne := key_ne hr1
  obtain ⟨recs, routes, rep, beat, words, ahead, rr, rt, rw'⟩ := s
  simp only at hroom hrl hn hw hl0 hl quiet h1
  obtain ⟨w0, ws, rfl⟩ : ∃ w0 ws, words = w0 :: ws := by
    rcases words with _ | ⟨a, l⟩
    · simp at hl0
    · exact ⟨a, l, rfl⟩
  have hpl : ∀ d h nm, FnRet Tryz.prog d 69 [.list rr (recs.map Receiver.pv), .str nm] h (.int .i64 (placeOf recs nm)) := fun d h nm => config_place d h rr recs nm (by omega)
  have hws : (1 : Int) ≤ ws.length + 1 := by omega
  have hwl : ws.length ≤ 4294967296 := by simp at hl; omega
  have hix : (fun e => decide (wIf = e)) = fun x : Str => decide (x = wIf) := by funext x; simp only [eq_comm]
  simp [h1, hws, -Receiver.pv, -Route.pv]
  apply FnRet.use
  · exact slices_Index_str _ _ _ ws wIf (by omega)
  rw [hix]
  simp [h1, -Receiver.pv, -Route.pv]
  by_cases c1 : routes.length = 4
  · simp [h1, c1, -Receiver.pv, -Route.pv]
    apply hPost.intro
    simp [routeOf, c1]
    exact quiet
  have c1' : ¬ ((routes.length : Int) = 4) := by omega
  simp [h1, c1, c1', -Receiver.pv, -Route.pv]
  cases hf : ws.findIdx? (fun x => decide (x = wIf)) with
  | none =>
    have hi : indexF (fun x => decide (x = wIf)) ws = -1 := by simp [indexF, hf]
    simp [hi, -Receiver.pv, -Route.pv]
    apply hPost.intro
    simp [routeOf, c1, hf]
    exact quiet
  | some at_ =>
  have hi : indexF (fun x => decide (x = wIf)) ws = at_ := by simp [indexF, hf]
  have hat : at_ < ws.length := (List.findIdx?_eq_some_iff_getElem.1 hf).1
  have hin : ¬ ((at_ : Int) < 0) := by omega
  have hw1 : IntKind.i64.wrap (1 + (at_ : Int)) = 1 + at_ := wrap64 (by omega) (by omega)
  have hw2 : IntKind.i64.wrap (2 + (at_ : Int)) = 2 + at_ := wrap64 (by omega) (by omega)
  have b1 : (1 : Int) + at_ ≤ ws.length + 1 := by omega
  have b2 : (2 : Int) + at_ ≤ ws.length + 1 := by omega
  have t1 : ((1 : Int) + at_).toNat = at_ + 1 := by omega
  have t2 : ((2 : Int) + at_).toNat = at_ + 2 := by omega
  have p1 : (0 : Int) ≤ 1 + at_ := by omega
  have p2 : (0 : Int) ≤ 2 + at_ := by omega
  have q1 : (1 : Int) ≤ (at_ : Int) + 1 := by omega
  simp [h1, hi, hin, hw1, hw2, b1, b2, t1, t2, p1, p2, q1, kne, -Receiver.pv, -Route.pv]
  have hmin : min at_ ws.length = at_ := by omega
  have hmap : List.take at_ (List.map PV.str ws) = (ws.take at_).map .str := by rw [List.map_take]
  have hmap2 : List.drop (at_ + 1) (List.map PV.str ws) = (ws.drop (at_ + 1)).map .str := by rw [List.map_drop]
  generalize hnames : ws.take at_ = names at hmap
  have hnl : names.length = at_ := by rw [← hnames]; simp; omega
  simp only [hmap, hmin]
  refine hLoop.walkW mixed (pos1 d) (fun _ => false) (fun n => if n = 101 then kt else (d + 1, n)) rfl [2, 6, 7, 37, 38, 39, 40, 41, 42, 43, 44, 45, 46, 47, 48, 49, 50, 51, 52, 53, 54, 55, 56]
    (fun n σ => ∃ i rc, i + n = at_ ∧ σ.t 37 = .int .i64 i ∧ Own d σ.h (enterH d c0 h) ∧ σ.h (d + 1, 4) = (c0 (d + 1, 4) + 1, some (.cells [.list rc ((names.take i).map fun x => .int .i64 (placeOf recs x)), .list .full []])) ∧ RoomOk σ.h (d + 1, 54) 1 (names.take i) rc ∧ (names.take i).all (fun x => decide (0 ≤ placeOf recs x)) = true) at_
    ⟨0, .full, by simp, by simp, by simp [Own.refl], by simp, .inl rfl, by simp⟩ ?_
  rintro n t h' hW ⟨i, rc, i1, i2, i3, i4, i5, i6⟩
  simp only at i2 i3 i4 i5
  have lv0 := hW 0 rfl; have lv3 := hW 3 rfl; have lv4 := hW 4 rfl; have lv35 := hW 35 rfl; have lv36 := hW 36 rfl
  simp [-Receiver.pv, -Route.pv] at lv0 lv3 lv4 lv35 lv36
  have hk' : h' k = (v, some (.cells [.list rr (recs.map Receiver.pv), .list rt (routes.map Route.pv), .int .i64 rep, .int .i64 beat, .list rw' ((w0 :: ws).map .str), .str ahead])) := (i3.at hk).trans H.at_
  simp [i2, lv0, lv3, lv4, lv35, lv36, -Receiver.pv, -Route.pv]
  refine goIf.decide (fun hi => ?_) (fun hi => ?_)
  · obtain rfl : i = at_ := by omega
    have hall : names.all (fun x => decide (0 ≤ placeOf recs x)) = true := by rwa [List.take_of_length_le (by omega)] at i6
    rw [List.take_of_length_le (by omega)] at i4
    clear i5 i6 i2
    generalize hkeys : names.map (placeOf recs) = keys
    have hkm : (names.map fun x => PV.int .i64 (placeOf recs x)) = keys.map (.int .i64) := by rw [← hkeys, List.map_map]; rfl
    have hkl : keys.length = i := by rw [← hkeys]; simp [hnl]
    rw [hkm] at i4
    clear hkm
    simp [lv0, lv3, lv4, lv35, lv36, i4, hk', hw2, b2, t2, p2, -Receiver.pv, -Route.pv]
    simp only [hmap2]
    have hrl2 : ws.length - (i + 1) = (ws.drop (i + 1)).length := by simp
    rw [hrl2]
    generalize hrest : ws.drop (i + 1) = rest
    have hrw : ∀ x ∈ rest, x.length < 4294967281 := by rw [← hrest]; intro x hx; exact hw x (List.mem_cons_of_mem _ (List.mem_of_mem_drop hx))
    have hrlen : rest.length ≤ 4294967296 := by rw [← hrest]; simp; omega
    refine hLoop.walkW mixed (pos1 d) (fun _ => false) (fun n => if n = 101 then kt else (d + 1, n)) rfl [2, 9, 10, 11, 65, 66, 67, 68, 69, 70, 71, 72, 73, 74, 75, 76, 77, 78, 79, 80, 81, 82, 83]
      (fun n σ => ∃ j ra, j + n = rest.length ∧ σ.t 65 = .int .i64 j ∧ Own d σ.h (enterH d c0 h) ∧ σ.h (d + 1, 4) = (c0 (d + 1, 4) + 1, some (.cells [.list rc (keys.map (.int .i64)), .list ra (((rest.take j).filterMap askedOf).map Matcher.pv)])) ∧ RoomOk σ.h (d + 1, 81) 3 ((rest.take j).filterMap askedOf) ra ∧ (rest.take j).all (fun x => (askedOf x).isSome) = true) rest.length
      ⟨0, .full, by simp, by simp, by simp [i3], by simp [i4], .inl rfl, by simp⟩ ?_
    rintro n t' h'' hV ⟨j, ra, j1, j2, j3, j4, j5, j6⟩
    simp only at j2 j3 j4 j5
    have lw0 := hV 0 rfl; have lw4 := hV 4 rfl; have lw63 := hV 63 rfl; have lw64 := hV 64 rfl
    simp [lv0, lv3, lv4, lv35, lv36, -Receiver.pv, -Route.pv] at lw0 lw4 lw63 lw64
    have hk'' : h'' k = (v, some (.cells [.list rr (recs.map Receiver.pv), .list rt (routes.map Route.pv), .int .i64 rep, .int .i64 beat, .list rw' ((w0 :: ws).map .str), .str ahead])) := (j3.at hk).trans H.at_
    simp [j2, lw0, lw4, lw63, lw64, -Receiver.pv, -Route.pv]
    refine goIf.decide (fun hj => ?_) (fun hj => ?_)
    · obtain rfl : j = rest.length := by omega
      rw [List.take_of_length_le (Nat.le_refl _)] at j4 j6
      have hml : (rest.filterMap askedOf).length ≤ rest.length := List.length_filterMap_le _ _
      generalize hms : rest.filterMap askedOf = ms at *
      simp [lw0, lw4, lw63, lw64, j4, hk'', kne, -Receiver.pv, -Route.pv]
      have hfit : ∀ m ∈ ms, Fits m.name ∧ Fits m.value := by
        intro m hm
        rw [← hms] at hm
        obtain ⟨x, hx, he⟩ := List.mem_filterMap.1 hm
        exact askedOf_fits he (by have := hrw x hx; omega)
      have hir : ∀ d h, FnRet Tryz.prog d 72 [.agg [.list rc (keys.map (.int .i64)), .list ra (ms.map Matcher.pv)], .int .i64 recs.length] h (.bool ((mkRoute keys ms).right recs.length)) := fun d h => config_isRoute d h ⟨keys, ms, rc, ra⟩ recs.length (by simp only; omega) (by simp only; omega) hfit
      have hro : routeOf recs (routes.map Route.plain) (w0 :: ws) = if (mkRoute keys ms).right recs.length = true then (0, routes.map Route.plain ++ [mkRoute keys ms]) else (3, routes.map Route.plain) := by
        simp only [routeOf, List.length_map, c1, if_false, List.drop_succ_cons, List.drop_zero, hf, hnames, hall, hrest, j6, hkeys, hms, Bool.true_eq_false]
      apply goDCall.intro
      · intro _ _; exact hir _ _
      simp [lw0, lw4, lw63, lw64, j4, hk'', kne, -Receiver.pv, -Route.pv]
      refine goIf.intro (fun hb => ?_) (fun hb => ?_)
      · simp [lw0, lw4, lw63, lw64, j3.leave, -Receiver.pv, -Route.pv]
        apply hPost.intro
        rw [hro, hb]
        exact ⟨rfl, quiet⟩
      · have hr1' : kt.1 ≤ d + 1 := by omega
        have hnz : kt.1 ≠ 0 := by omega
        have hn9 : routes.length + 1 ≤ 9223372036854775807 := by omega
        have hbig : (routes.length + 1) * 48 ≤ 140737488355328 := by omega
        have hkt : h'' kt = h kt := j3.at hr1
        rcases hroom with rfl | ⟨v', rfl, hv', hne'⟩
        · simp [lw0, lw4, lw63, lw64, j4, hk'', kne, krne, appOk, hr0, hr1', hne, hnz, hn9, hbig, appP, appH, appRoom, roomDrop, roomP, leave_set_keep, leave_set_drop, hk, hr1, j3.leave, -Receiver.pv, -Route.pv]
          refine ⟨by omega, hPost.intro ?_⟩
          rw [hro, hb]
          exact ⟨rfl, RdTo.rout (routes' := routes ++ [⟨keys, ms, rc, ra⟩]) (by simp) hne hnt hnk H.recs (by simp) (by simp [mkRoute, Route.plain])⟩
        · simp [lw0, lw4, lw63, lw64, j4, hk'', kne, krne, appOk, hr0, hr1', hne, hnz, hn9, hbig, hkt, hv', hne', appP, appH, appRoom, roomDrop, roomP, leave_set_keep, leave_set_drop, hk, hr1, j3.leave, -Receiver.pv, -Route.pv]
          refine ⟨by omega, hPost.intro ?_⟩
          rw [hro, hb]
          exact ⟨rfl, RdTo.rout (routes' := routes ++ [⟨keys, ms, rc, ra⟩]) (by simp) hne hnt hnk H.recs (by simp) (by simp [mkRoute, Route.plain])⟩
    · have hjl : j < rest.length := by omega
      have hget : rest[j]? = some rest[j] := List.getElem?_eq_getElem hjl
      simp [j2, lw0, lw4, lw63, lw64, hjl, hget, hk'', -Receiver.pv, -Route.pv]
      apply FnRet.use
      · exact wire_Asked _ _ _ (hrw _ (List.getElem_mem hjl))
      cases ha : askedOf rest[j] with
      | none =>
        have hbad : rest.all (fun x => (askedOf x).isSome) = false := all_bad hjl (by simp [ha])
        simp [lw0, lw4, lw63, lw64, j3.leave, -Receiver.pv, -Route.pv]
        apply hPost.intro
        simp [routeOf, c1, hf, hnames, hall, hrest, hbad]
        exact quiet
      | some m =>
        have hwj : IntKind.i64.wrap ((j : Int) + 1) = j + 1 := wrap64 (by omega) (by omega)
        have htj : (rest.take (j + 1)).filterMap askedOf = (rest.take j).filterMap askedOf ++ [m] := by rw [List.take_succ_eq_append_getElem hjl, List.filterMap_append]; simp [ha]
        have hall' : (rest.take (j + 1)).all (fun x => (askedOf x).isSome) = true := List.all_eq_true.2 (all_take_succ hjl j6 (by simp [ha]))
        have hfl : ((rest.take j).filterMap askedOf).length ≤ j := Nat.le_trans (List.length_filterMap_le _ _) (by simp; omega)
        generalize (rest.take j).filterMap askedOf = ms at *
        have hbig : (ms.length + 1) * 40 ≤ 140737488355328 := by omega
        have hbig2 : ms.length + 1 ≤ 9223372036854775807 := by omega
        rcases j5 with rfl | ⟨v', rfl, hv', hne'⟩
        · simp [j2, lw0, lw4, lw63, lw64, j4, appOk, roomP, appP, appH, appRoom, roomDrop, hbig, hbig2, -Receiver.pv, -Route.pv]
          apply hInv.intro
          exact ⟨by simp, n - 1, by omega, j + 1, .tok (d + 1, 81) ((h'' (d + 1, 81)).1 + 1) 3, by omega, by simp [hwj], by simp [j3], by rw [htj]; simp, .inr ⟨_, rfl, by simp, by rw [htj]; simp⟩, hall'⟩
        · simp [j2, lw0, lw4, lw63, lw64, j4, appOk, roomP, appP, appH, appRoom, roomDrop, hbig, hbig2, hv', hne', -Receiver.pv, -Route.pv]
          apply hInv.intro
          exact ⟨by simp, n - 1, by omega, j + 1, .tok (d + 1, 81) (v' + 1 + 1) 3, by omega, by simp [hwj], by simp [j3], by rw [htj]; simp, .inr ⟨_, rfl, by simp, by rw [htj]; simp⟩, hall'⟩
  · have hil : i < names.length := by omega
    have hget : names[i]? = some names[i] := List.getElem?_eq_getElem hil
    simp [i2, lv0, lv3, lv4, lv35, lv36, hil, hget, hk', -Receiver.pv, -Route.pv]
    apply FnRet.use
    · exact hpl _ _ _
    simp [i2, lv0, lv3, lv4, lv35, lv36, hil, hget, hk', -Receiver.pv, -Route.pv]
    refine goIf.decide (fun hb => ?_) (fun hb => ?_)
    · have hwi : IntKind.i64.wrap ((i : Int) + 1) = i + 1 := wrap64 (by omega) (by omega)
      have hni : (names.take i).length = i := by simp; omega
      have hbig : (i + 1) * 8 ≤ 140737488355328 := by omega
      have hbig2 : i + 1 ≤ 9223372036854775807 := by omega
      have hall : (names.take (i + 1)).all (fun x => decide (0 ≤ placeOf recs x)) = true := List.all_eq_true.2 (all_take_succ hil i6 (by simpa using hb))
      have hnn := take_succ_ne hil
      rcases i5 with rfl | ⟨v', rfl, hv', hne'⟩
      · simp [i2, lv0, lv3, lv4, lv35, lv36, i4, appOk, roomP, appP, appH, appRoom, roomDrop, hbig, hbig2, hni, -List.map_take, -Receiver.pv, -Route.pv]
        apply hInv.intro
        exact ⟨by simp, n - 1, by omega, i + 1, .tok (d + 1, 54) ((h' (d + 1, 54)).1 + 1) 1, by omega, by simp [hwi], by simp [i3], by rw [List.take_succ_eq_append_getElem hil]; simp [-List.map_take, -List.take_append_getElem], .inr ⟨_, rfl, by simp, hnn⟩, hall⟩
      · simp [i2, lv0, lv3, lv4, lv35, lv36, i4, appOk, roomP, appP, appH, appRoom, roomDrop, hbig, hbig2, hni, hv', hne', -List.map_take, -Receiver.pv, -Route.pv]
        apply hInv.intro
        exact ⟨by simp, n - 1, by omega, i + 1, .tok (d + 1, 54) (v' + 1 + 1) 1, by omega, by simp [hwi], by simp [i3], by rw [List.take_succ_eq_append_getElem hil]; simp [-List.map_take, -List.take_append_getElem], .inr ⟨_, rfl, by simp, hnn⟩, hall⟩
    · have hbad : names.all (fun x => decide (0 ≤ placeOf recs x)) = false := all_bad hil (by simpa using hb)
      simp [i2, lv0, lv3, lv4, lv35, lv36, i3.leave, -Receiver.pv, -Route.pv]
      apply hPost.intro
      simp [routeOf, c1, hf, hnames, hbad]
      exact quiet
end Go.Proofs.YtdclkdcgcfkopaaGreatDoor
namespace Go.Proofs.YtdclkdcgcfkopaaGreatDoor
open Go.Fh Go.Fog Go.RowKit

@[simp] theorem zp_strs : zeroP Tryz.prog 79 = some (.list .full []) := by kernel_rfl
@[simp] theorem zp_fn : zeroP Tryz.prog 126 = some .nilfn := by kernel_rfl
theorem config_line (d : Nat) (h : PHeap) (k kr kt : Key) (v : Nat) (s : Rd) (line : Str) (hk : k.1 ≤ d) (hk0 : 0 < k.1) (hr1 : kr.1 ≤ d) (hr0 : 0 < kr.1) (ht1 : kt.1 ≤ d) (ht0 : 0 < kt.1) (hkr : k ≠ kr) (hkt : k ≠ kt) (hrt : kr ≠ kt) (H : RdIn h k kr kt v s)
    (hrl : s.recs.length ≤ 4) (hn : s.routes.length ≤ 4) (hl : line.length < 4294967281) (hg : Glob h) :
    FnSpec Tryz.prog d 48 [.ptr k v 0, .str line] h fun po h' => po = .ret (.int .i64 (lineOf s.core line).1) ∧ RdTo h h' k kr kt v (splitOn 32 line) (lineOf s.core line).2 := by
  refine FnSpec.walkH mixed (fun _ => false) (keyHere (d + 1)) Tryz.func48 rfl rfl rfl (by decide) rfl rfl (fun c0 => ?_)
  have h1 := enterH_old (c := c0) (h := h) hk
  rw [H.at_] at h1
  have hG : ∀ c, Glob (enterH d c h) := fun c => by simpa using hg
  have kne := key_ne hk
  have kne' : ∀ n, ((d + 1, n) = k) = False := fun n => eq_false fun e => (kne n).mp e.symm
  obtain ⟨w0, ws, hw⟩ : ∃ w0 ws, splitOn 32 line = w0 :: ws := by
    cases hs : splitOn 32 line with
    | nil => exact absurd hs (splitOn_ne 32 line)
    | cons a l => exact ⟨a, l, rfl⟩
  have hwlen : ∀ w ∈ splitOn 32 line, w.length ≤ line.length := fun w hw => splitOn_le hw
  have hwn : (splitOn 32 line).length ≤ line.length + 1 := splitOn_len 32 line
  obtain ⟨recs, routes, rep, beat, words, ahead, rr, rt, rw'⟩ := s
  simp only at h1 hrl hn
  simp [h1, kne, -Receiver.pv, -Route.pv]
  apply FnRet.use
  · exact lib_Split _ _ line 32 hl (by simpa using hg)
  simp [h1, kne, kne', hw, -Receiver.pv, -Route.pv, -findP]
  have mid : ∀ (m8 m14 : Nat × Option PObj) (s' : Rd), RoomOk h kr 9 s'.recs s'.rr → RoomOk h kt 2 s'.routes s'.rt → RdIn ((((enterH d c0 h).set (d + 1, 8) m8).set (d + 1, 14) m14).set k (v, some (.cells s'.cells))) k kr kt v s' := fun m8 m14 s' e1 e2 =>
    ⟨PHeap.set_self _ _ _, (((e1.enter hr1).keep (key_neq hr1 8)).keep (key_neq hr1 14)).keep (Ne.symm hkr), (((e2.enter ht1).keep (key_neq ht1 8)).keep (key_neq ht1 14)).keep (Ne.symm hkt)⟩
  have back : ∀ (m8 m14 : Nat × Option PObj) z, leaveH d ((((enterH d c0 h).set (d + 1, 8) m8).set (d + 1, 14) m14).set k z) h = h.set k z := fun m8 m14 z => by rw [leave_set_keep hk, leave_set_own, leave_set_own, enter_leave]
  have glob : ∀ (m8 m14 : Nat × Option PObj) z, Glob ((((enterH d c0 h).set (d + 1, 8) m8).set (d + 1, 14) m14).set k z) := fun m8 m14 z => (Glob_put hk0).2 (Glob_set.2 (Glob_set.2 (hG c0)))
  have put : ∀ (a : Str), RdTo h (h.set k (v, some (.cells (⟨recs, routes, rep, beat, w0 :: ws, a, rr, rt, .full⟩ : Rd).cells))) k kr kt v (w0 :: ws) ⟨recs, routes.map Route.plain, rep, beat, a⟩ := fun a => RdTo.put (s := ⟨recs, routes, rep, beat, w0 :: ws, a, rr, rt, .full⟩) (Ne.symm hkr) (Ne.symm hkt) H.recs H.routes
  rw [hw] at hwlen hwn
  by_cases b1 : w0 = wReceiver
  · subst b1
    have hlo1 : [[], wReceiver].contains ahead = true → lineOf ⟨recs, routes.map Route.plain, rep, beat, ahead⟩ line = ((recvOf recs (wReceiver :: ws)).1, ⟨(recvOf recs (wReceiver :: ws)).2, routes.map Route.plain, rep, beat, wReceiver⟩) := by
      intro hb
      simp at hb
      first
        | (rcases hb with rfl | rfl <;> simp [lineOf, hw, wReceiver, wRoute, wRepeat, wBeat])
        | (subst hb; simp [lineOf, hw, wReceiver, wRoute, wRepeat, wBeat])
    have hlo2 : [[], wReceiver].contains ahead = false → lineOf ⟨recs, routes.map Route.plain, rep, beat, ahead⟩ line = (10, ⟨recs, routes.map Route.plain, rep, beat, ahead⟩) := by
      intro hb
      simp [wReceiver, wRoute, wRepeat, wBeat] at hb
      simp [lineOf, hw, hb, wReceiver, wRoute, wRepeat, wBeat]
    have hc : ∀ d h, FnRet Tryz.prog d 98 [.list .full (List.map PV.str [[], wReceiver]), .str ahead] h (.bool ([[], wReceiver].contains ahead)) := fun d h => slices_Contains_str d h .full [[], wReceiver] ahead (by simp)
    generalize [[], wReceiver].contains ahead = b at hlo1 hlo2 hc
    simp [h1, kne, kne', wReceiver, wRoute, wRepeat, wBeat, -Receiver.pv, -Route.pv]
    apply goDCall.intro
    · intro _ _; exact hc _ _
    cases b with
    | true =>
      simp [h1, kne, kne', wReceiver, wRoute, wRepeat, wBeat, -Receiver.pv, -Route.pv]
      apply FnSpec.mono
      · exact config_receiver (d + 1) _ k kr kt v ⟨recs, routes, rep, beat, wReceiver :: ws, wReceiver, rr, rt, .full⟩ (by omega) hk0 (by omega) hr0 hkr (Ne.symm hrt) (Ne.symm hkt) (mid _ _ ⟨recs, routes, rep, beat, wReceiver :: ws, wReceiver, rr, rt, .full⟩ H.recs H.routes) hrl (fun w hw => by have := hwlen w hw; omega) (by simp at hwn ⊢; omega) (glob _ _ _)
      rintro _ h' ⟨rfl, R⟩
      simp [-Receiver.pv, -Route.pv]
      apply hPost.intro
      show _ = POut.ret (.int .i64 (lineOf ⟨recs, routes.map Route.plain, rep, beat, ahead⟩ line).1) ∧ RdTo h (leaveH d h' h) k kr kt v (splitOn 32 line) (lineOf ⟨recs, routes.map Route.plain, rep, beat, ahead⟩ line).2
      rw [hlo1 rfl, hw]
      exact ⟨rfl, R.leave hk hr1 ht1 (back _ _ _)⟩
    | false =>
      simp [h1, kne, kne', wReceiver, wRoute, wRepeat, wBeat, -Receiver.pv, -Route.pv]
      apply hPost.intro
      show _ = POut.ret (.int .i64 (lineOf ⟨recs, routes.map Route.plain, rep, beat, ahead⟩ line).1) ∧ RdTo h _ k kr kt v (splitOn 32 line) (lineOf ⟨recs, routes.map Route.plain, rep, beat, ahead⟩ line).2
      rw [hlo2 rfl, hw, back]
      exact ⟨rfl, put ahead⟩
  by_cases b2 : w0 = wRoute
  · subst b2
    have hlo1 : [wReceiver, wRoute].contains ahead = true → lineOf ⟨recs, routes.map Route.plain, rep, beat, ahead⟩ line = ((routeOf recs (routes.map Route.plain) (wRoute :: ws)).1, ⟨recs, (routeOf recs (routes.map Route.plain) (wRoute :: ws)).2, rep, beat, wRoute⟩) := by
      intro hb
      simp at hb
      first
        | (rcases hb with rfl | rfl <;> simp [lineOf, hw, wReceiver, wRoute, wRepeat, wBeat])
        | (subst hb; simp [lineOf, hw, wReceiver, wRoute, wRepeat, wBeat])
    have hlo2 : [wReceiver, wRoute].contains ahead = false → lineOf ⟨recs, routes.map Route.plain, rep, beat, ahead⟩ line = (10, ⟨recs, routes.map Route.plain, rep, beat, ahead⟩) := by
      intro hb
      simp [wReceiver, wRoute, wRepeat, wBeat] at hb
      simp [lineOf, hw, hb, wReceiver, wRoute, wRepeat, wBeat]
    have hc : ∀ d h, FnRet Tryz.prog d 98 [.list .full (List.map PV.str [wReceiver, wRoute]), .str ahead] h (.bool ([wReceiver, wRoute].contains ahead)) := fun d h => slices_Contains_str d h .full [wReceiver, wRoute] ahead (by simp)
    generalize [wReceiver, wRoute].contains ahead = b at hlo1 hlo2 hc
    simp [h1, kne, kne', wReceiver, wRoute, wRepeat, wBeat, -Receiver.pv, -Route.pv]
    apply goDCall.intro
    · intro _ _; exact hc _ _
    cases b with
    | true =>
      simp [h1, kne, kne', wReceiver, wRoute, wRepeat, wBeat, -Receiver.pv, -Route.pv]
      apply FnSpec.mono
      · exact config_route (d + 1) _ k kr kt v ⟨recs, routes, rep, beat, wRoute :: ws, wRoute, rr, rt, .full⟩ (by omega) hk0 (by omega) ht0 hkt hrt (Ne.symm hkr) (mid _ _ ⟨recs, routes, rep, beat, wRoute :: ws, wRoute, rr, rt, .full⟩ H.recs H.routes) hrl hn (fun w hw => by have := hwlen w hw; omega) (by simp) (by simp at hwn ⊢; omega)
      rintro _ h' ⟨rfl, R⟩
      simp [-Receiver.pv, -Route.pv]
      apply hPost.intro
      show _ = POut.ret (.int .i64 (lineOf ⟨recs, routes.map Route.plain, rep, beat, ahead⟩ line).1) ∧ RdTo h (leaveH d h' h) k kr kt v (splitOn 32 line) (lineOf ⟨recs, routes.map Route.plain, rep, beat, ahead⟩ line).2
      rw [hlo1 rfl, hw]
      exact ⟨rfl, R.leave hk hr1 ht1 (back _ _ _)⟩
    | false =>
      simp [h1, kne, kne', wReceiver, wRoute, wRepeat, wBeat, -Receiver.pv, -Route.pv]
      apply hPost.intro
      show _ = POut.ret (.int .i64 (lineOf ⟨recs, routes.map Route.plain, rep, beat, ahead⟩ line).1) ∧ RdTo h _ k kr kt v (splitOn 32 line) (lineOf ⟨recs, routes.map Route.plain, rep, beat, ahead⟩ line).2
      rw [hlo2 rfl, hw, back]
      exact ⟨rfl, put ahead⟩
  by_cases b3 : w0 = wRepeat
  · subst b3
    have hlo1 : [wRoute].contains ahead = true → lineOf ⟨recs, routes.map Route.plain, rep, beat, ahead⟩ line = ((timeOf (wRepeat :: ws)).1, ⟨recs, routes.map Route.plain, timeNew (timeOf (wRepeat :: ws)) rep, beat, wRepeat⟩) := by
      intro hb
      simp at hb
      first
        | (rcases hb with rfl | rfl <;> simp [lineOf, hw, wReceiver, wRoute, wRepeat, wBeat])
        | (subst hb; simp [lineOf, hw, wReceiver, wRoute, wRepeat, wBeat])
    have hlo2 : [wRoute].contains ahead = false → lineOf ⟨recs, routes.map Route.plain, rep, beat, ahead⟩ line = (10, ⟨recs, routes.map Route.plain, rep, beat, ahead⟩) := by
      intro hb
      simp [wReceiver, wRoute, wRepeat, wBeat] at hb
      simp [lineOf, hw, hb, wReceiver, wRoute, wRepeat, wBeat]
    have hc : ∀ d h, FnRet Tryz.prog d 98 [.list .full (List.map PV.str [wRoute]), .str ahead] h (.bool ([wRoute].contains ahead)) := fun d h => slices_Contains_str d h .full [wRoute] ahead (by simp)
    generalize [wRoute].contains ahead = b at hlo1 hlo2 hc
    simp [h1, kne, kne', wReceiver, wRoute, wRepeat, wBeat, -Receiver.pv, -Route.pv]
    apply goDCall.intro
    · intro _ _; exact hc _ _
    cases b with
    | true =>
      simp [h1, kne, kne', wReceiver, wRoute, wRepeat, wBeat, -Receiver.pv, -Route.pv]
      apply FnSpec.mono
      · exact config_repeat (d + 1) _ k v ⟨recs, routes, rep, beat, wRepeat :: ws, wRepeat, rr, rt, .full⟩ (by omega) (mid _ _ ⟨recs, routes, rep, beat, wRepeat :: ws, wRepeat, rr, rt, .full⟩ H.recs H.routes).at_ (fun w hw => by have := hwlen w hw; omega) (by simp at hwn ⊢; omega) (glob _ _ _)
      rintro _ h' ⟨rfl, R⟩
      simp [-Receiver.pv, -Route.pv]
      apply hPost.intro
      show _ = POut.ret (.int .i64 (lineOf ⟨recs, routes.map Route.plain, rep, beat, ahead⟩ line).1) ∧ RdTo h (leaveH d h' h) k kr kt v (splitOn 32 line) (lineOf ⟨recs, routes.map Route.plain, rep, beat, ahead⟩ line).2
      rw [hlo1 rfl, hw]
      refine ⟨rfl, ?_⟩
      rw [R]
      by_cases ht : (timeOf (wRepeat :: ws)).1 = 0
      · rw [if_pos ht, leave_set_keep hk, back, PHeap.set_set]
        have hn : timeNew (timeOf (wRepeat :: ws)) rep = (timeOf (wRepeat :: ws)).2 := by simp [timeNew, ht]
        rw [hn]
        exact RdTo.put (s := ⟨recs, routes, (timeOf (wRepeat :: ws)).2, beat, wRepeat :: ws, wRepeat, rr, rt, .full⟩) (Ne.symm hkr) (Ne.symm hkt) H.recs H.routes
      · rw [if_neg ht, back]
        have hn : timeNew (timeOf (wRepeat :: ws)) rep = rep := by simp [timeNew, ht]
        rw [hn]
        exact put _
    | false =>
      simp [h1, kne, kne', wReceiver, wRoute, wRepeat, wBeat, -Receiver.pv, -Route.pv]
      apply hPost.intro
      show _ = POut.ret (.int .i64 (lineOf ⟨recs, routes.map Route.plain, rep, beat, ahead⟩ line).1) ∧ RdTo h _ k kr kt v (splitOn 32 line) (lineOf ⟨recs, routes.map Route.plain, rep, beat, ahead⟩ line).2
      rw [hlo2 rfl, hw, back]
      exact ⟨rfl, put ahead⟩
  by_cases b4 : w0 = wBeat
  · subst b4
    have hlo1 : [wRepeat].contains ahead = true → lineOf ⟨recs, routes.map Route.plain, rep, beat, ahead⟩ line = ((timeOf (wBeat :: ws)).1, ⟨recs, routes.map Route.plain, rep, timeNew (timeOf (wBeat :: ws)) beat, wBeat⟩) := by
      intro hb
      simp at hb
      first
        | (rcases hb with rfl | rfl <;> simp [lineOf, hw, wReceiver, wRoute, wRepeat, wBeat])
        | (subst hb; simp [lineOf, hw, wReceiver, wRoute, wRepeat, wBeat])
    have hlo2 : [wRepeat].contains ahead = false → lineOf ⟨recs, routes.map Route.plain, rep, beat, ahead⟩ line = (10, ⟨recs, routes.map Route.plain, rep, beat, ahead⟩) := by
      intro hb
      simp [wReceiver, wRoute, wRepeat, wBeat] at hb
      simp [lineOf, hw, hb, wReceiver, wRoute, wRepeat, wBeat]
    have hc : ∀ d h, FnRet Tryz.prog d 98 [.list .full (List.map PV.str [wRepeat]), .str ahead] h (.bool ([wRepeat].contains ahead)) := fun d h => slices_Contains_str d h .full [wRepeat] ahead (by simp)
    generalize [wRepeat].contains ahead = b at hlo1 hlo2 hc
    simp [h1, kne, kne', wReceiver, wRoute, wRepeat, wBeat, -Receiver.pv, -Route.pv]
    apply goDCall.intro
    · intro _ _; exact hc _ _
    cases b with
    | true =>
      simp [h1, kne, kne', wReceiver, wRoute, wRepeat, wBeat, -Receiver.pv, -Route.pv]
      apply FnSpec.mono
      · exact config_beat (d + 1) _ k v ⟨recs, routes, rep, beat, wBeat :: ws, wBeat, rr, rt, .full⟩ (by omega) (mid _ _ ⟨recs, routes, rep, beat, wBeat :: ws, wBeat, rr, rt, .full⟩ H.recs H.routes).at_ (fun w hw => by have := hwlen w hw; omega) (by simp at hwn ⊢; omega) (glob _ _ _)
      rintro _ h' ⟨rfl, R⟩
      simp [-Receiver.pv, -Route.pv]
      apply hPost.intro
      show _ = POut.ret (.int .i64 (lineOf ⟨recs, routes.map Route.plain, rep, beat, ahead⟩ line).1) ∧ RdTo h (leaveH d h' h) k kr kt v (splitOn 32 line) (lineOf ⟨recs, routes.map Route.plain, rep, beat, ahead⟩ line).2
      rw [hlo1 rfl, hw]
      refine ⟨rfl, ?_⟩
      rw [R]
      by_cases ht : (timeOf (wBeat :: ws)).1 = 0
      · rw [if_pos ht, leave_set_keep hk, back, PHeap.set_set]
        have hn : timeNew (timeOf (wBeat :: ws)) beat = (timeOf (wBeat :: ws)).2 := by simp [timeNew, ht]
        rw [hn]
        exact RdTo.put (s := ⟨recs, routes, rep, (timeOf (wBeat :: ws)).2, wBeat :: ws, wBeat, rr, rt, .full⟩) (Ne.symm hkr) (Ne.symm hkt) H.recs H.routes
      · rw [if_neg ht, back]
        have hn : timeNew (timeOf (wBeat :: ws)) beat = beat := by simp [timeNew, ht]
        rw [hn]
        exact put _
    | false =>
      simp [h1, kne, kne', wReceiver, wRoute, wRepeat, wBeat, -Receiver.pv, -Route.pv]
      apply hPost.intro
      show _ = POut.ret (.int .i64 (lineOf ⟨recs, routes.map Route.plain, rep, beat, ahead⟩ line).1) ∧ RdTo h _ k kr kt v (splitOn 32 line) (lineOf ⟨recs, routes.map Route.plain, rep, beat, ahead⟩ line).2
      rw [hlo2 rfl, hw, back]
      exact ⟨rfl, put ahead⟩
  have hlo : lineOf ⟨recs, routes.map Route.plain, rep, beat, ahead⟩ line = (10, ⟨recs, routes.map Route.plain, rep, beat, ahead⟩) := by
    simp [lineOf, hw, b1, b2, b3, b4]
  have n1 : (w0 == wReceiver) = false := by simpa using b1
  have n2 : (w0 == wRoute) = false := by simpa using b2
  have n3 : (w0 == wRepeat) = false := by simpa using b3
  have n4 : (w0 == wBeat) = false := by simpa using b4
  simp only [wReceiver, wRoute, wRepeat, wBeat] at n1 n2 n3 n4
  simp [h1, kne, kne', n1, n2, n3, n4, -Receiver.pv, -Route.pv]
  apply goDCall.intro
  · intro _ _; exact slices_Contains_str _ _ _ [] ahead (by simp)
  simp [h1, kne, kne', -Receiver.pv, -Route.pv]
  apply hPost.intro
  show _ = POut.ret (.int .i64 (lineOf ⟨recs, routes.map Route.plain, rep, beat, ahead⟩ line).1) ∧ RdTo h _ k kr kt v (splitOn 32 line) (lineOf ⟨recs, routes.map Route.plain, rep, beat, ahead⟩ line).2
  rw [hlo, hw, back]
  exact ⟨rfl, put ahead⟩
end Go.Proofs.YtdclkdcgcfkopaaGreatDoor
namespace Go.Proofs.YtdclkdcgcfkopaaGreatDoor
open Go.Fh Go.Fog Go.RowKit

def pkr (d : Nat) : Key := (d + 1, 1000001)
def pkt (d : Nat) : Key := (d + 1, 1000002)
theorem config_Parse0 (d : Nat) (h : PHeap) (text : Str) (hl : text.length < 4294967281) (hg : Glob h) :
    FnSpec Tryz.prog d 12 [.str text] h fun po h' => h' = h ∧ ∃ (rr rt : Room) (routes : List Route), routes.map Route.plain = (parseOf text).1.routes ∧
      po = .ret (.tuple [.agg [.list rr ((parseOf text).1.receivers.map Receiver.pv), .list rt (routes.map Route.pv), .int .i64 (parseOf text).1.rep, .int .i64 (parseOf text).1.beat], .int .i64 (parseOf text).2.1, .int .i64 (parseOf text).2.2]) := by
  refine FnSpec.walkH mixed (fun n => n == 18) (keyHere (d + 1)) Tryz.func12 rfl rfl rfl (by decide) rfl rfl (fun c0 => ?_)
  have hG : ∀ c, Glob (enterH d c h) := fun c => by simpa using hg
  have htl : (Lib.trimSuffix text [10]).length ≤ text.length := trimSuffix_len _ _
  simp
  apply FnRet.use
  · exact lib_TrimSuffix _ _ text [10] (by omega)
  simp
  by_cases c0' : text = []
  · subst c0'
    simp
    refine hLoop.walkW mixed (pos1 d) (fun n => n == 18) (keyHere (d + 1)) rfl [3, 4, 8, 9, 10, 21, 22, 23, 24, 25, 26, 27, 28, 29, 30, 31, 32, 33, 34] (fun n σ => σ.t 21 = .int .i64 0 ∧ Own d σ.h (enterH d c0 h) ∧ σ.h (d + 1, 2) = (c0 (d + 1, 2) + 1, some (.cells [.list .full [], .list .full [], .int .i64 0, .int .i64 0])) ∧ σ.h (d + 1, 18) = (c0 (d + 1, 18) + 1, some (.cells [.list .full [], .list .full [], .int .i64 0, .int .i64 0, .list .full [], .str []]))) 0 (by simp [Own.refl]) ?_
    rintro n t h' hW ⟨i1, i2, i3, i4⟩
    simp only at i1 i2 i3 i4
    have lv2 := hW 2 rfl; have lv5 := hW 5 rfl; have lv7 := hW 7 rfl; have lv19 := hW 19 rfl; have lv20 := hW 20 rfl
    simp at lv2 lv5 lv7 lv19 lv20
    simp [lv2, lv5, lv7, lv19, lv20, i1, i3, i4, i2.leave]
    apply hPost.intro
    exact ⟨rfl, .full, .full, [], rfl, rfl⟩
  simp [c0']
  apply FnRet.use
  · exact lib_Split _ _ _ 10 (by omega) (by simpa using hg)
  have hlines : linesOf text = splitOn 10 (Lib.trimSuffix text [10]) := by simp [linesOf, c0']
  rw [← hlines]
  have hlen : ∀ l ∈ linesOf text, l.length < 4294967281 := fun l hl' => by rw [hlines] at hl'; have := splitOn_le hl'; omega
  have hcnt : (linesOf text).length ≤ 4294967296 := by rw [hlines]; have := splitOn_len 10 (Lib.trimSuffix text [10]); omega
  generalize hls : linesOf text = ls at hlen hcnt
  simp
  refine hLoop.walkW mixed (pos1 d) (fun n => n == 18) (keyHere (d + 1)) rfl [3, 4, 8, 9, 10, 21, 22, 23, 24, 25, 26, 27, 28, 29, 30, 31, 32, 33, 34]
    (fun n σ => ∃ i s, i + n = ls.length ∧ σ.t 21 = .int .i64 i ∧ Own d σ.h (enterH d c0 h) ∧ σ.h (d + 1, 2) = (c0 (d + 1, 2) + 1, some (.cells [.list .full [], .list .full [], .int .i64 0, .int .i64 0])) ∧ RdIn σ.h (d + 1, 18) (pkr d) (pkt d) (c0 (d + 1, 18) + 1) s ∧ runLines ls 0 .init = runLines (ls.drop i) i s.core ∧ s.recs.length ≤ 4 ∧ s.routes.length ≤ 4) ls.length
    ⟨0, ⟨[], [], 0, 0, [], [], .full, .full, .full⟩, by simp, by simp, by simp [Own.refl], by simp, ⟨by simp, .inl rfl, .inl rfl⟩, rfl, by simp, by simp⟩ ?_
  rintro n t h' hW ⟨i, s, i1, i2, i3, i4, i5, i6, i7, i8⟩
  simp only at i2 i3 i4 i5
  have lv2 := hW 2 rfl; have lv5 := hW 5 rfl; have lv7 := hW 7 rfl; have lv19 := hW 19 rfl; have lv20 := hW 20 rfl
  simp at lv2 lv5 lv7 lv19 lv20
  have hg' : Glob h' := (hG c0).of_eq fun g => i3 (0, g) (by simp)
  have hrd := i5.at_
  simp [lv2, lv5, lv7, lv19, lv20, i2]
  refine goIf.decide (fun hi => ?_) (fun hi => ?_)
  · obtain rfl : i = ls.length := by omega
    have hrun : runLines ls 0 .init = (s.core, ls.length, 0) := by rw [i6, List.drop_length]; rfl
    simp [lv2, lv5, lv7, lv19, lv20, hrd, -Receiver.pv, -Route.pv]
    refine goIf.decide (fun hb => ?_) (fun hb => ?_)
    · simp [lv2, lv5, lv7, lv19, lv20, i4, i3.leave, -Receiver.pv, -Route.pv]
      apply hPost.intro
      have hp : parseOf text = (.zero, (ls.length : Int), 12) := by simp [parseOf, hls, hrun, wBeat, Rd.core, hb]
      rw [hp]
      exact ⟨rfl, .full, .full, [], rfl, rfl⟩
    · simp [lv2, lv5, lv7, lv19, lv20, i4, hrd, i3.leave, -Receiver.pv, -Route.pv]
      apply hPost.intro
      have hp : parseOf text = (s.core.config, 0, 0) := by simp [parseOf, hls, hrun, wBeat, Rd.core, hb]
      rw [hp]
      exact ⟨rfl, s.rr, s.rt, s.routes, rfl, rfl⟩
  · have hil : i < ls.length := by omega
    have hget : ls[i]? = some ls[i] := List.getElem?_eq_getElem hil
    have hwi : IntKind.i64.wrap ((i : Int) + 1) = i + 1 := wrap64 (by omega) (by omega)
    simp [lv2, lv5, lv7, lv19, lv20, hil, hget, i2, -Receiver.pv, -Route.pv]
    apply FnSpec.mono
    · exact config_line (d + 1) h' (d + 1, 18) (pkr d) (pkt d) (c0 (d + 1, 18) + 1) s ls[i] (by simp) (by simp) (by simp [pkr]) (by simp [pkr]) (by simp [pkt]) (by simp [pkt]) (by simp [pkr]) (by simp [pkt]) (by simp [pkr, pkt]) i5 i7 i8 (hlen _ (List.getElem_mem hil)) hg'
    rintro _ h'' ⟨rfl, R⟩
    simp [lv2, lv5, lv7, lv19, lv20, hil, hget, i2, -Receiver.pv, -Route.pv]
    obtain ⟨s2, x, y, he, hcore, hw2, r1, r2⟩ := R
    have hown : Own d h'' (enterH d c0 h) := by rw [he]; simp [pkr, pkt, i3]
    have h2 : h'' (d + 1, 2) = (c0 (d + 1, 2) + 1, some (.cells [.list .full [], .list .full [], .int .i64 0, .int .i64 0])) := by rw [he]; simp [pkr, pkt, i4]
    have hdrop : ls.drop i = ls[i] :: ls.drop (i + 1) := List.drop_eq_getElem_cons hil
    refine goIf.decide (fun hb => ?_) (fun hb => ?_)
    · have hrun : runLines ls 0 .init = ((lineOf s.core ls[i]).2, i, (lineOf s.core ls[i]).1) := by rw [i6, hdrop, runLines, if_neg hb]
      simp [lv2, lv5, lv7, lv19, lv20, h2, hown.leave, -Receiver.pv, -Route.pv]
      apply hPost.intro
      have hp : parseOf text = (.zero, (i : Int), (lineOf s.core ls[i]).1) := by simp [parseOf, hls, hrun, hb]
      rw [hp]
      exact ⟨rfl, .full, .full, [], rfl, rfl⟩
    · have hrun : runLines ls 0 .init = runLines (ls.drop (i + 1)) (i + 1) s2.core := by rw [i6, hdrop, runLines, if_pos hb, hcore]
      have hbnd := lineOf_bounds (c := s.core) i7 (by simpa [Rd.core] using i8) ls[i]
      rw [← hcore] at hbnd
      simp [lv2, lv5, lv7, lv19, lv20, i2, -Receiver.pv, -Route.pv]
      apply hInv.intro
      exact ⟨by simp, n - 1, by omega, i + 1, s2, by omega, by simp [hwi], by simpa using hown, by simpa using h2, ⟨by simp [he], r1, r2⟩, hrun, hbnd.1, by simpa [Rd.core] using hbnd.2⟩
theorem config_Parse (d : Nat) (h : PHeap) (text : Str) (hl : text.length < 4294967281) (hg : Glob h) :
    FnRet Tryz.prog d 12 [.str text] h (.tuple [(parseOf text).1.pv, .int .i64 (parseOf text).2.1, .int .i64 (parseOf text).2.2]) := by
  refine FnSpec.weak (config_Parse0 d h text hl hg) ?_
  rintro po h' ⟨rfl, rr, rt, routes, hr, rfl⟩
  refine .inl ⟨_, _, rfl, ?_, rfl, rfl⟩
  have e1 : (parseOf text).1.rr = .any := parseOf_rooms text |>.1
  have e2 : (parseOf text).1.rt = .any := parseOf_rooms text |>.2
  refine .tuple _ _ rfl (Wk.cells3 (.agg _ _ rfl (Wk.cells4 ?_ ?_ (.refl _) (.refl _))) (.refl _) (.refl _))
  · rw [e1]; exact Wk.room _ _
  · rw [e2]; exact Wk.routes _ hr
end Go.Proofs.YtdclkdcgcfkopaaGreatDoor
namespace Go.Proofs.YtdclkdcgcfkopaaGreatDoor
open Go.Fh Go.Fog Go.RowKit

theorem tick_all (d : Nat) (h : PHeap) (room : Room) (l : List Int) (hl : l.length ≤ 9223372036854775807) : FnRet Tryz.prog d 103 [.list room (l.map (.int .i64))] h (.bool (l.all tickRight)) := by
  refine FnSpec.walk mixed (fun _ => false) (keyHere (d + 1)) Tryz.func103 rfl rfl rfl (by decide) rfl rfl (fun c0 => ?_)
  simp
  apply FnRet.use
  · exact slices_ContainsFunc_int _ _ _ l 147 [] [] (fun t => !tickRight t) hl fun c0 c1 e he => tick_all1 _ _ e
  have e : (l.any fun t => !tickRight t) = !l.all tickRight := by rw [List.not_all_eq_any_not]
  simp [e]
theorem tick_all2 (d : Nat) (h : PHeap) (room : Room) (t n : Int) : FnRet Tryz.prog d 103 [.list room [.int .i64 t, .int .i64 n]] h (.bool (tickRight t && tickRight n)) := by
  have := tick_all d h room [t, n] (by simp)
  simpa using this
theorem tick_Add (d : Nat) (h : PHeap) (t n : Int) : FnRet Tryz.prog d 56 [.int .i64 t, .int .i64 n] h (.tuple [.int .i64 (tickAdd t n).1, .int .i64 (tickAdd t n).2]) := by
  refine FnSpec.walk mixed (fun _ => false) (keyHere (d + 1)) Tryz.func56 rfl rfl rfl (by decide) rfl rfl (fun c0 => ?_)
  simp
  apply FnRet.use
  · exact tick_all2 _ _ _ t n
  cases hr : (tickRight t && tickRight n) with
  | true =>
    have hr' : tickRight t = true ∧ tickRight n = true := by simpa using hr
    have h1 := tickRight_iff.1 hr'.1
    have h2 := tickRight_iff.1 hr'.2
    have hw : IntKind.i64.wrap (t + n) = t + n := wrap64 (by omega) (by omega)
    simp [hw, tickAdd, hr']
  | false =>
    have hr' : ¬ (tickRight t = true ∧ tickRight n = true) := by simpa using hr
    simp [tickAdd, hr']
theorem tick_Times (d : Nat) (h : PHeap) (t n : Int) : FnRet Tryz.prog d 102 [.int .i64 t, .int .i64 n] h (.tuple [.int .i64 (tickTimes t n).1, .int .i64 (tickTimes t n).2]) := by
  refine FnSpec.walk mixed (fun _ => false) (keyHere (d + 1)) Tryz.func102 rfl rfl rfl (by decide) rfl rfl (fun c0 => ?_)
  simp
  apply FnRet.use
  · exact tick_all2 _ _ _ t n
  cases hr : (tickRight t && tickRight n) with
  | false =>
    have hr' : ¬ (tickRight t = true ∧ tickRight n = true) := by simpa using hr
    simp [tickTimes, hr']
  | true =>
    have hr' : tickRight t = true ∧ tickRight n = true := by simpa using hr
    have h1 := tickRight_iff.1 hr'.1
    have h2 := tickRight_iff.1 hr'.2
    by_cases ht : 0 < t
    · have hne : ¬ t = 0 := by omega
      have hq : Int.tdiv 1099511627776 t = 1099511627776 / t := Int.tdiv_eq_ediv_of_nonneg (by omega)
      have hq0 : 0 ≤ 1099511627776 / t := Int.ediv_nonneg (by omega) (by omega)
      have hq1 : 1099511627776 / t ≤ 1099511627776 := Int.ediv_le_self _ (by omega)
      have hw : IntKind.i64.wrap (1099511627776 / t) = 1099511627776 / t := wrap64 (by omega) (by omega)
      simp [ht, hne, hq, hw]
      refine goIf.decide (fun hb => ?_) (fun hb => ?_)
      · have hm := times_le h1.1 h2.1 (fun e => hb e.2)
        have hw2 : IntKind.i64.wrap (t * n) = t * n := wrap64 (by omega) (by omega)
        simp [hw2, tickTimes, hr', ht, hb]
      · simp [tickTimes, hr', ht, hb]
    · have h0 : t = 0 := by omega
      subst h0
      simp [tickTimes, hr']
end Go.Proofs.YtdclkdcgcfkopaaGreatDoor
namespace Go.Proofs.YtdclkdcgcfkopaaGreatDoor
open Go.Fh Go.Fog Go.RowKit

theorem bound_wait (d : Nat) (h : PHeap) (r : Receiver) (h1 : -4611686018427387904 ≤ r.top) (h2 : r.top ≤ 4611686018427387903) (h3 : -4611686018427387904 ≤ r.jitter) (h4 : r.jitter ≤ 4611686018427387903) : FnRet Tryz.prog d 52 [r.pv] h (.int .i64 (r.top + r.jitter)) := by
  refine FnSpec.walk mixed (fun _ => false) (keyHere (d + 1)) Tryz.func52 rfl rfl rfl (by decide) rfl rfl (fun c0 => ?_)
  have hw : IntKind.i64.wrap (r.top + r.jitter) = r.top + r.jitter := wrap64 (by omega) (by omega)
  simp [hw]
theorem bound_all (d : Nat) (h : PHeap) (r : Receiver) (k : Key) (v : Nat) (hk : k.1 ≤ d) (hh : h k = (v, some (.cells [.fn (.func 52) [] []]))) (h1 : -4611686018427387904 ≤ r.top) (h2 : r.top ≤ 4611686018427387903) (h3 : -4611686018427387904 ≤ r.jitter) (h4 : r.jitter ≤ 4611686018427387903) : FnRet Tryz.prog d 53 [r.pv, .ptr k v 0] h (.int .i64 (recWait r)) := by
  refine FnSpec.walk mixed (fun _ => false) (keyHere (d + 1)) Tryz.func53 rfl rfl rfl (by decide) rfl rfl (fun c0 => ?_)
  have hk' := enterH_old (c := c0) (h := h) hk
  rw [hh] at hk'
  have hkd : ¬ k.1 = d + 1 := by omega
  simp [hk', hkd, -Receiver.pv]
  apply goDCall.intro
  · intro _ _; exact bound_wait _ _ r h1 h2 h3 h4
  simp [recWait]
theorem bound_most (d : Nat) (h : PHeap) (room : Room) (l : List Receiver) (f : FuncId) (first cap : List PV) (g : Receiver → Int) (hl : l.length ≤ 9223372036854775807)
    (hp : ∀ (c0 : Key → Nat) h', Own d h' (enterH d c0 h) → ∀ e ∈ l, FnRet Tryz.prog (d + 1) f (first ++ Receiver.pv e :: cap) h' (.int .i64 (g e))) : FnRet Tryz.prog d 54 [.list room (l.map Receiver.pv), .fn (.func f) first cap] h (.int .i64 (l.foldl (fun a r => max a (g r)) 0)) := by
  refine FnSpec.walk mixed (fun _ => false) (keyHere (d + 1)) Tryz.func54 rfl rfl rfl (by decide) rfl rfl (fun c0 => ?_)
  simp [-Receiver.pv]
  refine hLoop.walkW mixed (pos1 d) (fun _ => false) (keyHere (d + 1)) rfl [5, 7, 10, 11, 12, 13, 14, 15, 16, 17, 18, 19] (fun n σ => ∃ i, i + n = l.length ∧ σ.t 10 = .int .i64 i ∧ σ.t 5 = .int .i64 ((l.take i).foldl (fun a r => max a (g r)) 0) ∧ Own d σ.h (enterH d c0 h)) l.length ⟨0, by simp [Own.refl]⟩ ?_
  rintro n t h' hW ⟨i, i1, i2, i3, i4⟩
  simp only at i2 i3 i4
  have lv1 := hW 1 rfl; have lv4 := hW 4 rfl; have lv8 := hW 8 rfl; have lv9 := hW 9 rfl
  simp [-Receiver.pv] at lv1 lv4 lv8 lv9
  simp [lv1, lv4, lv8, lv9, i2, i3, -Receiver.pv]
  refine goIf.decide (fun hi => ?_) (fun hi => ?_)
  · rw [List.take_of_length_le (by omega)] at i3
    simp [lv1, lv4, lv8, lv9, i3, i4.leave]
  · have hi' : i < l.length := by omega
    have hget : l[i]? = some l[i] := List.getElem?_eq_getElem hi'
    have hwi : IntKind.i64.wrap ((i : Int) + 1) = i + 1 := wrap64 (by omega) (by omega)
    simp [lv1, lv4, lv8, lv9, i2, i3, hi', hget, -Receiver.pv]
    apply FnRet.use
    · exact hp c0 _ (by simpa using i4) l[i] (List.getElem_mem hi')
    simp [lv1, lv4, lv8, lv9, i2, i3, -Receiver.pv]
    apply hInv.intro
    exact ⟨by simp, n - 1, by omega, i + 1, by omega, by simp [hwi], by rw [List.take_succ_eq_append_getElem hi', List.foldl_append]; simp, by simpa using i4⟩

theorem right_ranges {c : Config} (h : c.right = true) {r : Receiver} (hr : r ∈ c.receivers) : r.right = true := by
  simp only [Config.right, Bool.and_eq_true, recsOk] at h
  exact List.all_eq_true.1 h.1.1.1.1.1.1.1.1 r hr
theorem recv_ranges {r : Receiver} (h : r.right = true) : (0 ≤ r.top ∧ r.top ≤ 1073741824) ∧ (0 ≤ r.jitter ∧ r.jitter ≤ 1048576) ∧ (1 ≤ r.every ∧ r.every ≤ 1048576) ∧ (1 ≤ r.opens ∧ r.opens ≤ 1048576) := by
  simp only [Receiver.right, backRight, within, Bool.and_eq_true, decide_eq_true_eq] at h
  omega
theorem bound_Step (d : Nat) (h : PHeap) (c : Config) (hc : c.Fits) : FnRet Tryz.prog d 17 [c.pv] h (.tuple [.int .i64 (boundStep c).1, .int .i64 (boundStep c).2]) := by
  refine FnSpec.walk mixed (fun _ => false) (keyHere (d + 1)) Tryz.func17 rfl rfl rfl (by decide) rfl rfl (fun c0 => ?_)
  simp [-Receiver.pv, -Route.pv]
  apply FnRet.use
  · exact config_Right _ _ c hc
  cases hr : c.right with
  | false => simp [boundStep, hr]
  | true =>
    simp [-Receiver.pv, -Route.pv]
    apply FnRet.use
    · refine bound_most _ _ c.rr c.receivers 53 [] _ recWait hc.recs fun c1 h' ho e he => ?_
      have hx := recv_ranges (right_ranges hr he)
      exact bound_all _ _ e (d + 1, 4) (c0 (d + 1, 4) + 1) (by simp) (by rw [ho.at (by simp)]; simp) (by omega) (by omega) (by omega) (by omega)
    simp [boundStep, hr, stepOf]
theorem bound_after (d : Nat) (h : PHeap) (n s : Int) (hn : 0 ≤ n) (hs : tickRight s = true) : FnRet Tryz.prog d 55 [.int .i64 n, .int .i64 s] h (.tuple [.int .i64 (afterOf n s).1, .int .i64 (afterOf n s).2]) := by
  refine FnSpec.walk mixed (fun _ => false) (keyHere (d + 1)) Tryz.func55 rfl rfl rfl (by decide) rfl rfl (fun c0 => ?_)
  simp
  apply FnRet.use
  · exact tick_Times _ _ _ s
  simp
  apply FnRet.use
  · exact tick_Add _ _ 1 _
  simp [afterOf]
theorem step_tick {c : Config} (h : c.right = true) : 0 ≤ stepOf c.receivers ∧ stepOf c.receivers ≤ 1074790400 := by
  have key : ∀ (l : List Receiver) (a : Int), 0 ≤ a → a ≤ 1074790400 → (∀ r ∈ l, r.right = true) → 0 ≤ l.foldl (fun a r => max a (recWait r)) a ∧ l.foldl (fun a r => max a (recWait r)) a ≤ 1074790400 := by
    intro l
    induction l with
    | nil => intro a h0 h1 _; exact ⟨h0, h1⟩
    | cons r l ih =>
      intro a h0 h1 hr
      have hx := recv_ranges (hr r (by simp))
      refine ih _ ?_ ?_ fun q hq => hr q (by simp [hq])
      · simp only [recWait]; omega
      · simp only [recWait]; omega
  exact key c.receivers 0 (by omega) (by omega) fun r hr => right_ranges h hr
theorem config_few {c : Config} (h : c.right = true) : 1 ≤ c.receivers.length ∧ c.receivers.length ≤ 4 ∧ 1 ≤ c.routes.length ∧ c.routes.length ≤ 4 ∧ (1 ≤ c.rep ∧ c.rep ≤ 1073741824) ∧ (1 ≤ c.beat ∧ c.beat ≤ 1073741824) := by
  simp only [Config.right, Bool.and_eq_true, decide_eq_true_eq, often, within] at h
  omega
theorem bound_Alone (d : Nat) (h : PHeap) (c : Config) (k : Int) (hc : c.Fits) (h0 : k ≤ 9223372036854775807) : FnRet Tryz.prog d 18 [c.pv, .int .i64 k] h (.tuple [.int .i64 (boundAlone c k).1, .int .i64 (boundAlone c k).2]) := by
  refine FnSpec.walk mixed (fun _ => false) (keyHere (d + 1)) Tryz.func18 rfl rfl rfl (by decide) rfl rfl (fun c0 => ?_)
  simp [-Receiver.pv, -Route.pv]
  apply FnRet.use
  · exact bound_Step _ _ c hc
  cases hr : c.right with
  | false => simp [boundStep, boundAlone, hr]
  | true =>
    by_cases hk : k < 1
    · simp [boundStep, boundAlone, hr, hk]
    · have hw : IntKind.i64.wrap (k - 1) = k - 1 := wrap64 (by omega) (by omega)
      have hs := step_tick hr
      simp [boundStep, boundAlone, hr, hk, hw]
      apply FnRet.use
      · exact bound_after _ _ (k - 1) (stepOf c.receivers) (by omega) (tickRight_iff.2 (by omega))
      simp
theorem bound_Life (d : Nat) (h : PHeap) (c : Config) (k : Int) (hc : c.Fits) : FnRet Tryz.prog d 20 [c.pv, .int .i64 k] h (.tuple [.int .i64 (boundLife c k).1, .int .i64 (boundLife c k).2]) := by
  refine FnSpec.walk mixed (fun _ => false) (keyHere (d + 1)) Tryz.func20 rfl rfl rfl (by decide) rfl rfl (fun c0 => ?_)
  simp [-Receiver.pv, -Route.pv]
  apply FnRet.use
  · exact config_Right _ _ c hc
  cases hr : c.right with
  | false => simp [boundLife, hr]
  | true =>
    by_cases hk : k < 0
    · simp [boundLife, hr, hk]
    · simp [boundLife, hr, hk]
      apply FnRet.use
      · exact tick_Add _ _ _ _
      simp
theorem bound_Many (d : Nat) (h : PHeap) (c : Config) (who n : Int) (hc : c.Fits) (h0 : n ≤ 9223372036854775807) : FnRet Tryz.prog d 19 [c.pv, .int .i64 who, .int .i64 n] h (.tuple [.int .i64 (boundMany c who n).1, .int .i64 (boundMany c who n).2]) := by
  refine FnSpec.walk mixed (fun _ => false) (keyHere (d + 1)) Tryz.func19 rfl rfl rfl (by decide) rfl rfl (fun c0 => ?_)
  simp [-Receiver.pv, -Route.pv]
  apply FnRet.use
  · exact config_Right _ _ c hc
  cases hr : c.right with
  | false => simp [boundMany, hr]
  | true =>
    by_cases h1 : who < 0
    · simp [boundMany, hr, h1]
    by_cases h2 : (c.receivers.length : Int) ≤ who
    · simp [boundMany, hr, h1, h2, -Receiver.pv, -Route.pv]
    by_cases h3 : n < 1
    · simp [boundMany, hr, h1, h2, h3, -Receiver.pv, -Route.pv]
    have h1' : 0 ≤ who := by omega
    have hlt : who.toNat < c.receivers.length := by omega
    have hget : c.receivers[who.toNat]? = some c.receivers[who.toNat] := List.getElem?_eq_getElem hlt
    have hx := recv_ranges (right_ranges hr (List.getElem_mem hlt))
    have hw : IntKind.i64.wrap (n - 1) = n - 1 := wrap64 (by omega) (by omega)
    simp [boundMany, hr, h1, h1', h2, h3, hget, hlt, hw, everyAt]
    apply FnRet.use
    · exact bound_after _ _ (n - 1) _ (by omega) (tickRight_iff.2 (by omega))
    simp
end Go.Proofs.YtdclkdcgcfkopaaGreatDoor
namespace Go.Proofs.YtdclkdcgcfkopaaGreatDoor
open Go.Fh Go.Fog Go.RowKit

theorem least_fits : leastCfg.Fits := ⟨by decide, fun r hr => by simp [leastCfg] at hr; subst hr; exact ⟨by decide⟩, by decide, fun r hr => by simp [leastCfg] at hr; subst hr; exact ⟨by decide, by decide, fun m hm => by simp at hm⟩⟩
theorem law24_alive (d : Nat) (h : PHeap) (hg : Glob h) : FnRet Tryz.prog d 22 [] h (.bool true) := by
  refine FnSpec.walk mixed (fun _ => false) (keyHere (d + 1)) Tryz.func22 rfl rfl rfl (by decide) rfl rfl (fun c0 => ?_)
  have e1 : boundAlone leastCfg 3 = (21, 0) := by decide
  have e2 : boundMany leastCfg 0 4 = (13, 0) := by decide
  have e3 : boundLife leastCfg 7 = (37, 0) := by decide
  have a1 := fun d h => bound_Alone d h leastCfg 3 least_fits (by decide)
  have a2 := fun d h => bound_Many d h leastCfg 0 4 least_fits (by decide)
  have a3 := fun d h => bound_Life d h leastCfg 7 least_fits
  rw [e1] at a1
  rw [e2] at a2
  rw [e3] at a3
  simp [leastCfg] at a1 a2 a3
  simp
  apply FnRet.use
  · exact config_Parse _ _ leastText (by decide) (by simpa using hg)
  rw [parse_least]
  simp [leastCfg]
  repeat' (first
    | (with_reducible apply goIf.decide <;> (intro _; try simp [*, leastCfg]))
    | (with_reducible apply goIf.intro <;> (intro _; try simp [*, leastCfg]))
    | with_reducible apply And.intro
    | (with_reducible apply goDCall.intro; (focus (intro _ _; first | with_reducible exact a1 _ _ | with_reducible exact a2 _ _ | with_reducible exact a3 _ _)); try simp [*, leastCfg])
    | (with_reducible apply FnRet.use; (focus (first | with_reducible exact a1 _ _ | with_reducible exact a2 _ _ | with_reducible exact a3 _ _)); try simp [*, leastCfg]))
theorem law24_few (d : Nat) (h : PHeap) (c : Config) (hc : c.Fits) : FnRet Tryz.prog d 16 [c.pv] h ({ c with receivers := c.receivers.take 6, routes := c.routes.take 6, rr := .any, rt := .any } : Config).pv := by
  refine FnSpec.walk mixed (fun _ => true) (keyHere (d + 1)) Tryz.func16 rfl rfl rfl (by decide) rfl rfl (fun c0 => ?_)
  have m1 : ((min (c.receivers.length : Int) 6).toNat) = min c.receivers.length 6 := by omega
  have m2 : ((min (c.routes.length : Int) 6).toNat) = min c.routes.length 6 := by omega
  have p1 : (0 : Int) ≤ min (c.receivers.length : Int) 6 := by omega
  have p2 : (0 : Int) ≤ min (c.routes.length : Int) 6 := by omega
  have q1 : min (c.receivers.length : Int) 6 ≤ c.receivers.length := by omega
  have q2 : min (c.routes.length : Int) 6 ≤ c.routes.length := by omega
  have t1 : ∀ (f : Receiver → PV), List.take (min c.receivers.length 6) (List.map f c.receivers) = List.map f (c.receivers.take 6) := fun f => by rw [← List.map_take, List.take_eq_take_iff.2 (by omega : min (min c.receivers.length 6) c.receivers.length = min 6 c.receivers.length)]
  have t2 : ∀ (f : Route → PV), List.take (min c.routes.length 6) (List.map f c.routes) = List.map f (c.routes.take 6) := fun f => by rw [← List.map_take, List.take_eq_take_iff.2 (by omega : min (min c.routes.length 6) c.routes.length = min 6 c.routes.length)]
  simp [m1, m2, p1, p2, q1, q2, t1, t2, -Receiver.pv, -Route.pv, -List.map_take]
theorem few_fits {c : Config} (hc : c.Fits) : ({ c with receivers := c.receivers.take 6, routes := c.routes.take 6, rr := .any, rt := .any } : Config).Fits :=
  ⟨by simp; omega, fun r hr => hc.names r (List.mem_of_mem_take hr), by simp; omega, fun r hr => hc.each r (List.mem_of_mem_take hr)⟩
theorem law24_rises (d : Nat) (h : PHeap) (c : Config) (k who n off : Int) (hc : c.Fits) (hg : Glob h) : FnRet Tryz.prog d 5 [c.pv, .int .i64 k, .int .i64 who, .int .i64 n, .int .i64 off] h (.bool true) := by
  refine FnSpec.walk mixed (fun _ => true) (keyHere (d + 1)) Tryz.func5 rfl rfl rfl (by decide) rfl rfl (fun c0 => ?_)
  simp [-Receiver.pv, -Route.pv]
  apply FnRet.use
  · exact law24_few _ _ c hc
  have hf := few_fits hc
  generalize ({ c with receivers := c.receivers.take 6, routes := c.routes.take 6, rr := .any, rt := .any } : Config) = c' at hf
  simp [-Receiver.pv, -Route.pv]
  have hk := fold_in k
  have hn := fold_in n
  have ho := fold_off off
  generalize IntKind.i64.wrap (1 + (IntKind.i64.wrap (k.tmod 100 + 100)).tmod 100) = k' at hk
  generalize IntKind.i64.wrap (1 + (IntKind.i64.wrap (n.tmod 100 + 100)).tmod 100) = n' at hn
  generalize (IntKind.i64.wrap (off.tmod 1000 + 1000)).tmod 1000 = off' at ho
  apply FnRet.use
  · exact bound_Step _ _ c' hf
  cases hr : c'.right with
  | false =>
    simp [boundStep, hr, -Receiver.pv, -Route.pv]
    apply FnRet.use
    · exact law24_alive _ _ (by simpa using hg)
    simp [-Receiver.pv, -Route.pv]
  | true =>
    have hs := step_tick hr
    have hcf := config_few hr
    have e1 : boundStep c' = (stepOf c'.receivers, 0) := by simp [boundStep, hr]
    have wk : IntKind.i64.wrap (k' + 1) = k' + 1 := wrap64 (by omega) (by omega)
    have wo : IntKind.i64.wrap (off' + 1) = off' + 1 := wrap64 (by omega) (by omega)
    have wn : IntKind.i64.wrap (n' + 1) = n' + 1 := wrap64 (by omega) (by omega)
    have a1 := alone_small hr (k := k') (by omega) (by omega) hs.1 hs.2
    have a2 := alone_small hr (k := k' + 1) (by omega) (by omega) hs.1 hs.2
    have a3 := life_small hr (k := off') (by omega) (by omega) (by omega) (by omega)
    have a4 := life_small hr (k := off' + 1) (by omega) (by omega) (by omega) (by omega)
    have m1 := mul_small (n := k' - 1) (s := stepOf c'.receivers) (by omega) (by omega) hs.1 hs.2
    have m2 := mul_small (n := k' + 1 - 1) (s := stepOf c'.receivers) (by omega) (by omega) hs.1 hs.2
    have w1 : IntKind.i64.wrap (1 + (k' + 1 - 1) * stepOf c'.receivers - (1 + (k' - 1) * stepOf c'.receivers)) = stepOf c'.receivers := by rw [rise]; exact wrap64 (by omega) (by omega)
    have w2 : IntKind.i64.wrap (c'.beat + (off' + 1) - (c'.beat + off')) = 1 := by rw [show c'.beat + (off' + 1) - (c'.beat + off') = 1 by omega]; rfl
    rw [e1]
    generalize hA : 1 + (k' - 1) * stepOf c'.receivers = A at a1 w1
    generalize hB : 1 + (k' + 1 - 1) * stepOf c'.receivers = B at a2 w1
    generalize hX : c'.beat + off' = X at a3 w2
    generalize hY : c'.beat + (off' + 1) = Y at a4 w2
    simp [-Receiver.pv, -Route.pv]
    apply FnRet.use
    · exact bound_Alone _ _ c' k' hf (by omega)
    rw [a1]
    simp [wk, -Receiver.pv, -Route.pv]
    apply FnRet.use
    · exact bound_Alone _ _ c' (k' + 1) hf (by omega)
    rw [a2]
    simp [-Receiver.pv, -Route.pv]
    apply FnRet.use
    · exact bound_Life _ _ c' off' hf
    rw [a3]
    simp [wo, -Receiver.pv, -Route.pv]
    apply FnRet.use
    · exact bound_Life _ _ c' (off' + 1) hf
    rw [a4]
    simp [w1, w2, -Receiver.pv, -Route.pv]
    apply FnRet.use
    · exact law24_alive _ _ (by simpa using hg)
    simp [-Receiver.pv, -Route.pv]
    refine hLoop.walkW mixed (pos1 d) (fun _ => true) (keyHere (d + 1)) rfl [10, 22, 115, 116, 117, 118, 119, 120, 121, 122, 123, 124, 125, 126, 127, 128, 129, 130, 131, 132, 133, 134, 135, 136, 137, 138, 139, 140] (fun m σ => ∃ i, i + m = c'.receivers.length ∧ σ.t 115 = .int .i64 i ∧ σ.h (d + 1, 5) = (c0 (d + 1, 5) + 1, some (.cells [.list c'.rr (c'.receivers.map Receiver.pv), .list c'.rt (c'.routes.map Route.pv), .int .i64 c'.rep, .int .i64 c'.beat])) ∧ Own d σ.h (enterH d c0 h)) c'.receivers.length ⟨0, by simp, by simp, by simp, by simp [Own.refl]⟩ ?_
    rintro m t h' hW ⟨i, i1, i2, i3, i4⟩
    simp only at i2 i3 i4
    have lv2 := hW 2 rfl; have lv3 := hW 3 rfl; have lv5 := hW 5 rfl; have lv11 := hW 11 rfl; have lv113 := hW 113 rfl; have lv114 := hW 114 rfl
    simp [-Receiver.pv, -Route.pv] at lv2 lv3 lv5 lv11 lv113 lv114
    simp [lv2, lv3, lv5, lv11, lv113, lv114, i2, i3, -Receiver.pv, -Route.pv]
    refine goIf.decide (fun hi => ?_) (fun hi => ?_)
    · simp [lv2, lv3, lv5, lv11, lv113, lv114, i3, -Receiver.pv, -Route.pv]
      apply FnRet.use
      · exact bound_Many _ _ c' who n' hf (by omega)
      generalize hM : boundMany c' who n' = M1
      simp [lv2, lv3, lv5, lv11, lv113, lv114, i3, wn, -Receiver.pv, -Route.pv]
      apply FnRet.use
      · exact bound_Many _ _ c' who (n' + 1) hf (by omega)
      subst hM
      by_cases hw0 : who < 0
      · rw [many_out hr (.inl hw0), many_out hr (.inl hw0)]
        simp [lv2, lv3, lv5, lv11, lv113, lv114, i3, hw0, -Receiver.pv, -Route.pv]
        exact i4.leave
      by_cases hw1 : (c'.receivers.length : Int) ≤ who
      · rw [many_out hr (.inr hw1), many_out hr (.inr hw1)]
        simp [lv2, lv3, lv5, lv11, lv113, lv114, i3, hw0, hw1, -Receiver.pv, -Route.pv]
        exact i4.leave
      have hlt : who.toNat < c'.receivers.length := by omega
      have hget : c'.receivers[who.toNat]? = some c'.receivers[who.toNat] := List.getElem?_eq_getElem hlt
      have hx := recv_ranges (right_ranges hr (List.getElem_mem hlt))
      have he : everyAt c'.receivers who = c'.receivers[who.toNat].every := by simp [everyAt, hget]
      rw [many_small hr (by omega) (by omega) hw0 (by omega) (by omega) (by omega), many_small hr (by omega) (by omega) hw0 (by omega) (by omega) (by omega)]
      rw [he]
      have hp : 0 ≤ who := by omega
      have w3 : IntKind.i64.wrap (1 + (n' + 1 - 1) * c'.receivers[who.toNat].every - (1 + (n' - 1) * c'.receivers[who.toNat].every)) = c'.receivers[who.toNat].every := by rw [rise]; exact wrap64 (by omega) (by omega)
      generalize hP : 1 + (n' - 1) * c'.receivers[who.toNat].every = P at w3
      generalize hQ : 1 + (n' + 1 - 1) * c'.receivers[who.toNat].every = Q at w3
      simp [lv2, lv3, lv5, lv11, lv113, lv114, i3, hp, hw0, hw1, hlt, hget, w3, -Route.pv]
      exact i4.leave
    · have hi' : i < c'.receivers.length := by omega
      have hget : c'.receivers[i]? = some c'.receivers[i] := List.getElem?_eq_getElem hi'
      have hx := recv_ranges (right_ranges hr (List.getElem_mem hi'))
      have hy := stepOf_ge c'.receivers _ (List.getElem_mem hi')
      simp only [recWait] at hy
      have hwi : IntKind.i64.wrap ((i : Int) + 1) = i + 1 := wrap64 (by omega) (by omega)
      have q1 : ¬ stepOf c'.receivers < IntKind.i64.wrap (c'.receivers[i].top + c'.receivers[i].jitter) := by rw [wrap64 (by omega) (by omega)]; omega
      have q2 : ¬ stepOf c'.receivers < c'.receivers[i].every := by omega
      have q3 : ¬ stepOf c'.receivers < c'.receivers[i].opens := by omega
      simp [lv2, lv3, lv5, lv11, lv113, lv114, i2, i3, hi', hget, q1, q2, q3, -Route.pv]
      apply hInv.intro
      exact ⟨by simp, m - 1, by omega, i + 1, by omega, by simp [hwi], by simp [i3], by simpa using i4⟩
end Go.Proofs.YtdclkdcgcfkopaaGreatDoor
namespace Go.Proofs.YtdclkdcgcfkopaaGreatDoor
open Go Go.Fh Go.Fog Go.RowKit Go.ChangeShapes

theorem laidOut : laidOutB Tryz.prog = true := by kernel_rfl
theorem dec_int : Dec Tryz.prog 3 1 Int (fun z => [.int .i64 z]) (fun z => (Lit.int .i64 z).wf = true) := Dec.int (by kernel_rfl) Tryz.underlying3
theorem dec_str : Dec Tryz.prog 9 1 Str (fun z => [.str z]) (fun s => s.length ≤ maxLen) := Dec.str (by kernel_rfl) Tryz.underlying9
theorem dec_matcher : Dec Tryz.prog 59 3 Matcher (fun m => m.pv.cells) (fun m => Fog.Fits m.name ∧ Fog.Fits m.value) := by
  have h := Dec.struct (n := 1 + (1 + (1 + 0))) (by kernel_rfl) Tryz.underlying59 (DecF.cons rfl dec_int (DecF.cons rfl dec_str (DecF.cons rfl dec_str (DecF.nil _))))
  exact h.map (fun p => ⟨p.1, p.2.1, p.2.2.1⟩) (fun _ => rfl) (fun _ => rfl) (fun p hp => ⟨⟨hp.2.1⟩, ⟨hp.2.2.1⟩⟩)
theorem dec_back : Dec Tryz.prog 43 3 (Int × Int × Int) (fun b => [.int .i64 b.1, .int .i64 b.2.1, .int .i64 b.2.2]) (fun _ => True) := by
  have h := Dec.struct (n := 1 + (1 + (1 + 0))) (by kernel_rfl) Tryz.underlying43 (DecF.cons rfl dec_int (DecF.cons rfl dec_int (DecF.cons rfl dec_int (DecF.nil _))))
  exact h.map (fun p => (p.1, p.2.1, p.2.2.1)) (fun _ => rfl) (fun _ => rfl) (fun p hp => trivial)
theorem dec_receiver : Dec Tryz.prog 45 9 Receiver (fun r => r.pv.cells) (fun r => Fog.Fits r.name) := by
  have h := Dec.struct (n := 1 + (3 + (1 + (1 + (1 + (1 + (1 + 0))))))) (by kernel_rfl) Tryz.underlying45 (DecF.cons rfl dec_str (DecF.cons rfl dec_back (DecF.cons rfl dec_int (DecF.cons rfl dec_int (DecF.cons rfl dec_int (DecF.cons rfl dec_int (DecF.cons rfl dec_int (DecF.nil _))))))))
  exact h.map (fun p => ⟨p.1, p.2.1.1, p.2.1.2.1, p.2.1.2.2, p.2.2.1, p.2.2.2.1, p.2.2.2.2.1, p.2.2.2.2.2.1, p.2.2.2.2.2.2.1⟩) (fun _ => rfl) (fun _ => rfl) (fun p hp => ⟨hp.1⟩)
theorem dec_route : Dec Tryz.prog 90 2 Route (fun r => r.pv.cells) Route.Fits := by
  have h := Dec.struct (n := 1 + (1 + 0)) (by kernel_rfl) Tryz.underlying90 (DecF.cons rfl (Dec.slice (.int .i64) (fun _ => rfl) (by kernel_rfl) Tryz.underlying88 (by decide) dec_int) (DecF.cons rfl (Dec.slice Matcher.pv (fun _ => rfl) (by kernel_rfl) Tryz.underlying51 (by decide) dec_matcher) (DecF.nil _)))
  exact h.map (fun p => ⟨p.1, p.2.1, .any, .any⟩) (fun _ => rfl) (fun _ => rfl) (fun p hp => ⟨hp.1.1, hp.2.1.1, hp.2.1.2⟩)
theorem dec_config : Dec Tryz.prog 25 4 Config (fun c => c.pv.cells) Config.Fits := by
  have h := Dec.struct (n := 1 + (1 + (1 + (1 + 0)))) (by kernel_rfl) Tryz.underlying25 (DecF.cons rfl (Dec.slice Receiver.pv (fun _ => rfl) (by kernel_rfl) Tryz.underlying22 (by decide) dec_receiver) (DecF.cons rfl (Dec.slice Route.pv (fun _ => rfl) (by kernel_rfl) Tryz.underlying23 (by decide) dec_route) (DecF.cons rfl dec_int (DecF.cons rfl dec_int (DecF.nil _)))))
  exact h.map (fun p => ⟨p.1, p.2.1, p.2.2.1, p.2.2.2.1, .any, .any⟩) (fun _ => rfl) (fun _ => rfl) (fun p hp => ⟨hp.1.1, hp.1.2, hp.2.1.1, hp.2.1.2⟩)
section
variable {H : Type} {enc : TypeId × Value → H} {P : Program} {w : World} {base : Nat} {spare : Nat → Bool} {held : Bool}
theorem trodAll_five {t t' t'' t3 t4 : TypeId} {args : Array Value} {ds : List (DataW H)} {ps : List MemPlace} (h : DataW.TrodAll enc P w base spare held [t, t', t'', t3, t4] args.toList ds ps) :
    ∃ v v' v'' v3 v4 d d' d'' d3 d4 p p' p'' p3 p4, args = #[v, v', v'', v3, v4] ∧ ds = [d, d', d'', d3, d4] ∧ ps = p ++ p' ++ p'' ++ p3 ++ p4 ∧ DataW.Trod enc P w base spare held t v d p ∧ DataW.Trod enc P w base spare held t' v' d' p' ∧ DataW.Trod enc P w base spare held t'' v'' d'' p'' ∧ DataW.Trod enc P w base spare held t3 v3 d3 p3 ∧ DataW.Trod enc P w base spare held t4 v4 d4 p4 := by
  obtain ⟨v, vs, d, ds', p, q, hargs, rfl, rfl, hd, hrest⟩ := trodAll_cons h
  obtain ⟨v', vs', d', ds2, p', q', rfl, rfl, rfl, hd', hrest'⟩ := trodAll_cons hrest
  obtain ⟨v2, vs2, d2, ds2, p2, q2, rfl, rfl, rfl, hd2, hrest2⟩ := trodAll_cons hrest'
  obtain ⟨v3, vs3, d3, ds3, p3, q3, rfl, rfl, rfl, hd3, hrest3⟩ := trodAll_cons hrest2
  obtain ⟨v4, vs4, d4, ds4, p4, q4, rfl, rfl, rfl, hd4, hrest4⟩ := trodAll_cons hrest3
  obtain ⟨rfl, rfl, rfl⟩ := trodAll_nil hrest4
  exact ⟨v, v', v2, v3, v4, d, d', d2, d3, d4, p, p', p2, p3, p4, by cases args; simp_all, rfl, by simp, hd, hd', hd2, hd3, hd4⟩
theorem trodAll_mk5 {t t' t'' t3 t4 : TypeId} {v v' v'' v3 v4 : Value} {d d' d'' d3 d4 : DataW H} {p p' p'' p3 p4 : List MemPlace} (h : DataW.Trod enc P w base spare held t v d p) (h' : DataW.Trod enc P w base spare held t' v' d' p')
    (h'' : DataW.Trod enc P w base spare held t'' v'' d'' p'') (h3 : DataW.Trod enc P w base spare held t3 v3 d3 p3) (h4 : DataW.Trod enc P w base spare held t4 v4 d4 p4) : DataW.TrodAll enc P w base spare held [t, t', t'', t3, t4] [v, v', v'', v3, v4] [d, d', d'', d3, d4] (p ++ (p' ++ (p'' ++ (p3 ++ p4)))) := ⟨p, p' ++ (p'' ++ (p3 ++ p4)), h, trodAll_mk4 h' h'' h3 h4, rfl⟩
end
end Go.Proofs.YtdclkdcgcfkopaaGreatDoor
