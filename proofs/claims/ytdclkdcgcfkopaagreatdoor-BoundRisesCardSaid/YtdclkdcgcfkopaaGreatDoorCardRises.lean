/- It is proved that an alert's bounds rise evenly: one step more adds one step, one tick of life one tick, one repeat more one interval, for every config and every counts (BoundRises: the law answers true, and what it was given reads as before). Conditions: those of the given card: package-level variables begin as the program's text lays them; no memory is beyond the form's reach. -/
import Derived.Test.YtdclkdcgcfkopaaGreatDoorFun0
import Derived.Test.YtdclkdcgcfkopaaGreatDoorCards
import Derived.Test.YtdclkdcgcfkopaaGreatDoorTie
import Derived.Test.YtdclkdcgcfkopaaGreatDoorFhCard
import Derived.Carry
import Derived.SevenTiedAt
set_option linter.all false
namespace Go.Proofs.YtdclkdcgcfkopaaGreatDoor
open Go Go.Fh Go.Fog Go.RowKit Go.ChangeShapes Go.WideShapes Go.ChangeAt

theorem own : ownKnob Tryz.prog.godebug = none := by kernel_rfl

/-- A world that meets what is laid: the door's own run, and the one pinned table. -/
noncomputable def laidW (os : Os) : World :=
  let w0 := World.doorLaid Tryz.prog 400 os
  { w0 with heap := w0.heap.modify 2 fun
      | .cells _ t frozen => .cells (Pinned.utf8FirstZ.map fun n : Nat => Value.int .u8 n).toArray t frozen
      | o => o }
theorem laid_met (os : Os) (args : Array Value) : laidMetH Tryz.prog Rows.boundRisesRow.laid ((laidW os).forCall (fun _ _ => 0) ⟨#[], args, []⟩).memory :=
  laidMetH_of_parts3 (fuel := 8) (laidMet_of_run' 8 (by kernel_rfl) (by kernel_rfl)) (by kernel_rfl) (by kernel_rfl)
def globs (m : Int) (u v : TypeId) : List (Nat × List PV) := [(0, [.int .i64 m]), (1, Lib.pow10Tab.map (.int .u64)), (4, [.iface u .dead]), (5, [.iface v .dead])]
theorem globs_glob (m : Int) (u v : TypeId) : Glob (heap0 (globs m u v)) := ⟨⟨m, rfl⟩, rfl, ⟨u, rfl⟩, ⟨v, rfl⟩⟩
theorem globs_ok {W : World} (hs : W.ShapedOpen Tryz.prog) (hl : laidMetH Tryz.prog Rows.boundRisesRow.laid W) : ∃ m u v, ∀ g cs, (g, cs) ∈ globs m u v → GlobOk ghost0 W g cs := by
  rw [MakeChecks.laidMetH_plain _ _ _ (by kernel_rfl)] at hl
  have lt : ∀ {g : Nat}, decide (g < Tryz.prog.globals.size) = true → g < Tryz.prog.globals.size := fun h => of_decide_eq_true h
  obtain ⟨m, hm⟩ := GlobOk.someInt hs (g := 0) (k := .i64) (t := 3) (zero := #[.int .i64 0]) (lt (by kernel_rfl)) (by kernel_rfl) (by kernel_rfl) (by kernel_rfl) (by kernel_rfl) (by kernel_rfl)
  have tab : Lib.TabIs Tryz.prog W "internal/strconv.uint64pow10" .u64 Lib.pow10Tab := tab_laid hl (by unfold Rows.boundRisesRow; repeat (first | exact List.mem_cons_self | apply List.mem_cons_of_mem)) (g := 1) (t := 204) (e := 194) (m := 20) (by kernel_rfl) (by kernel_rfl) (by kernel_rfl) (by kernel_rfl) (by kernel_rfl) (by kernel_rfl)
  have hp := GlobOk.ints hs (g := 1) (t := 204) (zero := Array.replicate 20 (.int .u64 0)) (by kernel_rfl) (lt (by kernel_rfl)) (by kernel_rfl) tab
  obtain ⟨u, hu⟩ := GlobOk.iface hs hl (n := "strconv.ErrSyntax") (g := 4) (by unfold Rows.boundRisesRow; repeat (first | exact List.mem_cons_self | apply List.mem_cons_of_mem)) (by kernel_rfl) (lt (by kernel_rfl)) (t := 105) (zero := #[.nilIface]) (by kernel_rfl) (by kernel_rfl) Tryz.underlying105
  obtain ⟨v, hv⟩ := GlobOk.iface hs hl (n := "strconv.ErrRange") (g := 5) (by unfold Rows.boundRisesRow; repeat (first | exact List.mem_cons_self | apply List.mem_cons_of_mem)) (by kernel_rfl) (lt (by kernel_rfl)) (t := 105) (zero := #[.nilIface]) (by kernel_rfl) (by kernel_rfl) Tryz.underlying105
  refine ⟨m, u, v, fun g cs hgc => ?_⟩
  simp only [globs, List.mem_cons, Prod.mk.injEq, List.not_mem_nil, or_false] at hgc
  rcases hgc with ⟨rfl, rfl⟩ | ⟨rfl, rfl⟩ | ⟨rfl, rfl⟩ | ⟨rfl, rfl⟩
  · exact hm
  · exact hp
  · exact hu
  · exact hv

set_option maxRecDepth 100000 in
theorem lifted (os : Os) (started : os.Started) (H : Type) (enc : TypeId × Value → H) :
    ReturnsInHanded {} Tryz.checked os 5 .any (fun w args => (Rows.boundRisesSpec.pre enc Tryz.prog Tryz.f5 [] false w args ∧ laidMetH Tryz.prog Rows.boundRisesRow.laid w) ∧ sizedMet enc Tryz.prog Tryz.f5 (OpenSpec.ofChange Rows.boundRisesSpec) false w args)
      (Rows.boundRisesSpec.post enc Tryz.prog Tryz.f5 false true false false) := by
  refine returns_laid (C := Tryz.checked) (X := fun w _ => laidMetH Tryz.prog Rows.boundRisesRow.laid w) (fun _ _ _ hh h => h.of_heap hh) own started (by kernel_rfl) Tryz.func5
    (ChangeSpec.witness_shaped (enc := enc) (C := Tryz.checked) (os := os) (X := fun w _ => laidMetH Tryz.prog Rows.boundRisesRow.laid w) false (laidW os) #[.agg #[.slice none 0 0, .slice none 0 0, .int .i64 0, .int .i64 0], .int .i64 0, .int .i64 0, .int .i64 0, .int .i64 0] 8 rfl (World.shaped_of_RefB (by kernel_rfl) (by kernel_rfl)) (by kernel_rfl) (by kernel_rfl) (by kernel_rfl) (laid_met os _)) ?_
  intro W base args ds gs before hval0 hW hsz0 hL hS
  have hsz : (DataW.weightsEach Tryz.prog (Tryz.f5.params.toList ++ Rows.boundRisesSpec.plain.varTypes Tryz.prog) (ds ++ gs)).all (· ≤ reachBytes) = true := hsz0
  have hval : ∀ (j : Nat) t v, Tryz.f5.params[j]? = some t → args[j]? = some v → Value.okWide Tryz.prog W .any base t v := hval0
  have hW' := hW
  obtain ⟨p, q, hA0, hV, rfl, hfz, hnd⟩ := hW
  have hA : DataW.TrodAll enc Tryz.prog W 0 (fun _ => true) true Tryz.f5.params.toList args.toList ds p := hA0
  rw [Tryz.params5] at hA hval hsz
  have hlt : ∀ x ∈ p ++ q, x.block < W.heap.size := hW'.lt
  obtain ⟨v0, v1, v2, v3, v4, d0, d1, d2, d3, d4, p0, p1, p2, p3, p4, rfl, rfl, rfl, h0, h1, h2, h3, h4⟩ := trodAll_five hA
  obtain ⟨rfl, rfl⟩ := trodVars_none hV
  obtain ⟨cs, rfl⟩ := Fh.okWide_struct Tryz.underlying25 (hval 0 25 v0 rfl rfl)
  obtain ⟨c, hc, hP⟩ := dec_config.argN h0
  obtain ⟨a1, rfl, rfl, rfl, y1⟩ := open_int Tryz.underlying3 (hval 1 3 v1 rfl rfl) h1
  obtain ⟨a2, rfl, rfl, rfl, y2⟩ := open_int Tryz.underlying3 (hval 2 3 v2 rfl rfl) h2
  obtain ⟨a3, rfl, rfl, rfl, y3⟩ := open_int Tryz.underlying3 (hval 3 3 v3 rfl rfl) h3
  obtain ⟨a4, rfl, rfl, rfl, y4⟩ := open_int Tryz.underlying3 (hval 4 3 v4 rfl rfl) h4
  clear hA0 hval0 hsz0 hsz
  obtain ⟨m, u, v, hg⟩ := globs_ok hS hL
  refine ((law24_rises 0 (heap0 (globs m u v)) c a1 a2 a3 a4 hc (globs_glob m u v)).calls hg (PRels.cat (vs := [.agg cs]) (us := [.int .i64 a1, .int .i64 a2, .int .i64 a3, .int .i64 a4]) (.one (hP _ ghost0_M)) (PRels.cat (vs := [.int .i64 a1]) (us := [.int .i64 a2, .int .i64 a3, .int .i64 a4]) (.one (.int _ _)) (PRels.cat (vs := [.int .i64 a2]) (us := [.int .i64 a3, .int .i64 a4]) (.one (.int _ _)) (PRels.cat (vs := [.int .i64 a3]) (us := [.int .i64 a4]) (.one (.int _ _)) (.one (.int _ _))))))).mono fun e W' ⟨he, bel⟩ => ?_
  subst he
  have k0 := Below.trod laidOut (by kernel_rfl) (of_decide_eq_true (by kernel_rfl)) h0 bel (fun x hx => hlt x (by simp [hx]))
  exact ⟨_, rfl, _, _, _, [], _, _, hW', trodAll_mk1 (shut_bool Tryz.underlying4 _), trodAll_mk5 k0 (shut_int Tryz.underlying3 y1) (shut_int Tryz.underlying3 y2) (shut_int Tryz.underlying3 y3) (shut_int Tryz.underlying3 y4), rfl, bel.frame _, fun h => by cases h⟩

theorem boundRises_row : Rows.BoundRisesSaid :=
  OpenClaim.holds_of_wide 5 Tryz.f5 rfl rfl rfl rfl rfl rfl rfl ⟨rfl, rfl, rfl, rfl, rfl⟩ rfl rfl rfl rfl rfl (by kernel_rfl) Tryz.func5 (by kernel_rfl)
    (of_decide_eq_true (by kernel_rfl)) (by unfold Func.isWrapper; first | (rw [if_pos (by decide +kernel)]; kernel_rfl) | (rw [if_neg (by decide +kernel)]; exact ⟨rfl, rfl⟩))
    (fun os started H enc _ => lifted os started H enc)
theorem boundRises_holds : Rows.BoundRisesCardSaid :=
  Claim7.holds_tied_plain_at .later [] [.data, .data, .data, .data, .sentinel, .sentinel, .pinned] true (true, "8f3aeab6a87673fb87f0cc98c4bd052b52a284d88414f5d2c71ba475e93445ae") true
    boundRises_row (fun _ h => by cases h) (by kernel_rfl) (fun _ h => by cases h) boundRises_row_tie rfl ⟨rfl, rfl⟩ (by kernel_rfl) rfl
    (fun f fn hf hfn => by
      obtain rfl : f = 5 := Option.some.inj ((show Tryz.prog.funcNamed "foghorn/foghornlaw24.BoundRises" = some 5 by kernel_rfl).symm.trans hf) |>.symm
      obtain rfl : fn = Tryz.f5 := (Option.some.inj (Tryz.func5.symm.trans hfn)).symm
      exact ⟨by kernel_rfl, fun j t ht => by
        rw [Tryz.params5] at ht
        have h9 : t = 25 ∨ t = 3 := by
          rcases j with _ | _ | _ | _ | _ | j
          · exact .inl (by simpa using ht.symm)
          all_goals first | exact .inr (by simpa using ht.symm) | simp at ht
        rcases h9 with rfl | rfl
        · exact (show Tryz.prog.wantsStandIn 25 = false by kernel_rfl)
        · exact (show Tryz.prog.wantsStandIn 3 = false by kernel_rfl)⟩)
    (by kernel_rfl)
#print axioms boundRises_holds
end Go.Proofs.YtdclkdcgcfkopaaGreatDoor
