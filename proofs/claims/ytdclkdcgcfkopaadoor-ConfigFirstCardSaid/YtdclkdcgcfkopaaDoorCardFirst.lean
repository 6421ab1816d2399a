/- It is proved that, whatever stands behind a config's text, its first line that is wrong is told (ConfigFirst: for every two texts the law answers true, and they read as before). Conditions: those of the given card: package-level variables begin as the program's text lays them; no memory is beyond the form's reach. -/
import Derived.Test.YtdclkdcgcfkopaaDoorFun0
import Derived.Test.YtdclkdcgcfkopaaDoorCards
import Derived.Test.YtdclkdcgcfkopaaDoorTie
import Derived.Test.YtdclkdcgcfkopaaDoorFhCard
import Derived.SevenTiedAt
set_option linter.all false
namespace Go.Proofs.YtdclkdcgcfkopaaDoor
open Go Go.Fh Go.Fog Go.RowKit Go.ChangeShapes Go.WideShapes Go.ChangeAt
open Go.ChangeMaps (open_string shut_string)

theorem own : ownKnob Tryd.prog.godebug = none := by kernel_rfl

/-- A world that meets what is laid: the door's own run, and the one pinned table. -/
noncomputable def laidW (os : Os) : World :=
  let w0 := World.doorLaid Tryd.prog 400 os
  { w0 with heap := w0.heap.modify 1 fun
      | .cells _ t frozen => .cells (Pinned.utf8FirstZ.map fun n : Nat => Value.int .u8 n).toArray t frozen
      | o => o }
theorem laid_met (os : Os) (args : Array Value) : laidMetH Tryd.prog Rows.configFirstRow.laid ((laidW os).forCall (fun _ _ => 0) ⟨#[], args, []⟩).memory :=
  laidMetH_of_parts3 (fuel := 8) (laidMet_of_run' 8 (by kernel_rfl) (by kernel_rfl)) (by kernel_rfl) (by kernel_rfl)
def globs (m : Int) (u v : TypeId) : List (Nat × List PV) := [(0, [.int .i64 m]), (5, Lib.pow10Tab.map (.int .u64)), (3, [.iface u .dead]), (4, [.iface v .dead])]
theorem globs_glob (m : Int) (u v : TypeId) : Glob (heap0 (globs m u v)) := ⟨⟨m, rfl⟩, rfl, ⟨u, rfl⟩, ⟨v, rfl⟩⟩
theorem globs_ok {W : World} (hs : W.ShapedOpen Tryd.prog) (hl : laidMetH Tryd.prog Rows.configFirstRow.laid W) : ∃ m u v, ∀ g cs, (g, cs) ∈ globs m u v → GlobOk ghost0 W g cs := by
  rw [MakeChecks.laidMetH_plain _ _ _ (by kernel_rfl)] at hl
  have lt : ∀ {g : Nat}, decide (g < Tryd.prog.globals.size) = true → g < Tryd.prog.globals.size := fun h => of_decide_eq_true h
  obtain ⟨m, hm⟩ := GlobOk.someInt hs (g := 0) (k := .i64) (t := 3) (zero := #[.int .i64 0]) (lt (by kernel_rfl)) (by kernel_rfl) (by kernel_rfl) (by kernel_rfl) (by kernel_rfl) (by kernel_rfl)
  have tab : Lib.TabIs Tryd.prog W "internal/strconv.uint64pow10" .u64 Lib.pow10Tab := tab_laid hl (by unfold Rows.configFirstRow; repeat (first | exact List.mem_cons_self | apply List.mem_cons_of_mem)) (g := 5) (t := 141) (e := 123) (m := 20) (by kernel_rfl) (by kernel_rfl) (by kernel_rfl) (by kernel_rfl) (by kernel_rfl) (by kernel_rfl)
  have hp := GlobOk.ints hs (g := 5) (t := 141) (zero := Array.replicate 20 (.int .u64 0)) (by kernel_rfl) (lt (by kernel_rfl)) (by kernel_rfl) tab
  obtain ⟨u, hu⟩ := GlobOk.iface hs hl (n := "strconv.ErrSyntax") (g := 3) (by unfold Rows.configFirstRow; repeat (first | exact List.mem_cons_self | apply List.mem_cons_of_mem)) (by kernel_rfl) (lt (by kernel_rfl)) (t := 75) (zero := #[.nilIface]) (by kernel_rfl) (by kernel_rfl) Tryd.underlying75
  obtain ⟨v, hv⟩ := GlobOk.iface hs hl (n := "strconv.ErrRange") (g := 4) (by unfold Rows.configFirstRow; repeat (first | exact List.mem_cons_self | apply List.mem_cons_of_mem)) (by kernel_rfl) (lt (by kernel_rfl)) (t := 75) (zero := #[.nilIface]) (by kernel_rfl) (by kernel_rfl) Tryd.underlying75
  refine ⟨m, u, v, fun g cs hgc => ?_⟩
  simp only [globs, List.mem_cons, Prod.mk.injEq, List.not_mem_nil, or_false] at hgc
  rcases hgc with ⟨rfl, rfl⟩ | ⟨rfl, rfl⟩ | ⟨rfl, rfl⟩ | ⟨rfl, rfl⟩
  · exact hm
  · exact hp
  · exact hu
  · exact hv

set_option maxRecDepth 100000 in
theorem lifted (os : Os) (started : os.Started) (H : Type) (enc : TypeId × Value → H) :
    ReturnsInHanded {} Tryd.checked os 3 .any (fun w args => (Rows.configFirstSpec.pre enc Tryd.prog Tryd.f3 [] false w args ∧ laidMetH Tryd.prog Rows.configFirstRow.laid w) ∧ sizedMet enc Tryd.prog Tryd.f3 (OpenSpec.ofChange Rows.configFirstSpec) false w args)
      (Rows.configFirstSpec.post enc Tryd.prog Tryd.f3 false true false false) := by
  refine returns_laid (C := Tryd.checked) (X := fun w _ => laidMetH Tryd.prog Rows.configFirstRow.laid w) (fun _ _ _ hh h => h.of_heap hh) own started (by kernel_rfl) Tryd.func3
    (ChangeSpec.witness_shaped (enc := enc) (C := Tryd.checked) (os := os) (X := fun w _ => laidMetH Tryd.prog Rows.configFirstRow.laid w) false (laidW os) #[.string ByteArray.empty, .string ByteArray.empty] 8 rfl (World.shaped_of_RefB (by kernel_rfl) (by kernel_rfl)) (by kernel_rfl) (by kernel_rfl) (by kernel_rfl) (laid_met os _)) ?_
  intro W base args ds gs before hval0 hW hsz0 hL hS
  have hsz : (DataW.weightsEach Tryd.prog (Tryd.f3.params.toList ++ Rows.configFirstSpec.plain.varTypes Tryd.prog) (ds ++ gs)).all (· ≤ reachBytes) = true := hsz0
  have hval : ∀ (j : Nat) t v, Tryd.f3.params[j]? = some t → args[j]? = some v → Value.okWide Tryd.prog W .any base t v := hval0
  have hW' := hW
  obtain ⟨p, q, hA0, hV, rfl, hfz, hnd⟩ := hW
  have hA : DataW.TrodAll enc Tryd.prog W 0 (fun _ => true) true Tryd.f3.params.toList args.toList ds p := hA0
  rw [Tryd.params3] at hA hval hsz
  obtain ⟨v0, v1, d0, d1, p0, p1, rfl, rfl, rfl, h0, h1⟩ := trodAll_two hA
  obtain ⟨rfl, rfl⟩ := trodVars_none hV
  obtain ⟨a0, rfl, rfl, rfl, y0⟩ := open_string Tryd.underlying9 (hval 0 9 v0 rfl rfl) h0
  obtain ⟨a1, rfl, rfl, rfl, y1⟩ := open_string Tryd.underlying9 (hval 1 9 v1 rfl rfl) h1
  have w0 : a0.data.toList.length ≤ 140737488351232 := sized_string hsz (j := 0) (t := 9) rfl rfl
  have w1 : a1.data.toList.length ≤ 140737488351232 := sized_string hsz (j := 1) (t := 9) rfl rfl
  clear hA0 hval0 hsz0 hsz
  obtain ⟨m, u, v, hg⟩ := globs_ok hS hL
  refine ((law_first 0 (heap0 (globs m u v)) a0.data.toList a1.data.toList w0 w1 (globs_glob m u v)).calls hg (PRels.cat (vs := [.string a0]) (us := [.string a1]) (.one (.str _)) (.one (.str _)))).mono fun e W' ⟨he, bel⟩ => ?_
  subst he
  exact ⟨_, rfl, _, _, _, [], _, [], hW', trodAll_mk1 (shut_bool Tryd.underlying4 _), trodAll_mk2 (shut_string Tryd.underlying9 y0) (shut_string Tryd.underlying9 y1), rfl, bel.frame _, fun h => by cases h⟩

theorem configFirst_row : Rows.ConfigFirstSaid :=
  OpenClaim.holds_of_wide 3 Tryd.f3 rfl rfl rfl rfl rfl rfl rfl ⟨rfl, rfl, rfl, rfl, rfl⟩ rfl rfl rfl rfl rfl (by kernel_rfl) Tryd.func3 (by kernel_rfl)
    (of_decide_eq_true (by kernel_rfl)) (by unfold Func.isWrapper; first | (rw [if_pos (by decide +kernel)]; kernel_rfl) | (rw [if_neg (by decide +kernel)]; exact ⟨rfl, rfl⟩))
    (fun os started H enc _ => lifted os started H enc)
theorem configFirst_holds : Rows.ConfigFirstCardSaid :=
  Claim7.holds_tied_plain_at .later [] [.data, .data, .data, .data, .sentinel, .sentinel, .pinned] true (true, "d02d633ae2a89a6457e5b26f8f0918d55feb6094289c893f76cf1dc3abc1b757") true
    configFirst_row (fun _ h => by cases h) (by kernel_rfl) (fun _ h => by cases h) configFirst_row_tie rfl ⟨rfl, rfl⟩ (by kernel_rfl) rfl
    (fun f fn hf hfn => by
      obtain rfl : f = 3 := Option.some.inj ((show Tryd.prog.funcNamed "foghorn/foghornlaw13.ConfigFirst" = some 3 by kernel_rfl).symm.trans hf) |>.symm
      obtain rfl : fn = Tryd.f3 := (Option.some.inj (Tryd.func3.symm.trans hfn)).symm
      exact ⟨by kernel_rfl, fun j t ht => by
        rw [Tryd.params3] at ht
        have h9 : t = 9 := by
          rcases j with _ | _ | j
          · simpa using ht.symm
          · simpa using ht.symm
          · simp at ht
        subst h9
        exact (show Tryd.prog.wantsStandIn 9 = false by kernel_rfl)⟩)
    (by kernel_rfl)
#print axioms configFirst_holds
end Go.Proofs.YtdclkdcgcfkopaaDoor
