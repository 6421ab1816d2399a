/- These operations are what the model does. -/
import Derived.Test.YtdclkdcgcfkopaaGreatDoorFhX
set_option linter.all false
namespace Go.Fh
open Go.RowKit

theorem keyOk_iff {d : Nat} {k : Key} : keyOk d k = true ↔ k.1 ≤ d ∧ 0 < k.1 := by simp [keyOk]

theorem evX_sound {P : Program} {d : Nat} {ky : Tmp → Key} {o : Oper} {ρ : Operand → PV} {ρv : Operand → Value} {r : PV} {G : Ghost} {h h' : PHeap} {w : World} (S : SimH d G h w) (hρ : ∀ x, PRel G w (ρ x) (ρv x))
    (hev : evX P d ky o.dst o.op ρ h = some (r, h')) : RunW P d G h w (execOp ρv o) r h' := by
  unfold evX at hev
  unfold execOp
  split at hev <;> rename_i hop <;> simp only [hop]
  · rename_i t x
    split at hev
    · rename_i n sz by0 z s hd hi hx
      split at hev
      · rename_i hk
        cases hev
        obtain ⟨G', E, S', hc, hl⟩ := new_obj S hk (.stringIter (mkStr s) 0) (.iter s 0) 0 (fun G' w' L hlo hh => .iter s 0 hlo hh)
        have hp := hρ x
        rw [hx] at hp
        generalize ρv x = v at hp
        cases hp
        obtain ⟨td, htd, hkk⟩ := tinfo_under hi
        have htd' : P.underlying t = some .string := by rw [htd, tkind_str hkk.symm]
        refine ⟨_, _, _, G', ?_, .inl rfl, E, S', .iter (ky n) _ (some ⟨w.heap.size, 0, none⟩) (Nat.le_of_eq hc) fun _ L hL => by rw [hl] at hL; cases hL; rfl⟩
        simp only [Sem.run_bind, run_range_string w t (mkStr s) htd', Result.andThen_ok, Sem.run_pure]
        rfl
      · cases hev
    · cases hev
  · rename_i it
    split at hev
    · rename_i k ver hit
      split at hev
      · rename_i v s pos hk
        split at hev
        · rename_i hv
          subst hv
          obtain ⟨L, hL, hcn, hb, hO⟩ := S.at hk
          have hp := hρ it
          rw [hit] at hp
          generalize ρv it = u at hp
          cases hp with
          | iter _ _ A hv hloc =>
          have hA := hloc hcn L hL
          subst hA
          cases hO with
          | iter _ _ hlo hh =>
          have hrun := run_next_at (P := P) o.type hh
          rw [mkStr_size] at hrun
          split at hev
          · rename_i hlt
            cases hev
            rw [if_pos hlt] at hrun
            have O := Only.setObj (w := w) (b := L.b) (.stringIter (mkStr s) (pos + (Utf8.decode (mkStr s) pos).2))
            have E := Ext.of_only S hL hlo O
            have S' := S.upd hL hlo O (po := .iter s (pos + (Utf8.decode (mkStr s) pos).2)) (.iter _ _ hlo (setObj_at hb _))
            rw [hk] at S'
            exact ⟨_, _, _, G, by simp only [Sem.run_bind, hrun, Result.andThen_ok, Sem.run_pure], .inl rfl, E, S', PRel.tuple3 (.bool true) (.int _ _) (.int _ _)⟩
          · rename_i hlt
            cases hev
            rw [if_neg hlt] at hrun
            exact ⟨_, _, _, G, by simp only [Sem.run_bind, hrun, Result.andThen_ok, Sem.run_pure], .inl rfl, Ext.refl G w, S, PRel.tuple1 (.bool false)⟩
        · cases hev
      · cases hev
    · cases hev
  · rename_i t
    split at hev
    · rename_i n hd
      split at hev
      · rename_i hk
        cases hev
        obtain ⟨G', E, S', hc, hl⟩ := new_obj S hk (.map #[] 0) (.map []) 0 (fun G' w' L hlo hh => .map [] #[] 0 hlo hh rfl fun i p x a => by simp at a)
        refine ⟨_, _, _, G', ?_, .inl rfl, E, S', .mapr (ky n) _ (some w.heap.size) (Nat.le_of_eq hc) fun _ L hL => by rw [hl] at hL; cases hL; rfl⟩
        simp only [Instr.makeMap, Option.map_none, Sem.run_bind, Sem.run_pure, Result.andThen_ok, run_newObj]
        rfl
      · cases hev
    · cases hev
  all_goals try (
    rename_i t m k x
    split at hev
    · rename_i kt et sz0 by0 z key ver hi hm
      split at hev
      · rename_i ki v es hki hk
        split at hev
        · rename_i hc
          obtain ⟨rfl, hkk⟩ := hc
          have hpm := hρ m
          rw [hm] at hpm
          split at hev
          · rename_i i q hf
            cases hev
            obtain ⟨w', hrun, E, S'⟩ := mapUpdate_sound S hi hki hk hpm (hρ k) (hρ x) hf hkk
            exact ⟨.skip, undef, w', G, by simp only [Sem.run_bind, hrun, Result.andThen_ok, Sem.run_pure], .inr ⟨rfl, rfl⟩, E, S', .dead _⟩
          · rename_i hf
            cases hev
            obtain ⟨w', hrun, E, S'⟩ := mapUpdate_sound S hi hki hk hpm (hρ k) (hρ x) hf hkk
            exact ⟨.skip, undef, w', G, by simp only [Sem.run_bind, hrun, Result.andThen_ok, Sem.run_pure], .inr ⟨rfl, rfl⟩, E, S', .dead _⟩
          · cases hev
        · cases hev
      · cases hev
    · cases hev)
  · rename_i t m k ok
    split at hev
    · rename_i kt et sz0 by0 z0 key ver hi hm
      split at hev
      · rename_i ki z v es hki hz hk
        split at hev
        · rename_i hc
          obtain ⟨rfl, hkk⟩ := hc
          have hpm := hρ m
          rw [hm] at hpm
          split at hev
          · rename_i i q hf
            cases hev
            obtain ⟨u, hrun, hr⟩ := lookup_sound S hi hki hz hk hpm (hρ k) hf hkk ok
            exact ⟨_, u, w, G, by simp only [Sem.run_bind, hrun, Result.andThen_ok, Sem.run_pure], .inl rfl, Ext.refl G w, S, hr⟩
          · rename_i hf
            cases hev
            obtain ⟨u, hrun, hr⟩ := lookup_sound S hi hki hz hk hpm (hρ k) hf hkk ok
            exact ⟨_, u, w, G, by simp only [Sem.run_bind, hrun, Result.andThen_ok, Sem.run_pure], .inl rfl, Ext.refl G w, S, hr⟩
          · cases hev
        · cases hev
      · cases hev
    · cases hev
  · rename_i args argTypes
    split at hev
    · rename_i s x t t' ha hat
      split at hev
      · rename_i htt
        subst htt
        split at hev
        · rename_i e sz0 by0 z0 hi
          split at hev
          · rename_i ke size bytes zz hie
            split at hev
            · rename_i room es r2 xs n hs hx hd
              split at hev
              · rename_i hok
                simp only [Option.some.injEq] at hev
                unfold appOk at hok
                simp only [Bool.and_eq_true, decide_eq_true_eq, beq_iff_eq, List.all_eq_true, Bool.or_eq_true] at hok
                obtain ⟨h1, h2, h3, h4, h5, h6, h7, h8, h9⟩ := hok
                rw [keyOk_iff] at h1
                have hps := hρ s
                have hpx := hρ x
                rw [hs] at hps
                rw [hx] at hpx
                obtain ⟨v', w', G', hrun, E, S', R⟩ := append_sound (P := P) S h1.1 h1.2 (ty := o.type) hi hie h2 h3 hps hpx h4 (fun e he => ⟨(h5 e he).1, List.all_eq_true.2 (h5 e he).2⟩) (fun hne => h6.resolve_left (by simpa using hne)) (fun k ver sz hr => by subst hr; simpa using h7) h8 h9
                rw [hev] at S' R
                refine ⟨_, v', w', G', ?_, .inl rfl, E, S', R⟩
                have harr : args = #[s, x] := Array.toList_inj.1 (by simpa using ha)
                have harr2 : argTypes = #[t, t] := Array.toList_inj.1 (by simpa using hat)
                subst harr harr2
                simp only [resolve, invoke, builtin, Sem.run_bind, Sem.run_pure, Result.andThen_ok, List.map_toArray, List.map_cons, List.map_nil, hrun]
              · cases hev
            · cases hev
          · cases hev
        · cases hev
      · cases hev
    · cases hev
  · cases hev
end Go.Fh
