/-
  For every three numbers, and every pass and halt, WaveJudges returns true; the table crc.steps starts as the program lays it.
-/
import Derived.Test.YthabnmihfgoabaaDoorLwD
import Derived.Test.YthabnmihfgoabaaDoorCards
namespace Go.Proofs.YthabnmihfgoabaaDoor
open Go Go.Eng Go.ChangeShapes Go.WideShapes Go.ChangeAt Go.RowKit
set_option maxRecDepth 100000

set_option maxRecDepth 100000 in
theorem waveJudges_lifted (os : Os) (started : os.Started) (H : Type) (enc : TypeId × Value → H) :
    ReturnsInHanded {} Tryd.checked os 4 .any (fun w args => (Rows.waveJudgesSpec.pre enc Tryd.prog Tryd.f4 [] false w args ∧ laidMetH Tryd.prog Rows.waveJudgesRow.laid w) ∧ sizedMet enc Tryd.prog Tryd.f4 (OpenSpec.ofChange Rows.waveJudgesSpec) false w args)
      (Rows.waveJudgesSpec.post enc Tryd.prog Tryd.f4 false true false false) := by
  refine returnsInHanded_of_change_and (C := Tryd.checked) (X := fun w _ => laidMetH Tryd.prog Rows.waveJudgesRow.laid w) (fun _ _ _ hh h => h.of_heap hh) own started (by kernel_rfl) Tryd.func4
    (ChangeSpec.witness_shaped (enc := enc) (C := Tryd.checked) (os := os) (X := fun w _ => laidMetH Tryd.prog Rows.waveJudgesRow.laid w) false (World.doorLaid Tryd.prog 400 os) #[.agg #[.int .i64 0, .int .i64 0, .int .i64 0], .int .i64 0, .int .i64 0] 8 rfl (World.shaped_of_RefB (by kernel_rfl) (by kernel_rfl)) (by kernel_rfl) (by kernel_rfl) (by kernel_rfl) (door_met os _)) ?_
  intro W base args ds gs before hval0 hW _ _ hL _
  have hval : ∀ (j : Nat) t v, Tryd.f4.params[j]? = some t → args[j]? = some v → Value.okWide Tryd.prog W .any base t v := hval0
  have hW' := hW
  obtain ⟨p, q, hA0, hV, rfl, hfz, hnd⟩ := hW
  have hA : DataW.TrodAll enc Tryd.prog W 0 (fun _ => true) true Tryd.f4.params.toList args.toList ds p := hA0
  rw [Tryd.params4] at hA hval
  obtain ⟨v0, v1, v2, d0, d1, d2, p0, p1, p2, rfl, rfl, rfl, h0, h1, h2⟩ := trodAll_three hA
  obtain ⟨rfl, rfl⟩ := trodVars_none hV
  obtain ⟨zs0, hl0, rfl, -⟩ := open_arrI Tryd.underlying31 Tryd.underlying3 cells3 cells31 (hval 0 31 v0 rfl rfl) h0
  obtain ⟨y0a, y0b, y0c, rfl⟩ := list3 hl0
  obtain ⟨z1, rfl, rfl, rfl, -⟩ := open_int Tryd.underlying3 (hval 1 3 v1 rfl rfl) h1
  obtain ⟨z2, rfl, rfl, rfl, -⟩ := open_int Tryd.underlying3 (hval 2 3 v2 rfl rfl) h2
  have hst := of_laid hL
  refine (judges stepsL y0a y0b y0c z1 z2 W _ (fun _ => rfl) hst).mono fun e W' ⟨v, h', hr, ⟨hv, hs⟩, ho, hk⟩ => ?_
  subst hv
  exact ⟨_, hr, law_post laidOut rfl Tryd.underlying4 rfl (by kernel_rfl) rfl rfl rfl hW' (below_of (fun _ => rfl) ho hs hk)⟩

theorem waveJudges_row : Rows.WaveJudgesSaid :=
  OpenClaim.holds_of_wide 4 Tryd.f4 rfl rfl rfl rfl rfl rfl rfl ⟨rfl, rfl, rfl, rfl, rfl⟩ rfl rfl rfl rfl rfl (by kernel_rfl) Tryd.func4 (by kernel_rfl)
    (of_decide_eq_true (by kernel_rfl)) (by unfold Func.isWrapper; first | (rw [if_pos (by decide +kernel)]; kernel_rfl) | (rw [if_neg (by decide +kernel)]; exact ⟨rfl, rfl⟩))
    (fun os started H enc _ => waveJudges_lifted os started H enc)

theorem waveJudges_holds : Rows.WaveJudgesCardSaid :=
  Claim7.holds_tied_plain_at .later [] [.data] true (true, "c4527f0deef4b31a6ff9f52715a8e2c2b17aefa6d81f27d9e8849f7b496538e0") false
    waveJudges_row (fun _ h => by cases h) (by kernel_rfl) (fun _ h => by cases h) waveJudges_row_tie rfl ⟨rfl, rfl⟩ (by kernel_rfl) rfl
    (fun f fn hf hfn => by
      obtain rfl : f = 4 := Option.some.inj ((show Tryd.prog.funcNamed "pennant/pennantlaw15.WaveJudges" = some 4 by kernel_rfl).symm.trans hf) |>.symm
      obtain rfl : fn = Tryd.f4 := (Option.some.inj (Tryd.func4.symm.trans hfn)).symm
      exact ⟨by kernel_rfl, fun j t ht => by
        rw [Tryd.params4] at ht
        have hm : t ∈ [31, 3, 3] := by simpa using Array.mem_of_getElem? ht
        have hall : ([31, 3, 3].all fun u => !Tryd.prog.wantsStandIn u) = true := by kernel_rfl
        exact (show Tryd.prog.wantsStandIn t = false by simpa using List.all_eq_true.1 hall t hm)⟩)
    (by kernel_rfl)

end Go.Proofs.YthabnmihfgoabaaDoor
