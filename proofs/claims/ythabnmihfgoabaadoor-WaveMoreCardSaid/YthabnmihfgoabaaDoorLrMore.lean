/-
  For every three numbers, every two parts and every more, WaveMore returns true; the table crc.steps starts as the program lays it.
-/
import Derived.Test.YthabnmihfgoabaaDoorLwD
import Derived.Test.YthabnmihfgoabaaDoorCards
namespace Go.Proofs.YthabnmihfgoabaaDoor
open Go Go.Eng Go.ChangeShapes Go.WideShapes Go.ChangeAt Go.RowKit
set_option maxRecDepth 100000

set_option maxRecDepth 100000 in
theorem waveMore_lifted (os : Os) (started : os.Started) (H : Type) (enc : TypeId × Value → H) :
    ReturnsInHanded {} Tryd.checked os 7 .any (fun w args => (Rows.waveMoreSpec.pre enc Tryd.prog Tryd.f7 [] false w args ∧ laidMetH Tryd.prog Rows.waveMoreRow.laid w) ∧ sizedMet enc Tryd.prog Tryd.f7 (OpenSpec.ofChange Rows.waveMoreSpec) false w args)
      (Rows.waveMoreSpec.post enc Tryd.prog Tryd.f7 false true false false) := by
  refine returnsInHanded_of_change_and (C := Tryd.checked) (X := fun w _ => laidMetH Tryd.prog Rows.waveMoreRow.laid w) (fun _ _ _ hh h => h.of_heap hh) own started (by kernel_rfl) Tryd.func7
    (ChangeSpec.witness_shaped (enc := enc) (C := Tryd.checked) (os := os) (X := fun w _ => laidMetH Tryd.prog Rows.waveMoreRow.laid w) false (World.doorLaid Tryd.prog 400 os) #[.agg #[.int .i64 0, .int .i64 0, .int .i64 0], .agg #[.int .i64 0, .int .i64 0], .int .i64 0] 8 rfl (World.shaped_of_RefB (by kernel_rfl) (by kernel_rfl)) (by kernel_rfl) (by kernel_rfl) (by kernel_rfl) (door_met os _)) ?_
  intro W base args ds gs before hval0 hW _ _ hL _
  have hval : ∀ (j : Nat) t v, Tryd.f7.params[j]? = some t → args[j]? = some v → Value.okWide Tryd.prog W .any base t v := hval0
  have hW' := hW
  obtain ⟨p, q, hA0, hV, rfl, hfz, hnd⟩ := hW
  have hA : DataW.TrodAll enc Tryd.prog W 0 (fun _ => true) true Tryd.f7.params.toList args.toList ds p := hA0
  rw [Tryd.params7] at hA hval
  obtain ⟨v0, v1, v2, d0, d1, d2, p0, p1, p2, rfl, rfl, rfl, h0, h1, h2⟩ := trodAll_three hA
  obtain ⟨rfl, rfl⟩ := trodVars_none hV
  obtain ⟨zs0, hl0, rfl, -⟩ := open_arrI Tryd.underlying31 Tryd.underlying3 cells3 cells31 (hval 0 31 v0 rfl rfl) h0
  obtain ⟨y0a, y0b, y0c, rfl⟩ := list3 hl0
  obtain ⟨zs1, hl1, rfl, -⟩ := open_arrI Tryd.underlying36 Tryd.underlying3 cells3 cells36 (hval 1 36 v1 rfl rfl) h1
  obtain ⟨y1a, y1b, rfl⟩ := list2 hl1
  obtain ⟨z2, rfl, rfl, rfl, -⟩ := open_int Tryd.underlying3 (hval 2 3 v2 rfl rfl) h2
  have hst := of_laid hL
  refine (more stepsL y0a y0b y0c y1a y1b z2 W _ (fun _ => rfl) hst).mono fun e W' ⟨v, h', hr, ⟨hv, hs⟩, ho, hk⟩ => ?_
  subst hv
  exact ⟨_, hr, law_post laidOut rfl Tryd.underlying4 rfl (by kernel_rfl) rfl rfl rfl hW' (below_of (fun _ => rfl) ho hs hk)⟩

theorem waveMore_row : Rows.WaveMoreSaid :=
  OpenClaim.holds_of_wide 7 Tryd.f7 rfl rfl rfl rfl rfl rfl rfl ⟨rfl, rfl, rfl, rfl, rfl⟩ rfl rfl rfl rfl rfl (by kernel_rfl) Tryd.func7 (by kernel_rfl)
    (of_decide_eq_true (by kernel_rfl)) (by unfold Func.isWrapper; first | (rw [if_pos (by decide +kernel)]; kernel_rfl) | (rw [if_neg (by decide +kernel)]; exact ⟨rfl, rfl⟩))
    (fun os started H enc _ => waveMore_lifted os started H enc)

theorem waveMore_holds : Rows.WaveMoreCardSaid :=
  Claim7.holds_tied_plain_at .later [] [.data] true (true, "c4527f0deef4b31a6ff9f52715a8e2c2b17aefa6d81f27d9e8849f7b496538e0") false
    waveMore_row (fun _ h => by cases h) (by kernel_rfl) (fun _ h => by cases h) waveMore_row_tie rfl ⟨rfl, rfl⟩ (by kernel_rfl) rfl
    (fun f fn hf hfn => by
      obtain rfl : f = 7 := Option.some.inj ((show Tryd.prog.funcNamed "pennant/pennantlaw15.WaveMore" = some 7 by kernel_rfl).symm.trans hf) |>.symm
      obtain rfl : fn = Tryd.f7 := (Option.some.inj (Tryd.func7.symm.trans hfn)).symm
      exact ⟨by kernel_rfl, fun j t ht => by
        rw [Tryd.params7] at ht
        have hm : t ∈ [31, 36, 3] := by simpa using Array.mem_of_getElem? ht
        have hall : ([31, 36, 3].all fun u => !Tryd.prog.wantsStandIn u) = true := by kernel_rfl
        exact (show Tryd.prog.wantsStandIn t = false by simpa using List.all_eq_true.1 hall t hm)⟩)
    (by kernel_rfl)

end Go.Proofs.YthabnmihfgoabaaDoor
