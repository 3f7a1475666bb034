/-
  For every campaign, devices and parts WavePlans returns true, and both lists read afterwards as before; the table crc.steps starts as the program lays it.
-/
import Derived.Test.YthabnmihfgoabaaDoorLwF
import Derived.Test.YthabnmihfgoabaaDoorCards
namespace Go.Proofs.YthabnmihfgoabaaDoor
open Go Go.Eng Go.ChangeShapes Go.WideShapes Go.ChangeAt Go.RowKit
set_option maxRecDepth 100000

set_option maxRecDepth 100000 in
theorem wavePlans_lifted (os : Os) (started : os.Started) (H : Type) (enc : TypeId × Value → H) :
    ReturnsInHanded {} Tryd.checked os 3 .any (fun w args => (Rows.wavePlansSpec.pre enc Tryd.prog Tryd.f3 [] false w args ∧ laidMetH Tryd.prog Rows.wavePlansRow.laid w) ∧ sizedMet enc Tryd.prog Tryd.f3 (OpenSpec.ofChange Rows.wavePlansSpec) false w args)
      (Rows.wavePlansSpec.post enc Tryd.prog Tryd.f3 false true false false) := by
  refine returnsInHanded_of_change_and (C := Tryd.checked) (X := fun w _ => laidMetH Tryd.prog Rows.wavePlansRow.laid w) (fun _ _ _ hh h => h.of_heap hh) own started (by kernel_rfl) Tryd.func3
    (ChangeSpec.witness_shaped (enc := enc) (C := Tryd.checked) (os := os) (X := fun w _ => laidMetH Tryd.prog Rows.wavePlansRow.laid w) false (World.doorLaid Tryd.prog 400 os) #[.int .i64 0, .slice none 0 0, .slice none 0 0] 8 rfl (World.shaped_of_RefB (by kernel_rfl) (by kernel_rfl)) (by kernel_rfl) (by kernel_rfl) (by kernel_rfl) (door_met os _)) ?_
  intro W base args ds gs before hval0 hW _ _ hL _
  have hval : ∀ (j : Nat) t v, Tryd.f3.params[j]? = some t → args[j]? = some v → Value.okWide Tryd.prog W .any base t v := hval0
  have hW' := hW
  obtain ⟨p, q, hA0, hV, rfl, hfz, hnd⟩ := hW
  have hA : DataW.TrodAll enc Tryd.prog W 0 (fun _ => true) true Tryd.f3.params.toList args.toList ds p := hA0
  rw [Tryd.params3] at hA hval
  obtain ⟨v0, v1, v2, d0, d1, d2, p0, p1, p2, rfl, rfl, rfl, h0, h1, h2⟩ := trodAll_three hA
  obtain ⟨rfl, rfl⟩ := trodVars_none hV
  obtain ⟨z0, rfl, rfl, rfl, -⟩ := open_int Tryd.underlying3 (hval 0 3 v0 rfl rfl) h0
  obtain ⟨a1, n1, c1, xs1, rfl, hc1, hx1⟩ := open_ints1 (hval 1 22 v1 rfl rfl) h1
  obtain ⟨a2, n2, c2, xs2, rfl, hc2, hx2⟩ := open_ints1 (hval 2 22 v2 rfl rfl) h2
  have hst := of_laid hL
  refine (plans z0 a1 n1 c1 xs1 a2 n2 c2 xs2 W _ (fun _ => rfl) hx1 hx2 hst).mono fun e W' ⟨v, h', hr, ⟨hv, hs⟩, ho, hk⟩ => ?_
  subst hv
  exact ⟨_, hr, law_post laidOut rfl Tryd.underlying4 rfl (by kernel_rfl) rfl rfl rfl hW' (below_of (fun _ => rfl) ho hs hk)⟩

theorem wavePlans_row : Rows.WavePlansSaid :=
  OpenClaim.holds_of_wide 3 Tryd.f3 rfl rfl rfl rfl rfl rfl rfl ⟨rfl, rfl, rfl, rfl, rfl⟩ rfl rfl rfl rfl rfl (by kernel_rfl) Tryd.func3 (by kernel_rfl)
    (of_decide_eq_true (by kernel_rfl)) (by unfold Func.isWrapper; first | (rw [if_pos (by decide +kernel)]; kernel_rfl) | (rw [if_neg (by decide +kernel)]; exact ⟨rfl, rfl⟩))
    (fun os started H enc _ => wavePlans_lifted os started H enc)

theorem wavePlans_holds : Rows.WavePlansCardSaid :=
  Claim7.holds_tied_plain_at .later [] [.data] true (true, "c4527f0deef4b31a6ff9f52715a8e2c2b17aefa6d81f27d9e8849f7b496538e0") false
    wavePlans_row (fun _ h => by cases h) (by kernel_rfl) (fun _ h => by cases h) wavePlans_row_tie rfl ⟨rfl, rfl⟩ (by kernel_rfl) rfl
    (fun f fn hf hfn => by
      obtain rfl : f = 3 := Option.some.inj ((show Tryd.prog.funcNamed "pennant/pennantlaw15.WavePlans" = some 3 by kernel_rfl).symm.trans hf) |>.symm
      obtain rfl : fn = Tryd.f3 := (Option.some.inj (Tryd.func3.symm.trans hfn)).symm
      exact ⟨by kernel_rfl, fun j t ht => by
        rw [Tryd.params3] at ht
        have hm : t ∈ [3, 22, 22] := by simpa using Array.mem_of_getElem? ht
        have hall : ([3, 22, 22].all fun u => !Tryd.prog.wantsStandIn u) = true := by kernel_rfl
        exact (show Tryd.prog.wantsStandIn t = false by simpa using List.all_eq_true.1 hall t hm)⟩)
    (by kernel_rfl)

end Go.Proofs.YthabnmihfgoabaaDoor
