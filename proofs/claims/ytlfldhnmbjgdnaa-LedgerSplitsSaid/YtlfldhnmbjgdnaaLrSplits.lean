/-
  For every list of entries and every list of devices LedgerSplits returns true, and both lists read afterwards as before; no condition.
-/
import Derived.Test.YtlfldhnmbjgdnaaLwA
import Derived.Test.YtlfldhnmbjgdnaaLwB
namespace Go.Proofs.Ytlfldhnmbjgdnaa
open Go Go.Eng Go.ChangeShapes Go.WideShapes Go.ChangeAt Go.RowKit
set_option maxRecDepth 100000

theorem ledgerSplits_lifted (os : Os) (started : os.Started) (H : Type) (enc : TypeId × Value → H) :
    ReturnsInHanded {} Try.checked os 4 .any (Rows.ledgerSplitsSpec.pre6 enc Try.prog Try.f4 Rows.ledgerSplitsRow.domain false) (Rows.ledgerSplitsSpec.post enc Try.prog Try.f4 false true false false) := by
  refine returnsInHanded_of_change (C := Try.checked) own started (by kernel_rfl) Try.func4
    (ChangeSpec.witness6 (enc := enc) (C := Try.checked) false ⟨#[], #[.slice none 0 0, .slice none 0 0], []⟩ 8 (by kernel_rfl) (by kernel_rfl) (by kernel_rfl) (by kernel_rfl)) ?_
  intro W base args ds gs before hval0 hW hcnd _
  have hval : ∀ (j : Nat) t v, Try.f4.params[j]? = some t → args[j]? = some v → Value.okWide Try.prog W .any base t v := hval0
  have hW' := hW
  obtain ⟨p, q, hA0, hV, rfl, hfz, hnd⟩ := hW
  have hA : DataW.TrodAll enc Try.prog W 0 (fun _ => true) true Try.f4.params.toList args.toList ds p := hA0
  rw [Try.params4] at hA hval
  obtain ⟨v0, v1, d0, d1, p0, p1, rfl, rfl, rfl, h0, h1⟩ := trodAll_two hA
  obtain ⟨rfl, rfl⟩ := trodVars_none hV
  obtain ⟨a, n, c, es, rfl, he⟩ := open_ents (hval 0 22 v0 rfl rfl) h0
  obtain ⟨a2, n2, c2, xs, rfl, hx⟩ := open_ints1 (hval 1 23 v1 rfl rfl) h1
  refine (splits a n c es a2 n2 c2 xs W _ (fun _ => rfl) he hx).mono fun e W' ⟨v, h', hr, ⟨hv, hs⟩, ho, hk⟩ => ?_
  subst hv
  exact ⟨_, hr, law_post laidOut rfl Try.underlying4 rfl (by kernel_rfl) rfl rfl rfl hW' (below_of (fun _ => rfl) ho hs hk)⟩

theorem ledgerSplits_holds : Rows.LedgerSplitsSaid :=
  OpenClaim.holds_of_wide 4 Try.f4 rfl rfl rfl rfl rfl rfl rfl ⟨rfl, rfl, rfl, rfl, rfl⟩ rfl rfl rfl rfl rfl (by kernel_rfl) Try.func4 (by kernel_rfl)
    (of_decide_eq_true (by kernel_rfl)) (by unfold Func.isWrapper; first | (rw [if_pos (by decide +kernel)]; kernel_rfl) | (rw [if_neg (by decide +kernel)]; exact ⟨rfl, rfl⟩))
    (fun os started H enc _ => ledgerSplits_lifted os started H enc)
end Go.Proofs.Ytlfldhnmbjgdnaa
