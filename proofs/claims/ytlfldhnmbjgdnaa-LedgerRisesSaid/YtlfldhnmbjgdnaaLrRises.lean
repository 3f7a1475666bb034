/-
  For every list of entries and every list of devices LedgerRises returns true, and both lists read afterwards as before; no condition.
-/
import Derived.Test.YtlfldhnmbjgdnaaLwA
import Derived.Test.YtlfldhnmbjgdnaaEngC
import Derived.Test.YtlfldhnmbjgdnaaRows
namespace Go.Proofs.Ytlfldhnmbjgdnaa
open Go Go.Eng Go.ChangeShapes Go.WideShapes Go.ChangeAt Go.RowKit
set_option maxRecDepth 100000

theorem own : ownKnob Try.prog.godebug = none := by kernel_rfl
theorem laidOut : laidOutB Try.prog = true := by kernel_rfl
theorem cells31 : Try.prog.cellsOf 31 = 4 := by kernel_rfl
theorem cells3 : Try.prog.cellsOf 3 = 1 := by kernel_rfl

def entCells (z : List Int) : List Value := z.map (Value.int .i64)

theorem el_ent {H : Type} {enc : TypeId × Value → H} {w : World} (n : Nat) (cs : List Value) (y) (h : DataW.trod enc Try.prog w 0 (fun _ => true) true n 31 cs = some y) : ∃ e : Ent, cs = e.cells ∧ True := by
  obtain ⟨zs, h1, rfl, -⟩ := el_ints Try.underlying31 Try.underlying3 cells3 cells31 (fun i f hf => by
    match i, hf with
    | 0, hf => cases hf; exact ⟨rfl, rfl⟩
    | 1, hf => cases hf; exact ⟨rfl, rfl⟩
    | 2, hf => cases hf; exact ⟨rfl, rfl⟩
    | 3, hf => cases hf; exact ⟨rfl, rfl⟩
    | i + 4, hf => simp at hf) h
  match zs, h1 with
  | [a, b, c, d], _ => exact ⟨⟨a, b, c, d⟩, rfl, trivial⟩

instance : Inhabited Ent := ⟨⟨0, 0, 0, 0⟩⟩

theorem open_ents {H : Type} {enc : TypeId × Value → H} {W : World} {base : Nat} {v : Value} {d : DataW H} {p : List MemPlace} (hval : Value.okWide Try.prog W .any base 22 v)
    (hd : DataW.Trod enc Try.prog W 0 (fun _ => true) true 22 v d p) : ∃ a n c es, v = .slice a n c ∧ EntsAt (fun b => W.heap[b]?) a n es := by
  obtain ⟨a, n, c, es, rfl, h1, h2, h3, h4, -⟩ := open_list Ent.cells (fun _ => True) (fun _ => rfl) Try.underlying22 cells31 (by decide) (fun _ => rfl) (slice_of Try.underlying22 hval) el_ent hd
  have hml : maxLen = 9223372036854775807 := rfl
  exact ⟨a, n, c, es, rfl, h3, h4, by omega⟩

theorem el_int1 {H : Type} {enc : TypeId × Value → H} {w : World} (n : Nat) (cs : List Value) (y) (h : DataW.trod enc Try.prog w 0 (fun _ => true) true n 3 cs = some y) : ∃ z : Int, cs = [intV z] ∧ True := by
  obtain ⟨z, rfl, -⟩ := el_int Try.underlying3 h
  exact ⟨z, rfl, trivial⟩

theorem open_ints1 {H : Type} {enc : TypeId × Value → H} {W : World} {base : Nat} {v : Value} {d : DataW H} {p : List MemPlace} (hval : Value.okWide Try.prog W .any base 23 v)
    (hd : DataW.Trod enc Try.prog W 0 (fun _ => true) true 23 v d p) : ∃ a n c xs, v = .slice a n c ∧ IntsAt (fun b => W.heap[b]?) a n xs := by
  obtain ⟨a, n, c, xs, rfl, h1, h2, h3, h4, -⟩ := open_list (fun z : Int => [intV z]) (fun _ => True) (fun _ => rfl) Try.underlying23 cells3 (by decide) (fun _ => rfl) (slice_of Try.underlying23 hval) el_int1 hd
  have hml : maxLen = 9223372036854775807 := rfl
  refine ⟨a, n, c, xs, rfl, h3, ?_, by omega⟩
  have e : (xs.map fun z : Int => [intV z]).flatten = xs.map intV := by clear h3 h4; induction xs <;> simp_all
  rw [← e]; exact h4

theorem ledgerRises_lifted (os : Os) (started : os.Started) (H : Type) (enc : TypeId × Value → H) :
    ReturnsInHanded {} Try.checked os 3 .any (Rows.ledgerRisesSpec.pre6 enc Try.prog Try.f3 Rows.ledgerRisesRow.domain false) (Rows.ledgerRisesSpec.post enc Try.prog Try.f3 false true false false) := by
  refine returnsInHanded_of_change (C := Try.checked) own started (by kernel_rfl) Try.func3
    (ChangeSpec.witness6 (enc := enc) (C := Try.checked) false ⟨#[], #[.slice none 0 0, .slice none 0 0], []⟩ 8 (by kernel_rfl) (by kernel_rfl) (by kernel_rfl) (by kernel_rfl)) ?_
  intro W base args ds gs before hval0 hW hcnd _
  have hval : ∀ (j : Nat) t v, Try.f3.params[j]? = some t → args[j]? = some v → Value.okWide Try.prog W .any base t v := hval0
  have hW' := hW
  obtain ⟨p, q, hA0, hV, rfl, hfz, hnd⟩ := hW
  have hA : DataW.TrodAll enc Try.prog W 0 (fun _ => true) true Try.f3.params.toList args.toList ds p := hA0
  rw [Try.params3] at hA hval
  obtain ⟨v0, v1, d0, d1, p0, p1, rfl, rfl, rfl, h0, h1⟩ := trodAll_two hA
  obtain ⟨rfl, rfl⟩ := trodVars_none hV
  obtain ⟨a, n, c, es, rfl, he⟩ := open_ents (hval 0 22 v0 rfl rfl) h0
  obtain ⟨a2, n2, c2, xs, rfl, hx⟩ := open_ints1 (hval 1 23 v1 rfl rfl) h1
  refine (rises a n c es a2 n2 c2 xs W _ (fun _ => rfl) he hx).mono fun e W' ⟨v, h', hr, ⟨hv, hs⟩, ho, hk⟩ => ?_
  subst hv
  exact ⟨_, hr, law_post laidOut rfl Try.underlying4 rfl (by kernel_rfl) rfl rfl rfl hW' (below_of (fun _ => rfl) ho hs hk)⟩

theorem ledgerRises_holds : Rows.LedgerRisesSaid :=
  OpenClaim.holds_of_wide 3 Try.f3 rfl rfl rfl rfl rfl rfl rfl ⟨rfl, rfl, rfl, rfl, rfl⟩ rfl rfl rfl rfl rfl (by kernel_rfl) Try.func3 (by kernel_rfl)
    (of_decide_eq_true (by kernel_rfl)) (by unfold Func.isWrapper; first | (rw [if_pos (by decide +kernel)]; kernel_rfl) | (rw [if_neg (by decide +kernel)]; exact ⟨rfl, rfl⟩))
    (fun os started H enc _ => ledgerRises_lifted os started H enc)
end Go.Proofs.Ytlfldhnmbjgdnaa
