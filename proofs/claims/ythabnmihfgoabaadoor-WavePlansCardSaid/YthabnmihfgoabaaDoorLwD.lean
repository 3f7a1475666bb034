/-
  Lemmas for the walk: how the machine steps, and what each step needs; no condition.
-/
import Derived.Test.YthabnmihfgoabaaDoorLwC
import Derived.Test.YthabnmihfgoabaaDoorEngD
import Derived.Test.YthabnmihfgoabaaDoorTie
import Derived.ProofKit
import Derived.LaidMore
import Derived.OpenShut
import Derived.Stop.Joined
namespace Go.Proofs.YthabnmihfgoabaaDoor
open Go Go.Eng Go.ChangeShapes Go.WideShapes Go.ChangeAt Go.RowKit
set_option maxRecDepth 100000

theorem own : ownKnob Tryd.prog.godebug = none := by kernel_rfl
theorem laidOut : laidOutB Tryd.prog = true := by kernel_rfl
theorem cells3 : Tryd.prog.cellsOf 3 = 1 := by kernel_rfl
theorem gSteps : Tryd.prog.globalNamed "pennant/crc.steps" = some 0 := by kernel_rfl
theorem tSteps : (Tryd.prog.globals[0]?).map (·.type) = some 62 := by kernel_rfl
theorem c45 : Tryd.prog.cellsOf 45 = 1 := by kernel_rfl
theorem c62 : Tryd.prog.cellsOf 62 = 16 := by kernel_rfl

def stepsL : List Nat := [0, 8801531, 9098509, 825846, 9692897, 1419802, 1651692, 10452759, 10584377, 2608578, 2839604, 11344079, 3303384, 11807523, 12104405, 4128302]
theorem stepsD {H : Type} : (Rows.laid_pennant_crc_steps : DataW H) = .agg (stepsL.map fun (n : Nat) => .lit (.int .u32 (n : Int))) := rfl

abbrev laid1 := [("pennant/crc.steps", fun {H : Type} => (Rows.laid_pennant_crc_steps : DataW H))]
theorem of_laid {W : World} (h : laidMetH Tryd.prog Rows.waveJudgesRow.laid W) : StepsIn (fun b => W.heap[b]?) stepsL := by
  rw [MakeChecks.laidMetH_plain _ _ _ (by kernel_rfl)] at h
  obtain ⟨ps, ⟨g0, t0, cs0, f0, p0, q0, hg0, ht0, hv0, hd0, _, _⟩, _, _⟩ := h
  obtain rfl := Option.some.inj (gSteps.symm.trans hg0)
  obtain rfl := Option.some.inj (tSteps.symm.trans ht0)
  have hd1 : DataW.trod (fun _ => ()) Tryd.prog W 0 (fun _ => true) false _ 62 cs0.toList = some (.agg ((stepsL.map Int.ofNat).map fun z => (DataW.lit (Lit.int .u32 z) : DataW Unit)), p0) := hd0
  have ht := tab_of Tryd.underlying62 Tryd.underlying45 c45 hd1
  refine ⟨rfl, by decide, fun i hi => ?_⟩
  have h1 := ht i (Int.ofNat stepsL[i]) (by simp [hi])
  have h2 := World.var?_cell hg0 hv0 i
  rw [← Array.getElem?_toList, h1, On.cell (h := fun b => W.heap[b]?) (fun _ => rfl)] at h2
  exact h2

/-- The door's own heap meets the condition: three closed facts. -/
theorem door_met (os : Os) (args : Array Value) : laidMetH Tryd.prog Rows.waveJudgesRow.laid ((World.doorLaid Tryd.prog 400 os).forCall (fun _ _ => 0) ⟨#[], args, []⟩).memory :=
  laidMetH_of_parts3 (fuel := 8) (laidMet_of_run' 8 (by kernel_rfl) (by kernel_rfl)) (by kernel_rfl) (by kernel_rfl)

theorem el_int1 {H : Type} {enc : TypeId × Value → H} {w : World} (n : Nat) (cs : List Value) (y) (h : DataW.trod enc Tryd.prog w 0 (fun _ => true) true n 3 cs = some y) : ∃ z : Int, cs = [iV z] ∧ True := by
  obtain ⟨z, rfl, -⟩ := el_int Tryd.underlying3 h
  exact ⟨z, rfl, trivial⟩
theorem open_intsC {H : Type} {enc : TypeId × Value → H} {W : World} {fuel : Nat} {cs : List Value} {y : DataW H × List MemPlace} (hf : DataW.trod enc Tryd.prog W 0 (fun _ => true) true fuel 22 cs = some y) :
    ∃ a n c xs, cs = [.slice a n c] ∧ n ≤ c ∧ IntsIn (fun b => W.heap[b]?) a n xs := by
  obtain ⟨a, n, c, xs, h0, h1, h2, h3, h4, -⟩ := open_listC (fun z : Int => [iV z]) (fun _ => True) (h := fun b => W.heap[b]?) (fun _ => rfl) Tryd.underlying22 cells3 (by decide) (fun _ => rfl) el_int1 hf
  have hml : maxLen = 9223372036854775807 := rfl
  refine ⟨a, n, c, xs, h0, h1, h3, ?_, by omega⟩
  have e : (xs.map fun z : Int => [iV z]).flatten = xs.map iV := by clear h3 h4; induction xs <;> simp_all
  rw [← e]; exact h4
theorem open_ints1 {H : Type} {enc : TypeId × Value → H} {W : World} {base : Nat} {v : Value} {d : DataW H} {p : List MemPlace} (hval : Value.okWide Tryd.prog W .any base 22 v)
    (hd : DataW.Trod enc Tryd.prog W 0 (fun _ => true) true 22 v d p) : ∃ a n c xs, v = .slice a n c ∧ n ≤ c ∧ IntsIn (fun b => W.heap[b]?) a n xs := by
  obtain ⟨fuel, hf⟩ := hd
  obtain ⟨a0, n0, c0, rfl⟩ := slice_of Tryd.underlying22 hval
  obtain ⟨a, n, c, xs, h0, h1, h2⟩ := open_intsC hf
  simp only [Value.cells, List.cons.injEq, Value.slice.injEq, and_true] at h0
  obtain ⟨rfl, rfl, rfl⟩ := h0
  exact ⟨_, _, _, xs, rfl, h1, h2⟩
theorem c22 : Tryd.prog.cellsOf 22 = 1 := by kernel_rfl
theorem c38 : Tryd.prog.cellsOf 38 = 2 := by kernel_rfl
theorem open_two {H : Type} {enc : TypeId × Value → H} {W : World} {base : Nat} {v : Value} {d : DataW H} {p : List MemPlace} (hval : Value.okWide Tryd.prog W .any base 38 v)
    (hd : DataW.Trod enc Tryd.prog W 0 (fun _ => true) true 38 v d p) : ∃ a n c xs a' n' c' xs', v = .agg #[.slice a n c, .slice a' n' c'] ∧ IntsIn (fun b => W.heap[b]?) a n xs ∧ IntsIn (fun b => W.heap[b]?) a' n' xs' := by
  obtain ⟨fuel, hf⟩ := hd
  simp only [Value.okWide, Tryd.underlying38] at hval
  obtain ⟨cs, rfl, hsz, -⟩ := hval
  obtain ⟨xs, m1, -, hx1, hlen, hn3, hel⟩ := DataW.trod_array Tryd.underlying38 hf
  rw [c38] at hsz
  obtain ⟨l⟩ := cs
  match l, hsz with
  | [v0, v1], _ =>
    have h0 := hel 0 (by omega)
    have h1 := hel 1 (by omega)
    rw [c22, List.getElem?_eq_getElem (by omega)] at h0
    rw [c22, List.getElem?_eq_getElem (by omega)] at h1
    obtain ⟨a, n, c, ys, e0, _, k0⟩ := open_intsC (cs := [v0]) h0
    obtain ⟨a', n', c', ys', e1, _, k1⟩ := open_intsC (cs := [v1]) h1
    cases e0; cases e1
    exact ⟨a, n, c, ys, a', n', c', ys', rfl, k0, k1⟩
theorem cells31 : Tryd.prog.cellsOf 31 = 3 := by kernel_rfl
theorem cells36 : Tryd.prog.cellsOf 36 = 2 := by kernel_rfl
theorem list3 {zs : List Int} (h : zs.length = 3) : ∃ a b c, zs = [a, b, c] := by
  match zs, h with
  | [a, b, c], _ => exact ⟨a, b, c, rfl⟩
theorem list2 {zs : List Int} (h : zs.length = 2) : ∃ a b, zs = [a, b] := by
  match zs, h with
  | [a, b], _ => exact ⟨a, b, rfl⟩
end Go.Proofs.YthabnmihfgoabaaDoor
namespace Go.Proofs.YthabnmihfgoabaaDoor
open Go Go.Eng
set_option maxRecDepth 100000

theorem judges (st : List Nat) (a b c p h : Int) (w : World) (hp : Hp) (hon : On w hp) (hst : StepsIn hp st) :
    Calls Tryd.prog 4 #[.agg #[.int .i64 a, .int .i64 b, .int .i64 c], .int .i64 p, .int .i64 h] w fun e w' => ∃ v h', e = .returned v ∧ (v = .bool true ∧ Sub hp h') ∧ On w' h' ∧ Keep w w' := by
  refine calls_of_Y (args := [.agg #[.int .i64 a, .int .i64 b, .int .i64 c], .int .i64 p, .int .i64 h]) (Rp := fun v h' => v = .bool true ∧ Sub hp h') tys_ok mix Tryd.func4 rfl rfl hon ?_
  refine X_box (f := 1000) rfl rfl rfl fun b1 => ?_
  refine X_call (f := 1000) (C := fun r => Sub hp r) [] rfl rfl rfl rfl (fun r hr => awake_tr st r ⟨hst.len, hst.lt, fun i hi => Hp.cell_mono hr (hst.cell i hi)⟩) (fun r hr => hr.sub) ?_
  rintro v L' ⟨rfl, rfl⟩
  refine X_idxA (f := 1000) 0 rfl rfl rfl rfl ((by omega)) rfl rfl rfl rfl ?_
  refine X_load (f := 1000) (i := 0) rfl rfl rfl rfl ?_
  refine X_idxA (f := 1000) 1 rfl rfl rfl rfl ((by omega)) rfl rfl rfl rfl ?_
  refine X_load (f := 1000) (i := 0) rfl rfl rfl rfl ?_
  refine X_idxA (f := 1000) 2 rfl rfl rfl rfl ((by omega)) rfl rfl rfl rfl ?_
  refine X_load (f := 1000) (i := 0) rfl rfl rfl rfl ?_
  refine X_call (f := 1000) (C := fun _ => True) [] rfl rfl rfl rfl (fun r _ => judge_tr a b c p h r) (fun _ _ => trivial) ?_
  rintro v L' ⟨rfl, rfl⟩
  refine X_idxA (f := 1000) 0 rfl rfl rfl rfl ((by omega)) rfl rfl rfl rfl ?_
  refine X_load (f := 1000) (i := 0) rfl rfl rfl rfl ?_
  refine X_idxA (f := 1000) 1 rfl rfl rfl rfl ((by omega)) rfl rfl rfl rfl ?_
  refine X_load (f := 1000) (i := 0) rfl rfl rfl rfl ?_
  refine X_idxA (f := 1000) 2 rfl rfl rfl rfl ((by omega)) rfl rfl rfl rfl ?_
  refine X_load (f := 1000) (i := 0) rfl rfl rfl rfl ?_
  refine X_call (f := 1000) (C := fun _ => True) [] rfl rfl rfl rfl (fun r _ => refJudge_tr a b c p h r) (fun _ _ => trivial) ?_
  rintro v L' ⟨rfl, rfl⟩
  refine X_gT (f := 1000) rfl ⟨_, rfl, rfl⟩ rfl ?_
  refine X_gT (f := 1000) rfl ⟨_, rfl, rfl⟩ (by simp) ?_
  refine X_ret (f := 1000) rfl rfl Tryd.func4 rfl fun h' hs => ⟨by simp [tupV, SV.den], hs.sub⟩

theorem judgeV_fst {n g b p h : Int} (hk : judgeOk n g b p h) : judgeV n g b p h = ((if 100 * b > h * n then 2 else if 100 * g ≥ p * n then 1 else 0), 0) := by
  rw [judgeV, if_pos hk]; split
  · rfl
  · split <;> rfl
theorem judgeV_snd {n g b p h : Int} (hk : (judgeV n g b p h).2 = 0) : judgeOk n g b p h := by
  by_cases hh : judgeOk n g b p h
  · exact hh
  · rw [judgeV, if_neg hh] at hk; simp at hk

theorem more (st : List Nat) (a b c p h m : Int) (w : World) (hp : Hp) (hon : On w hp) (hst : StepsIn hp st) :
    Calls Tryd.prog 7 #[.agg #[.int .i64 a, .int .i64 b, .int .i64 c], .agg #[.int .i64 p, .int .i64 h], .int .i64 m] w fun e w' => ∃ v h', e = .returned v ∧ (v = .bool true ∧ Sub hp h') ∧ On w' h' ∧ Keep w w' := by
  refine calls_of_Y (args := [.agg #[.int .i64 a, .int .i64 b, .int .i64 c], .agg #[.int .i64 p, .int .i64 h], .int .i64 m]) (Rp := fun v h' => v = .bool true ∧ Sub hp h') tys_ok mix Tryd.func7 rfl rfl hon ?_
  refine X_box (f := 1000) rfl rfl rfl fun b1 => ?_
  refine X_box (f := 1000) rfl rfl rfl fun b2 => ?_
  refine X_call (f := 1000) (C := fun r => Sub hp r) [] rfl rfl rfl rfl (fun r hr => awake_tr st r ⟨hst.len, hst.lt, fun i hi => Hp.cell_mono hr (hst.cell i hi)⟩) (fun r hr => hr.sub) ?_
  rintro v L' ⟨rfl, rfl⟩
  refine X_idxA (f := 1000) 0 rfl rfl rfl rfl ((by omega)) rfl rfl rfl rfl ?_
  refine X_load (f := 1000) (i := 0) rfl rfl rfl rfl ?_
  refine X_idxA (f := 1000) 1 rfl rfl rfl rfl ((by omega)) rfl rfl rfl rfl ?_
  refine X_load (f := 1000) (i := 0) rfl rfl rfl rfl ?_
  refine X_idxA (f := 1000) 2 rfl rfl rfl rfl ((by omega)) rfl rfl rfl rfl ?_
  refine X_load (f := 1000) (i := 0) rfl rfl rfl rfl ?_
  refine X_idxA (f := 1000) 0 rfl rfl rfl rfl ((by omega)) rfl rfl rfl rfl ?_
  refine X_load (f := 1000) (i := 1) rfl rfl rfl rfl ?_
  refine X_idxA (f := 1000) 1 rfl rfl rfl rfl ((by omega)) rfl rfl rfl rfl ?_
  refine X_load (f := 1000) (i := 1) rfl rfl rfl rfl ?_
  refine X_call (f := 1000) (C := fun _ => True) [] rfl rfl rfl rfl (fun r _ => judge_tr a b c p h r) (fun _ _ => trivial) ?_
  rintro v L' ⟨rfl, rfl⟩
  refine X_gF (f := 1000) rfl ⟨_, rfl, rfl⟩ rfl ?_
  refine X_g (f := 1000) rfl ⟨_, rfl, rfl⟩ (fun h1 => ?_) (fun h1 => ?_)
  · refine X_ret (f := 1000) rfl rfl Tryd.func7 rfl fun h' hs => ⟨rfl, hs.sub⟩
  have hk : judgeOk a b c p h := judgeV_snd (by simpa using h1)
  have hk' := hk
  unfold judgeOk at hk'
  refine X_g (f := 1000) rfl ⟨_, rfl, rfl⟩ (fun h2 => ?_) (fun h2 => ?_)
  · refine X_ret (f := 1000) rfl rfl Tryd.func7 rfl fun h' hs => ⟨rfl, hs.sub⟩
  have h2 : ¬ m < 0 := by simpa using h2
  refine X_g (f := 1000) rfl ⟨_, rfl, rfl⟩ (fun h3 => ?_) (fun h3 => ?_)
  · refine X_ret (f := 1000) rfl rfl Tryd.func7 rfl fun h' hs => ⟨rfl, hs.sub⟩
  have h3 : ¬ 1000000 < m := by simpa using h3
  refine X_idxA (f := 1000) 1 rfl rfl rfl rfl ((by omega)) rfl rfl rfl rfl ?_
  refine X_load (f := 1000) (i := 0) rfl rfl rfl rfl ?_
  refine X_ar (f := 1000) rfl rfl rfl (ar_add (by omega)) ?_
  refine X_g (f := 1000) rfl ⟨_, rfl, rfl⟩ (fun h4 => ?_) (fun h4 => ?_)
  · refine X_ret (f := 1000) rfl rfl Tryd.func7 rfl fun h' hs => ⟨rfl, hs.sub⟩
  have h4 : ¬ 1073741824 < b + m := by simpa using h4
  refine X_idxA (f := 1000) 2 rfl rfl rfl rfl ((by omega)) rfl rfl rfl rfl ?_
  refine X_load (f := 1000) (i := 0) rfl rfl rfl rfl ?_
  refine X_ar (f := 1000) rfl rfl rfl (ar_add (by omega)) ?_
  refine X_if (f := 1000) rfl ⟨_, rfl, rfl⟩ (fun h5 => ?_) (fun h5 => ?_)
  · refine X_ret (f := 1000) rfl rfl Tryd.func7 rfl fun h' hs => ⟨rfl, hs.sub⟩
  have h5 : ¬ 1073741824 < c + m := by simpa using h5
  refine X_idxA (f := 1000) 0 rfl rfl rfl rfl ((by omega)) rfl rfl rfl rfl ?_
  refine X_load (f := 1000) (i := 0) rfl rfl rfl rfl ?_
  refine X_idxA (f := 1000) 1 rfl rfl rfl rfl ((by omega)) rfl rfl rfl rfl ?_
  refine X_load (f := 1000) (i := 0) rfl rfl rfl rfl ?_
  refine X_ar (f := 1000) rfl rfl rfl (ar_add (by omega)) ?_
  refine X_idxA (f := 1000) 2 rfl rfl rfl rfl ((by omega)) rfl rfl rfl rfl ?_
  refine X_load (f := 1000) (i := 0) rfl rfl rfl rfl ?_
  refine X_idxA (f := 1000) 0 rfl rfl rfl rfl ((by omega)) rfl rfl rfl rfl ?_
  refine X_load (f := 1000) (i := 1) rfl rfl rfl rfl ?_
  refine X_idxA (f := 1000) 1 rfl rfl rfl rfl ((by omega)) rfl rfl rfl rfl ?_
  refine X_load (f := 1000) (i := 1) rfl rfl rfl rfl ?_
  refine X_call (f := 1000) (C := fun _ => True) [] rfl rfl rfl rfl (fun r _ => judge_tr a (b + m) c p h r) (fun _ _ => trivial) ?_
  rintro v L' ⟨rfl, rfl⟩
  refine X_idxA (f := 1000) 0 rfl rfl rfl rfl ((by omega)) rfl rfl rfl rfl ?_
  refine X_load (f := 1000) (i := 0) rfl rfl rfl rfl ?_
  refine X_idxA (f := 1000) 1 rfl rfl rfl rfl ((by omega)) rfl rfl rfl rfl ?_
  refine X_load (f := 1000) (i := 0) rfl rfl rfl rfl ?_
  refine X_idxA (f := 1000) 2 rfl rfl rfl rfl ((by omega)) rfl rfl rfl rfl ?_
  refine X_load (f := 1000) (i := 0) rfl rfl rfl rfl ?_
  refine X_ar (f := 1000) rfl rfl rfl (ar_add (by omega)) ?_
  refine X_idxA (f := 1000) 0 rfl rfl rfl rfl ((by omega)) rfl rfl rfl rfl ?_
  refine X_load (f := 1000) (i := 1) rfl rfl rfl rfl ?_
  refine X_idxA (f := 1000) 1 rfl rfl rfl rfl ((by omega)) rfl rfl rfl rfl ?_
  refine X_load (f := 1000) (i := 1) rfl rfl rfl rfl ?_
  refine X_call (f := 1000) (C := fun _ => True) [] rfl rfl rfl rfl (fun r _ => judge_tr a b (c + m) p h r) (fun _ _ => trivial) ?_
  rintro v L' ⟨rfl, rfl⟩
  refine X_idxA (f := 1000) 0 rfl rfl rfl rfl ((by omega)) rfl rfl rfl rfl ?_
  refine X_load (f := 1000) (i := 0) rfl rfl rfl rfl ?_
  refine X_idxA (f := 1000) 1 rfl rfl rfl rfl ((by omega)) rfl rfl rfl rfl ?_
  refine X_load (f := 1000) (i := 0) rfl rfl rfl rfl ?_
  refine X_idxA (f := 1000) 2 rfl rfl rfl rfl ((by omega)) rfl rfl rfl rfl ?_
  refine X_load (f := 1000) (i := 0) rfl rfl rfl rfl ?_
  refine X_ar (f := 1000) rfl rfl rfl (ar_sub (by omega)) ?_
  refine X_max (f := 1000) [c - m, 0] rfl rfl (by simp) ?_
  have hmax : maxL [c - m, 0] = if c - m < 0 then 0 else c - m := by simp only [maxL, List.foldl]
  refine X_idxA (f := 1000) 0 rfl rfl rfl rfl ((by omega)) rfl rfl rfl rfl ?_
  refine X_load (f := 1000) (i := 1) rfl rfl rfl rfl ?_
  refine X_idxA (f := 1000) 1 rfl rfl rfl rfl ((by omega)) rfl rfl rfl rfl ?_
  refine X_load (f := 1000) (i := 1) rfl rfl rfl rfl ?_
  refine X_call (f := 1000) (C := fun _ => True) [] rfl rfl rfl rfl (fun r _ => judge_tr a b (maxL [c - m, 0]) p h r) (fun _ _ => trivial) ?_
  rintro v L' ⟨rfl, rfl⟩
  refine X_idxA (f := 1000) 0 rfl rfl rfl rfl ((by omega)) rfl rfl rfl rfl ?_
  refine X_load (f := 1000) (i := 0) rfl rfl rfl rfl ?_
  refine X_idxA (f := 1000) 0 rfl rfl rfl rfl ((by omega)) rfl rfl rfl rfl ?_
  refine X_load (f := 1000) (i := 1) rfl rfl rfl rfl ?_
  refine X_idxA (f := 1000) 1 rfl rfl rfl rfl ((by omega)) rfl rfl rfl rfl ?_
  refine X_load (f := 1000) (i := 1) rfl rfl rfl rfl ?_
  refine X_call (f := 1000) (C := fun _ => True) [] rfl rfl rfl rfl (fun r _ => judge_tr a 0 0 p h r) (fun _ _ => trivial) ?_
  rintro v L' ⟨rfl, rfl⟩
  have k1 : judgeOk a (b + m) c p h := by unfold judgeOk; omega
  have k2 : judgeOk a b (c + m) p h := by unfold judgeOk; omega
  have k3 : judgeOk a b (maxL [c - m, 0]) p h := by rw [hmax]; unfold judgeOk; split <;> omega
  have k4 : judgeOk a 0 0 p h := by unfold judgeOk; omega
  rw [judgeV_fst hk, judgeV_fst k1, judgeV_fst k2, judgeV_fst k3, judgeV_fst k4]
  have hm3 : maxL [c - m, 0] ≤ c := by rw [hmax]; split <;> omega
  generalize maxL [c - m, 0] = q at hm3
  have hpa : 0 ≤ p * a := Int.mul_nonneg (by omega) (by omega)
  have hha : 0 ≤ h * a := Int.mul_nonneg (by omega) (by omega)
  have hpa2 : p * a = 0 → a = 0 ∨ p = 0 := fun hh => (Int.mul_eq_zero.1 hh).symm
  generalize hx : p * a = x at hpa hpa2
  generalize hy : h * a = y at hha
  refine X_gF (f := 1000) rfl ⟨_, rfl, rfl⟩ rfl ?_
  refine X_gF (f := 1000) rfl ⟨_, rfl, rfl⟩ rfl ?_
  refine X_gF (f := 1000) rfl ⟨_, rfl, rfl⟩ rfl ?_
  generalize hA : (if 100 * c > y then (2 : Int) else if 100 * b ≥ x then 1 else 0) = A
  generalize hG : (if 100 * c > y then (2 : Int) else if 100 * (b + m) ≥ x then 1 else 0) = G
  generalize hB : (if 100 * (c + m) > y then (2 : Int) else if 100 * b ≥ x then 1 else 0) = B
  generalize hC : (if 100 * q > y then (2 : Int) else if 100 * b ≥ x then 1 else 0) = C
  generalize hN : (if 100 * 0 > y then (2 : Int) else if 100 * 0 ≥ x then 1 else 0) = N
  have f1 : A = 1 → G = 1 ∧ C = 1 := by
    intro hh; subst hh
    split at hA
    · cases hA
    · split at hA
      · exact ⟨by rw [← hG, if_neg (by omega), if_pos (by omega)], by rw [← hC, if_neg (by omega), if_pos (by omega)]⟩
      · cases hA
  have f2 : A = 2 → B = 2 := by
    intro hh; subst hh
    split at hA
    · rw [← hB, if_pos (by omega)]
    · split at hA <;> cases hA
  refine X_ifF (f := 1000) rfl ⟨_, rfl, rfl⟩ rfl ?_
  refine X_g (f := 1000) rfl ⟨_, rfl, rfl⟩ (fun g1 => ?_) (fun g1 => ?_)
  · have g1 : A = 1 := by simpa using g1
    obtain ⟨e1, e2⟩ := f1 g1
    refine X_gF (f := 1000) rfl ⟨_, rfl, rfl⟩ (by simp [e1]) ?_
    refine X_gF (f := 1000) rfl ⟨_, rfl, rfl⟩ (by simp [e2]) ?_
    refine X_gF (f := 1000) rfl ⟨_, rfl, rfl⟩ (by simp [g1]) ?_
    refine X_idxA (f := 1000) 0 rfl rfl rfl rfl ((by omega)) rfl rfl rfl rfl ?_
    refine X_load (f := 1000) (i := 0) rfl rfl rfl rfl ?_
    refine X_g (f := 1000) rfl ⟨_, rfl, rfl⟩ (fun g5 => ?_) (fun g5 => ?_)
    · refine X_ret (f := 1000) rfl rfl Tryd.func7 rfl fun h' hs => ⟨rfl, hs.sub⟩
    have g5 : ¬ a = 0 := by simpa using g5
    refine X_idxA (f := 1000) 0 rfl rfl rfl rfl ((by omega)) rfl rfl rfl rfl ?_
    refine X_load (f := 1000) (i := 1) rfl rfl rfl rfl ?_
    refine X_g (f := 1000) rfl ⟨_, rfl, rfl⟩ (fun g6 => ?_) (fun g6 => ?_)
    · refine X_ret (f := 1000) rfl rfl Tryd.func7 rfl fun h' hs => ⟨rfl, hs.sub⟩
    have g6 : ¬ p = 0 := by simpa using g6
    have hN0 : N = 0 := by
      have : ¬ x = 0 := fun hh => (hpa2 hh).elim g5 g6
      rw [← hN, if_neg (by omega), if_neg (by omega)]
    refine X_ret (f := 1000) rfl rfl Tryd.func7 rfl fun h' hs => ⟨by simp [tupV, SV.den, hN0], hs.sub⟩
  have g1 : ¬ A = 1 := by simpa using g1
  refine X_g (f := 1000) rfl ⟨_, rfl, rfl⟩ (fun g3 => ?_) (fun g3 => ?_)
  · have g3 : A = 2 := by simpa using g3
    have e3 := f2 g3
    refine X_ifF (f := 1000) rfl ⟨_, rfl, rfl⟩ (by simp [e3]) ?_
    refine X_idxA (f := 1000) 0 rfl rfl rfl rfl ((by omega)) rfl rfl rfl rfl ?_
    refine X_load (f := 1000) (i := 0) rfl rfl rfl rfl ?_
    refine X_g (f := 1000) rfl ⟨_, rfl, rfl⟩ (fun g5 => ?_) (fun g5 => ?_)
    · refine X_ret (f := 1000) rfl rfl Tryd.func7 rfl fun h' hs => ⟨rfl, hs.sub⟩
    have g5 : ¬ a = 0 := by simpa using g5
    refine X_idxA (f := 1000) 0 rfl rfl rfl rfl ((by omega)) rfl rfl rfl rfl ?_
    refine X_load (f := 1000) (i := 1) rfl rfl rfl rfl ?_
    refine X_g (f := 1000) rfl ⟨_, rfl, rfl⟩ (fun g6 => ?_) (fun g6 => ?_)
    · refine X_ret (f := 1000) rfl rfl Tryd.func7 rfl fun h' hs => ⟨rfl, hs.sub⟩
    have g6 : ¬ p = 0 := by simpa using g6
    have hN0 : N = 0 := by
      have : ¬ x = 0 := fun hh => (hpa2 hh).elim g5 g6
      rw [← hN, if_neg (by omega), if_neg (by omega)]
    refine X_ret (f := 1000) rfl rfl Tryd.func7 rfl fun h' hs => ⟨by simp [tupV, SV.den, hN0], hs.sub⟩
  refine X_idxA (f := 1000) 0 rfl rfl rfl rfl ((by omega)) rfl rfl rfl rfl ?_
  refine X_load (f := 1000) (i := 0) rfl rfl rfl rfl ?_
  refine X_g (f := 1000) rfl ⟨_, rfl, rfl⟩ (fun g5 => ?_) (fun g5 => ?_)
  · refine X_ret (f := 1000) rfl rfl Tryd.func7 rfl fun h' hs => ⟨rfl, hs.sub⟩
  have g5 : ¬ a = 0 := by simpa using g5
  refine X_idxA (f := 1000) 0 rfl rfl rfl rfl ((by omega)) rfl rfl rfl rfl ?_
  refine X_load (f := 1000) (i := 1) rfl rfl rfl rfl ?_
  refine X_g (f := 1000) rfl ⟨_, rfl, rfl⟩ (fun g6 => ?_) (fun g6 => ?_)
  · refine X_ret (f := 1000) rfl rfl Tryd.func7 rfl fun h' hs => ⟨rfl, hs.sub⟩
  have g6 : ¬ p = 0 := by simpa using g6
  have hN0 : N = 0 := by
    have : ¬ x = 0 := fun hh => (hpa2 hh).elim g5 g6
    rw [← hN, if_neg (by omega), if_neg (by omega)]
  refine X_ret (f := 1000) rfl rfl Tryd.func7 rfl fun h' hs => ⟨by simp [tupV, SV.den, hN0], hs.sub⟩
end Go.Proofs.YthabnmihfgoabaaDoor
