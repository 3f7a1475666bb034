/-
  Lemmas for the walk: how the machine steps, and what each step needs; no condition.
-/
import Derived.Test.YthabnmihfgoabaaDoorEngC
import Derived.Test.YthabnmihfgoabaaDoorProg
import Derived.KernelRfl
namespace Go.Proofs.YthabnmihfgoabaaDoor
open Go Go.Eng
set_option maxRecDepth 100000
def tys : TT := [
  (3, ⟨.int .i64, 1, 8, [.int .i64 0]⟩),
  (4, ⟨.bool, 1, 1, [.bool false]⟩),
  (5, ⟨.int .u8, 1, 1, [.int .u8 0]⟩),
  (9, ⟨.str, 1, 16, [.string .empty]⟩),
  (22, ⟨.slice 3, 1, 24, [.slice none 0 0]⟩),
  (24, ⟨.slice 22, 1, 24, [.slice none 0 0]⟩),
  (25, ⟨.int .i64, 1, 8, [.int .i64 0]⟩),
  (31, ⟨.arr 3 3, 3, 24, [.int .i64 0, .int .i64 0, .int .i64 0]⟩),
  (35, ⟨.map 3 4, 1, 8, [.map none]⟩),
  (36, ⟨.arr 2 3, 2, 16, [.int .i64 0, .int .i64 0]⟩),
  (38, ⟨.arr 2 22, 2, 48, [.slice none 0 0, .slice none 0 0]⟩),
  (42, ⟨.func, 1, 8, [.nilFunc]⟩),
  (44, ⟨.map 3 45, 1, 8, [.map none]⟩),
  (45, ⟨.int .u32, 1, 4, [.int .u32 0]⟩),
  (47, ⟨.slice 5, 1, 24, [.slice none 0 0]⟩),
  (53, ⟨.func, 1, 8, [.nilFunc]⟩),
  (57, ⟨.int .u64, 1, 8, [.int .u64 0]⟩),
  (62, ⟨.arr 16 45, 16, 64, [.int .u32 0, .int .u32 0, .int .u32 0, .int .u32 0, .int .u32 0, .int .u32 0, .int .u32 0, .int .u32 0, .int .u32 0, .int .u32 0, .int .u32 0, .int .u32 0, .int .u32 0, .int .u32 0, .int .u32 0, .int .u32 0]⟩),
  (64, ⟨.int .i64, 1, 8, [.int .i64 0]⟩),
  (73, ⟨.int .u64, 1, 8, [.int .u64 0]⟩),
  (74, ⟨.int .u64, 1, 8, [.int .u64 0]⟩),
  (78, ⟨.ptr 3, 1, 8, [.pointer none]⟩)]
theorem tys_ok : TOk Tryd.prog tys := ⟨
  ⟨⟨Tryd.t3, by kernel_rfl, by kernel_rfl, by kernel_rfl, _, rfl, by kernel_rfl⟩, ⟨Tryd.t3, by kernel_rfl, by kernel_rfl⟩, ⟨_, Tryd.underlying3, rfl⟩⟩,
  ⟨⟨Tryd.t4, by kernel_rfl, by kernel_rfl, by kernel_rfl, _, rfl, by kernel_rfl⟩, ⟨Tryd.t4, by kernel_rfl, by kernel_rfl⟩, ⟨_, Tryd.underlying4, rfl⟩⟩,
  ⟨⟨Tryd.t5, by kernel_rfl, by kernel_rfl, by kernel_rfl, _, rfl, by kernel_rfl⟩, ⟨Tryd.t5, by kernel_rfl, by kernel_rfl⟩, ⟨_, Tryd.underlying5, rfl⟩⟩,
  ⟨⟨Tryd.t9, by kernel_rfl, by kernel_rfl, by kernel_rfl, _, rfl, by kernel_rfl⟩, ⟨Tryd.t9, by kernel_rfl, by kernel_rfl⟩, ⟨_, Tryd.underlying9, rfl⟩⟩,
  ⟨⟨Tryd.t22, by kernel_rfl, by kernel_rfl, by kernel_rfl, _, rfl, by kernel_rfl⟩, ⟨Tryd.t22, by kernel_rfl, by kernel_rfl⟩, ⟨_, Tryd.underlying22, rfl⟩⟩,
  ⟨⟨Tryd.t24, by kernel_rfl, by kernel_rfl, by kernel_rfl, _, rfl, by kernel_rfl⟩, ⟨Tryd.t24, by kernel_rfl, by kernel_rfl⟩, ⟨_, Tryd.underlying24, rfl⟩⟩,
  ⟨⟨Tryd.t25, by kernel_rfl, by kernel_rfl, by kernel_rfl, _, rfl, by kernel_rfl⟩, ⟨Tryd.t25, by kernel_rfl, by kernel_rfl⟩, ⟨_, Tryd.underlying25, rfl⟩⟩,
  ⟨⟨Tryd.t31, by kernel_rfl, by kernel_rfl, by kernel_rfl, _, rfl, by kernel_rfl⟩, ⟨Tryd.t31, by kernel_rfl, by kernel_rfl⟩, ⟨_, Tryd.underlying31, rfl⟩⟩,
  ⟨⟨Tryd.t35, by kernel_rfl, by kernel_rfl, by kernel_rfl, _, rfl, by kernel_rfl⟩, ⟨Tryd.t35, by kernel_rfl, by kernel_rfl⟩, ⟨_, Tryd.underlying35, rfl⟩⟩,
  ⟨⟨Tryd.t36, by kernel_rfl, by kernel_rfl, by kernel_rfl, _, rfl, by kernel_rfl⟩, ⟨Tryd.t36, by kernel_rfl, by kernel_rfl⟩, ⟨_, Tryd.underlying36, rfl⟩⟩,
  ⟨⟨Tryd.t38, by kernel_rfl, by kernel_rfl, by kernel_rfl, _, rfl, by kernel_rfl⟩, ⟨Tryd.t38, by kernel_rfl, by kernel_rfl⟩, ⟨_, Tryd.underlying38, rfl⟩⟩,
  ⟨⟨Tryd.t42, by kernel_rfl, by kernel_rfl, by kernel_rfl, _, rfl, by kernel_rfl⟩, ⟨Tryd.t42, by kernel_rfl, by kernel_rfl⟩, ⟨_, Tryd.underlying42, ⟨_, _, _, rfl⟩⟩⟩,
  ⟨⟨Tryd.t44, by kernel_rfl, by kernel_rfl, by kernel_rfl, _, rfl, by kernel_rfl⟩, ⟨Tryd.t44, by kernel_rfl, by kernel_rfl⟩, ⟨_, Tryd.underlying44, rfl⟩⟩,
  ⟨⟨Tryd.t45, by kernel_rfl, by kernel_rfl, by kernel_rfl, _, rfl, by kernel_rfl⟩, ⟨Tryd.t45, by kernel_rfl, by kernel_rfl⟩, ⟨_, Tryd.underlying45, rfl⟩⟩,
  ⟨⟨Tryd.t47, by kernel_rfl, by kernel_rfl, by kernel_rfl, _, rfl, by kernel_rfl⟩, ⟨Tryd.t47, by kernel_rfl, by kernel_rfl⟩, ⟨_, Tryd.underlying47, rfl⟩⟩,
  ⟨⟨Tryd.t53, by kernel_rfl, by kernel_rfl, by kernel_rfl, _, rfl, by kernel_rfl⟩, ⟨Tryd.t53, by kernel_rfl, by kernel_rfl⟩, ⟨_, Tryd.underlying53, ⟨_, _, _, rfl⟩⟩⟩,
  ⟨⟨Tryd.t57, by kernel_rfl, by kernel_rfl, by kernel_rfl, _, rfl, by kernel_rfl⟩, ⟨Tryd.t57, by kernel_rfl, by kernel_rfl⟩, ⟨_, Tryd.underlying57, rfl⟩⟩,
  ⟨⟨Tryd.t62, by kernel_rfl, by kernel_rfl, by kernel_rfl, _, rfl, by kernel_rfl⟩, ⟨Tryd.t62, by kernel_rfl, by kernel_rfl⟩, ⟨_, Tryd.underlying62, rfl⟩⟩,
  ⟨⟨Tryd.t64, by kernel_rfl, by kernel_rfl, by kernel_rfl, _, rfl, by kernel_rfl⟩, ⟨Tryd.t64, by kernel_rfl, by kernel_rfl⟩, ⟨_, Tryd.underlying64, rfl⟩⟩,
  ⟨⟨Tryd.t73, by kernel_rfl, by kernel_rfl, by kernel_rfl, _, rfl, by kernel_rfl⟩, ⟨Tryd.t73, by kernel_rfl, by kernel_rfl⟩, ⟨_, Tryd.underlying73, rfl⟩⟩,
  ⟨⟨Tryd.t74, by kernel_rfl, by kernel_rfl, by kernel_rfl, _, rfl, by kernel_rfl⟩, ⟨Tryd.t74, by kernel_rfl, by kernel_rfl⟩, ⟨_, Tryd.underlying74, rfl⟩⟩,
  ⟨⟨Tryd.t78, by kernel_rfl, by kernel_rfl, by kernel_rfl, _, rfl, by kernel_rfl⟩, ⟨Tryd.t78, by kernel_rfl, by kernel_rfl⟩, ⟨_, Tryd.underlying78, rfl⟩⟩, trivial⟩
theorem mix : Tryd.prog.follows .mixedOrders = true := by kernel_rfl
noncomputable abbrev cx := cxF Tryd.prog tys tys_ok mix
end Go.Proofs.YthabnmihfgoabaaDoor
namespace Go.Proofs.YthabnmihfgoabaaDoor
open Go Go.Eng
set_option maxRecDepth 100000

theorem min3 (n g b k : Int) : k ≤ minL [n, g, b] ↔ k ≤ n ∧ k ≤ g ∧ k ≤ b := by
  simp only [minL, List.foldl]; split <;> split <;> omega
theorem max3 (n g b k : Int) : maxL [n, g, b] ≤ k ↔ n ≤ k ∧ g ≤ k ∧ b ≤ k := by
  simp only [maxL, List.foldl]; split <;> split <;> omega
theorem min2' (n g k : Int) : minL [n, g] < k ↔ n < k ∨ g < k := by
  simp only [minL, List.foldl]; split <;> omega
theorem max2' (n g k : Int) : k < maxL [n, g] ↔ k < n ∨ k < g := by
  simp only [maxL, List.foldl]; split <;> omega

def judgeOk (n g b p h : Int) : Prop := 0 ≤ n ∧ n ≤ 1073741824 ∧ 0 ≤ g ∧ g ≤ 1073741824 ∧ 0 ≤ b ∧ b ≤ 1073741824 ∧ 0 ≤ p ∧ p ≤ 100 ∧ 0 ≤ h ∧ h ≤ 100
instance (n g b p h : Int) : Decidable (judgeOk n g b p h) := by unfold judgeOk; exact inferInstance
def judgeV (n g b p h : Int) : Int × Int :=
  if judgeOk n g b p h then (if 100 * b > h * n then (2, 0) else if 100 * g ≥ p * n then (1, 0) else (0, 0)) else (0, 1)
def pairT (x : Int × Int) : Value := .tuple #[.int .i64 x.1, .int .i64 x.2]

theorem mul_bnd {p n : Int} (hp : 0 ≤ p ∧ p ≤ 100) (hn : 0 ≤ n ∧ n ≤ 1073741824) : 0 ≤ p * n ∧ p * n ≤ 107374182400 := by
  constructor
  · exact Int.mul_nonneg hp.1 hn.1
  · have h1 : p * n ≤ 100 * n := Int.mul_le_mul_of_nonneg_right hp.2 hn.1
    omega

theorem judge_tr (n g b p h : Int) (R : Hp) : Tr Tryd.prog 16 [.int .i64 n, .int .i64 g, .int .i64 b, .int .i64 p, .int .i64 h] R [] fun x L' => x = pairT (judgeV n g b p h) ∧ L' = [] := by
  refine Tr.intro tys_ok mix Tryd.func16 rfl rfl rfl ?_
  have bad : ¬ judgeOk n g b p h → ∀ h', Sat R ([] : List HA) h' → ∃ L', (pairT (0, 1) = pairT (judgeV n g b p h) ∧ L' = []) ∧ Sat R L' h' := fun hn h' hs => ⟨[], ⟨by rw [judgeV, if_neg hn], rfl⟩, hs⟩
  refine X_min (f := 1000) [n, g, b] rfl rfl (by simp) ?_
  refine X_g (f := 1000) rfl ⟨_, rfl, rfl⟩ (fun h1 => ?_) (fun h1 => ?_)
  · have h1 : 0 ≤ minL [n, g, b] := by simpa using h1
    rw [min3] at h1
    refine X_max (f := 1000) [n, g, b] rfl rfl (by simp) ?_
    refine X_g (f := 1000) rfl ⟨_, rfl, rfl⟩ (fun h2 => ?_) (fun h2 => ?_)
    · have h2 : ¬ maxL [n, g, b] ≤ 1073741824 := by simpa using h2
      rw [max3] at h2
      refine X_ret (f := 1000) rfl rfl Tryd.func16 rfl fun h' hs => bad (by unfold judgeOk; omega) h' (hs.pick0 [])
    · have h2 : maxL [n, g, b] ≤ 1073741824 := by simpa using h2
      rw [max3] at h2
      refine X_min (f := 1000) [p, h] rfl rfl (by simp) ?_
      refine X_g (f := 1000) rfl ⟨_, rfl, rfl⟩ (fun h3 => ?_) (fun h3 => ?_)
      · have h3 : minL [p, h] < 0 := by simpa using h3
        rw [min2'] at h3
        refine X_ret (f := 1000) rfl rfl Tryd.func16 rfl fun h' hs => bad (by unfold judgeOk; omega) h' (hs.pick0 [])
      · have h3 : ¬ minL [p, h] < 0 := by simpa using h3
        rw [min2'] at h3
        refine X_max (f := 1000) [p, h] rfl rfl (by simp) ?_
        refine X_if (f := 1000) rfl ⟨_, rfl, rfl⟩ (fun h4 => ?_) (fun h4 => ?_)
        · have h4 : 100 < maxL [p, h] := by simpa using h4
          rw [max2'] at h4
          refine X_ret (f := 1000) rfl rfl Tryd.func16 rfl fun h' hs => bad (by unfold judgeOk; omega) h' (hs.pick0 [])
        · have h4 : ¬ 100 < maxL [p, h] := by simpa using h4
          rw [max2'] at h4
          have hok : judgeOk n g b p h := by unfold judgeOk; omega
          have m1 := mul_bnd (p := h) (n := n) (by omega) (by omega)
          have m2 := mul_bnd (p := p) (n := n) (by omega) (by omega)
          refine X_ar (f := 1000) rfl rfl rfl (ar_mul (by omega)) ?_
          refine X_ar (f := 1000) rfl rfl rfl (ar_mul (by omega)) ?_
          refine X_if (f := 1000) rfl ⟨_, rfl, rfl⟩ (fun h5 => ?_) (fun h5 => ?_)
          · have h5 : h * n < 100 * b := by simpa using h5
            refine X_ret (f := 1000) rfl rfl Tryd.func16 rfl fun h' hs => ⟨_, ⟨by simp [tupV, judgeV, hok, h5, pairT, SV.den], rfl⟩, hs.pick0 []⟩
          · have h5 : ¬ h * n < 100 * b := by simpa using h5
            refine X_ar (f := 1000) rfl rfl rfl (ar_mul (by omega)) ?_
            refine X_ar (f := 1000) rfl rfl rfl (ar_mul (by omega)) ?_
            refine X_if (f := 1000) rfl ⟨_, rfl, rfl⟩ (fun h6 => ?_) (fun h6 => ?_)
            · have h6 : p * n ≤ 100 * g := by simpa using h6
              refine X_ret (f := 1000) rfl rfl Tryd.func16 rfl fun h' hs => ⟨_, ⟨by simp [tupV, judgeV, hok, h5, h6, pairT, SV.den], rfl⟩, hs.pick0 []⟩
            · have h6 : ¬ p * n ≤ 100 * g := by simpa using h6
              refine X_ret (f := 1000) rfl rfl Tryd.func16 rfl fun h' hs => ⟨_, ⟨by simp [tupV, judgeV, hok, h5, h6, pairT, SV.den], rfl⟩, hs.pick0 []⟩
  · have h1 : ¬ 0 ≤ minL [n, g, b] := by simpa using h1
    rw [min3] at h1
    refine X_ret (f := 1000) rfl rfl Tryd.func16 rfl fun h' hs => bad (by unfold judgeOk; omega) h' (hs.pick0 [])
end Go.Proofs.YthabnmihfgoabaaDoor
namespace Go.Proofs.YthabnmihfgoabaaDoor
open Go Go.Eng
set_option maxRecDepth 100000

theorem refJudge_tr (n g b p h : Int) (R : Hp) : Tr Tryd.prog 17 [.int .i64 n, .int .i64 g, .int .i64 b, .int .i64 p, .int .i64 h] R [] fun x L' => x = pairT (judgeV n g b p h) ∧ L' = [] := by
  refine Tr.intro tys_ok mix Tryd.func17 rfl rfl rfl ?_
  have bad : ¬ judgeOk n g b p h → ∀ h', Sat R ([] : List HA) h' → ∃ L', (pairT (0, 1) = pairT (judgeV n g b p h) ∧ L' = []) ∧ Sat R L' h' := fun hn h' hs => ⟨[], ⟨by rw [judgeV, if_neg hn], rfl⟩, hs⟩
  refine X_g (f := 1000) rfl ⟨_, rfl, rfl⟩ (fun c0 => ?t0) (fun c0 => ?_)
  case t0 =>
    have c0 : n < 0 := by simpa using c0
    refine X_ret (f := 1000) rfl rfl Tryd.func17 rfl fun h' hs => bad (by unfold judgeOk; omega) h' (hs.pick0 [])
  have c0 : ¬ (n < 0) := by simpa using c0
  refine X_g (f := 1000) rfl ⟨_, rfl, rfl⟩ (fun c1 => ?t1) (fun c1 => ?_)
  case t1 =>
    have c1 : 1073741824 < n := by simpa using c1
    refine X_ret (f := 1000) rfl rfl Tryd.func17 rfl fun h' hs => bad (by unfold judgeOk; omega) h' (hs.pick0 [])
  have c1 : ¬ (1073741824 < n) := by simpa using c1
  refine X_g (f := 1000) rfl ⟨_, rfl, rfl⟩ (fun c2 => ?t2) (fun c2 => ?_)
  case t2 =>
    have c2 : g < 0 := by simpa using c2
    refine X_ret (f := 1000) rfl rfl Tryd.func17 rfl fun h' hs => bad (by unfold judgeOk; omega) h' (hs.pick0 [])
  have c2 : ¬ (g < 0) := by simpa using c2
  refine X_g (f := 1000) rfl ⟨_, rfl, rfl⟩ (fun c3 => ?t3) (fun c3 => ?_)
  case t3 =>
    have c3 : 1073741824 < g := by simpa using c3
    refine X_ret (f := 1000) rfl rfl Tryd.func17 rfl fun h' hs => bad (by unfold judgeOk; omega) h' (hs.pick0 [])
  have c3 : ¬ (1073741824 < g) := by simpa using c3
  refine X_g (f := 1000) rfl ⟨_, rfl, rfl⟩ (fun c4 => ?t4) (fun c4 => ?_)
  case t4 =>
    have c4 : b < 0 := by simpa using c4
    refine X_ret (f := 1000) rfl rfl Tryd.func17 rfl fun h' hs => bad (by unfold judgeOk; omega) h' (hs.pick0 [])
  have c4 : ¬ (b < 0) := by simpa using c4
  refine X_g (f := 1000) rfl ⟨_, rfl, rfl⟩ (fun c5 => ?t5) (fun c5 => ?_)
  case t5 =>
    have c5 : 1073741824 < b := by simpa using c5
    refine X_ret (f := 1000) rfl rfl Tryd.func17 rfl fun h' hs => bad (by unfold judgeOk; omega) h' (hs.pick0 [])
  have c5 : ¬ (1073741824 < b) := by simpa using c5
  refine X_g (f := 1000) rfl ⟨_, rfl, rfl⟩ (fun c6 => ?t6) (fun c6 => ?_)
  case t6 =>
    have c6 : p < 0 := by simpa using c6
    refine X_ret (f := 1000) rfl rfl Tryd.func17 rfl fun h' hs => bad (by unfold judgeOk; omega) h' (hs.pick0 [])
  have c6 : ¬ (p < 0) := by simpa using c6
  refine X_g (f := 1000) rfl ⟨_, rfl, rfl⟩ (fun c7 => ?t7) (fun c7 => ?_)
  case t7 =>
    have c7 : 100 < p := by simpa using c7
    refine X_ret (f := 1000) rfl rfl Tryd.func17 rfl fun h' hs => bad (by unfold judgeOk; omega) h' (hs.pick0 [])
  have c7 : ¬ (100 < p) := by simpa using c7
  refine X_g (f := 1000) rfl ⟨_, rfl, rfl⟩ (fun c8 => ?t8) (fun c8 => ?_)
  case t8 =>
    have c8 : h < 0 := by simpa using c8
    refine X_ret (f := 1000) rfl rfl Tryd.func17 rfl fun h' hs => bad (by unfold judgeOk; omega) h' (hs.pick0 [])
  have c8 : ¬ (h < 0) := by simpa using c8
  refine X_if (f := 1000) rfl ⟨_, rfl, rfl⟩ (fun h4 => ?_) (fun h4 => ?_)
  · have h4 : 100 < h := by simpa using h4
    refine X_ret (f := 1000) rfl rfl Tryd.func17 rfl fun h' hs => bad (by unfold judgeOk; omega) h' (hs.pick0 [])
  · have h4 : ¬ 100 < h := by simpa using h4
    have hok : judgeOk n g b p h := by unfold judgeOk; omega
    have m1 := mul_bnd (p := h) (n := n) (by omega) (by omega)
    have m2 := mul_bnd (p := p) (n := n) (by omega) (by omega)
    refine X_ar (f := 1000) rfl rfl rfl (ar_mul (by omega)) ?_
    refine X_ar (f := 1000) rfl rfl rfl (ar_mul (by omega)) ?_
    refine X_if (f := 1000) rfl ⟨_, rfl, rfl⟩ (fun h5 => ?_) (fun h5 => ?_)
    · have h5 : h * n < 100 * b := by simpa using h5
      refine X_ret (f := 1000) rfl rfl Tryd.func17 rfl fun h' hs => ⟨_, ⟨by simp [tupV, judgeV, hok, h5, pairT, SV.den], rfl⟩, hs.pick0 []⟩
    · have h5 : ¬ h * n < 100 * b := by simpa using h5
      refine X_ar (f := 1000) rfl rfl rfl (ar_mul (by omega)) ?_
      refine X_ar (f := 1000) rfl rfl rfl (ar_mul (by omega)) ?_
      refine X_if (f := 1000) rfl ⟨_, rfl, rfl⟩ (fun h6 => ?_) (fun h6 => ?_)
      · have h6 : p * n ≤ 100 * g := by simpa using h6
        refine X_ret (f := 1000) rfl rfl Tryd.func17 rfl fun h' hs => ⟨_, ⟨by simp [tupV, judgeV, hok, h5, h6, pairT, SV.den], rfl⟩, hs.pick0 []⟩
      · have h6 : ¬ p * n ≤ 100 * g := by simpa using h6
        refine X_ret (f := 1000) rfl rfl Tryd.func17 rfl fun h' hs => ⟨_, ⟨by simp [tupV, judgeV, hok, h5, h6, pairT, SV.den], rfl⟩, hs.pick0 []⟩
end Go.Proofs.YthabnmihfgoabaaDoor
namespace Go.Proofs.YthabnmihfgoabaaDoor
open Go Go.Eng
set_option maxRecDepth 100000

def incL : Int → List Int → Option Int
  | last, [] => some last
  | last, p :: r => if p ≤ last then none else incL p r
def rightP (xs : List Int) : Bool := decide (1 ≤ xs.length ∧ xs.length ≤ 8 ∧ incL 0 xs = some 100)

theorem right_tr (a : Option Addr) (n cap : Nat) (xs : List Int) (R : Hp) (hx : IntsIn R a n xs) : Tr Tryd.prog 14 [.slice a n cap] R [] fun v L' => v = .bool (rightP xs) ∧ L' = [] := by
  refine Tr.intro tys_ok mix Tryd.func14 rfl rfl rfl ?_
  have hl := hx.len
  refine X_g (f := 1000) rfl ⟨_, rfl, rfl⟩ (fun h1 => ?_) (fun h1 => ?_)
  · have h1 : n < 1 := by
      have : (n : Int) < 1 := by simpa using h1
      omega
    refine X_ret (f := 1000) rfl rfl Tryd.func14 rfl fun h' hs => ⟨_, ⟨by simp [tupV, rightP, SV.den, hl]; omega, rfl⟩, hs.pick0 []⟩
  · have h1 : ¬ n < 1 := by
      have : ¬ (n : Int) < 1 := by simpa using h1
      omega
    refine X_if (f := 1000) rfl ⟨_, rfl, rfl⟩ (fun h2 => ?_) (fun h2 => ?_)
    · have h2 : 8 < n := by
        have : (8 : Int) < n := by simpa using h2
        omega
      refine X_ret (f := 1000) rfl rfl Tryd.func14 rfl fun h' hs => ⟨_, ⟨by simp [tupV, rightP, SV.den, hl]; omega, rfl⟩, hs.pick0 []⟩
    · have h2 : ¬ 8 < n := by
        have : ¬ (8 : Int) < n := by simpa using h2
        omega
      refine X_loop (f := 1000) [3, 16] [2, 14, 15] [] (fun m vs L => ∃ (i : Nat) (z : Int), i ≤ n ∧ m = n - i ∧ incL 0 xs = incL z (xs.drop i) ∧ vs = [.int .i64 z, .int .i64 i] ∧ L = [])
        rfl rfl rfl ⟨0, 0, by omega, rfl, rfl, rfl, rfl⟩ ?_
      rintro m vs L ⟨i, z, hi, rfl, hz, rfl, rfl⟩ ih
      refine X_if (f := 1000) rfl ⟨_, rfl, rfl⟩ (fun h3 => ?_) (fun h3 => ?_)
      · have hlt : i < n := by simpa using h3
        obtain ⟨b, o, rfl, hxi, hcell⟩ := hx.at hlt
        have hdrop : xs.drop i = xs[i] :: xs.drop (i + 1) := List.drop_eq_getElem_cons hxi
        generalize xs[i] = x at hcell hdrop
        refine X_idx (f := 1000) i rfl rfl rfl rfl hlt rfl rfl rfl rfl ?_
        refine X_loadR (f := 1000) rfl rfl (fun h hs => ldv_one rfl rfl rfl (Hp.cell_mono hs (by simpa using hcell))) ?_
        refine X_if (f := 1000) rfl ⟨_, rfl, rfl⟩ (fun h4 => ?_) (fun h4 => ?_)
        · have h4 : x ≤ z := by simpa using h4
          refine X_ret (f := 1000) rfl rfl Tryd.func14 rfl fun h' hs => ⟨_, ⟨by simp [tupV, rightP, SV.den, hl, hz, hdrop, incL, h4], rfl⟩, hs.pick0 []⟩
        · have h4 : ¬ x ≤ z := by simpa using h4
          refine X_ar (f := 1000) rfl rfl rfl (ar_add (by omega)) ?_
          refine X_again (f := 1000) [3, 16] [2, 14, 15] [] rfl rfl rfl ?_
          exact ih (n - (i + 1)) _ _ (by omega) ⟨i + 1, x, by omega, rfl, by rw [hz, hdrop]; simp [incL, h4], rfl, rfl⟩
      · have hin : i = n := by
          have : ¬ (i < n) := by simpa using h3
          omega
        have hd : xs.drop i = [] := List.drop_eq_nil_of_le (by omega)
        refine X_ret (f := 1000) rfl rfl Tryd.func14 rfl fun h' hs => ⟨_, ⟨?_, rfl⟩, hs.pick0 []⟩
        have e1 : 1 ≤ n := by omega
        have e2 : n ≤ 8 := by omega
        simp [tupV, rightP, SV.den, hl, hz, hd, incL, e1, e2]

def oddD (x : Int) : Bool := decide (x < 1 ∨ 4096 < x)
theorem odd_tr (x : Int) (R : Hp) : Tr Tryd.prog 19 [.int .i64 x] R [] fun v L' => v = .bool (oddD x) ∧ L' = [] := by
  refine Tr.intro tys_ok mix Tryd.func19 rfl rfl rfl ?_
  refine X_g (f := 1000) rfl ⟨_, rfl, rfl⟩ (fun h => ?_) (fun h => ?_)
  · refine X_ret (f := 1000) rfl rfl Tryd.func19 rfl fun h' hs => ⟨_, ⟨by simp at h; simp [tupV, SV.den, oddD, h], rfl⟩, hs.pick0 []⟩
  · refine X_ret (f := 1000) rfl rfl Tryd.func19 rfl fun h' hs => ⟨_, ⟨by simp at h; simp [tupV, SV.den, oddD]; omega, rfl⟩, hs.pick0 []⟩

/-- the first place at which p holds, or -1 -/
def findI (p : Int → Bool) (xs : List Int) : Int := match xs.findIdx? p with | some i => i | none => -1

theorem indexFunc_tr (a : Option Addr) (n cap : Nat) (xs : List Int) (fv : Value) (p : Int → Bool) (R : Hp) (hx : IntsIn R a n xs) (hp : ∀ x r, Sub R r → TrV Tryd.prog fv [.int .i64 x] r [] fun v L' => v = .bool (p x) ∧ L' = []) :
    Tr Tryd.prog 30 [.slice a n cap, fv] R [] fun v L' => ∃ z : Int, v = .int .i64 z ∧ (0 ≤ z ↔ ∃ x ∈ xs, p x = true) ∧ L' = [] := by
  refine Tr.intro tys_ok mix Tryd.func30 rfl rfl rfl ?_
  refine X_loop (f := 1000) [8] [0, 1, 6, 7] [] (fun m vs L => ∃ i : Nat, i ≤ n ∧ m = n - i ∧ (∀ j (hj : j < xs.length), j < i → p xs[j] = false) ∧ vs = [.int .i64 i] ∧ L = [])
    rfl rfl rfl ⟨0, by omega, rfl, fun _ _ h => by omega, rfl, rfl⟩ ?_
  rintro m vs L ⟨i, hi, rfl, hno, rfl, rfl⟩ ih
  refine X_if (f := 1000) rfl ⟨_, rfl, rfl⟩ (fun h3 => ?_) (fun h3 => ?_)
  · have hlt : i < n := by simpa using h3
    obtain ⟨b, o, rfl, hxi, hcell⟩ := hx.at hlt
    refine X_idx (f := 1000) i rfl rfl rfl rfl hlt rfl rfl rfl rfl ?_
    refine X_loadR (f := 1000) rfl rfl (fun h hs => ldv_one rfl rfl rfl (Hp.cell_mono hs (by simpa using hcell))) ?_
    refine X_callV (f := 1000) (C := fun r => Sub R r) [] rfl rfl rfl rfl (fun r hr => hp _ r hr) (fun r hr => hr.sub) ?_
    rintro v L' ⟨rfl, rfl⟩
    refine X_if (f := 1000) rfl ⟨_, rfl, rfl⟩ (fun h4 => ?_) (fun h4 => ?_)
    · refine X_ret (f := 1000) rfl rfl Tryd.func30 rfl fun h' hs => ⟨_, ⟨(i : Int), rfl, ⟨fun _ => ⟨xs[i], List.getElem_mem hxi, h4⟩, fun _ => by omega⟩, rfl⟩, hs.pick0 []⟩
    · have hs := hx.small
      refine X_ar (f := 1000) rfl rfl rfl (ar_add (by omega)) ?_
      refine X_again (f := 1000) [8] [0, 1, 6, 7] [] rfl rfl rfl ?_
      refine ih (n - (i + 1)) _ _ (by omega) ⟨i + 1, by omega, rfl, fun j hj hji => ?_, rfl, rfl⟩
      rcases Nat.lt_succ_iff_lt_or_eq.1 hji with h5 | h5
      · exact hno j hj h5
      · subst h5; exact h4
  · have hin : i = n := by
      have : ¬ (i < n) := by simpa using h3
      omega
    refine X_ret (f := 1000) rfl rfl Tryd.func30 rfl fun h' hs => ⟨_, ⟨-1, rfl, ⟨fun h => by omega, ?_⟩, rfl⟩, hs.pick0 []⟩
    rintro ⟨x, hxm, hpx⟩
    obtain ⟨j, hj, rfl⟩ := List.mem_iff_getElem.1 hxm
    rw [hno j hj (by rw [hin, ← hx.len]; exact hj)] at hpx
    cases hpx
end Go.Proofs.YthabnmihfgoabaaDoor
namespace Go.Proofs.YthabnmihfgoabaaDoor
open Go Go.Eng
set_option maxRecDepth 100000

def cmpI (x y : Int) : Int := if x < y then -1 else if y < x then 1 else 0

theorem isNaN_tr (x : Int) (R : Hp) : Tr Tryd.prog 35 [.int .i64 x] R [] fun v L' => v = .bool false ∧ L' = [] := by
  refine Tr.intro tys_ok mix Tryd.func35 rfl rfl rfl ?_
  refine X_ret (f := 1000) rfl rfl Tryd.func35 rfl fun h' hs => ⟨_, ⟨by simp [tupV, SV.den], rfl⟩, hs.pick0 []⟩

theorem compare_tr (x y : Int) (R : Hp) : Tr Tryd.prog 28 [.int .i64 x, .int .i64 y] R [] fun v L' => v = .int .i64 (cmpI x y) ∧ L' = [] := by
  refine Tr.intro tys_ok mix Tryd.func28 rfl rfl rfl ?_
  refine X_call (f := 1000) (C := fun _ => True) [] rfl rfl rfl rfl (fun r _ => isNaN_tr _ r) (fun _ _ => trivial) ?_
  rintro v L' ⟨rfl, rfl⟩
  refine X_call (f := 1000) (C := fun _ => True) [] rfl rfl rfl rfl (fun r _ => isNaN_tr _ r) (fun _ _ => trivial) ?_
  rintro v L' ⟨rfl, rfl⟩
  refine X_ifF (f := 1000) rfl ⟨_, rfl, rfl⟩ rfl ?_
  refine X_ifF (f := 1000) rfl ⟨_, rfl, rfl⟩ rfl ?_
  refine X_if (f := 1000) rfl ⟨_, rfl, rfl⟩ (fun h1 => ?_) (fun h1 => ?_)
  · have h1 : x < y := by simpa using h1
    refine X_ret (f := 1000) rfl rfl Tryd.func28 rfl fun h' hs => ⟨_, ⟨by simp [tupV, cmpI, h1, SV.den], rfl⟩, hs.pick0 []⟩
  · have h1 : ¬ x < y := by simpa using h1
    refine X_if (f := 1000) rfl ⟨_, rfl, rfl⟩ (fun h2 => ?_) (fun h2 => ?_)
    · have h2 : y < x := by simpa using h2
      refine X_ret (f := 1000) rfl rfl Tryd.func28 rfl fun h' hs => ⟨_, ⟨by simp [tupV, cmpI, h1, h2, SV.den], rfl⟩, hs.pick0 []⟩
    · have h2 : ¬ y < x := by simpa using h2
      refine X_ret (f := 1000) rfl rfl Tryd.func28 rfl fun h' hs => ⟨_, ⟨by simp [tupV, cmpI, h1, h2, SV.den], rfl⟩, hs.pick0 []⟩

theorem isNaNu_tr (x : Int) (R : Hp) : Tr Tryd.prog 34 [.int .u32 x] R [] fun v L' => v = .bool false ∧ L' = [] := by
  refine Tr.intro tys_ok mix Tryd.func34 rfl rfl rfl ?_
  refine X_ret (f := 1000) rfl rfl Tryd.func34 rfl fun h' hs => ⟨_, ⟨by simp [tupV, SV.den], rfl⟩, hs.pick0 []⟩

theorem compareU_tr (x y : Int) (R : Hp) : Tr Tryd.prog 27 [.int .u32 x, .int .u32 y] R [] fun v L' => v = .int .i64 (cmpI x y) ∧ L' = [] := by
  refine Tr.intro tys_ok mix Tryd.func27 rfl rfl rfl ?_
  refine X_call (f := 1000) (C := fun _ => True) [] rfl rfl rfl rfl (fun r _ => isNaNu_tr _ r) (fun _ _ => trivial) ?_
  rintro v L' ⟨rfl, rfl⟩
  refine X_call (f := 1000) (C := fun _ => True) [] rfl rfl rfl rfl (fun r _ => isNaNu_tr _ r) (fun _ _ => trivial) ?_
  rintro v L' ⟨rfl, rfl⟩
  refine X_ifF (f := 1000) rfl ⟨_, rfl, rfl⟩ rfl ?_
  refine X_ifF (f := 1000) rfl ⟨_, rfl, rfl⟩ rfl ?_
  refine X_if (f := 1000) rfl ⟨_, rfl, rfl⟩ (fun h1 => ?_) (fun h1 => ?_)
  · have h1 : x < y := by simpa using h1
    refine X_ret (f := 1000) rfl rfl Tryd.func27 rfl fun h' hs => ⟨_, ⟨by simp [tupV, cmpI, h1, SV.den], rfl⟩, hs.pick0 []⟩
  · have h1 : ¬ x < y := by simpa using h1
    refine X_if (f := 1000) rfl ⟨_, rfl, rfl⟩ (fun h2 => ?_) (fun h2 => ?_)
    · have h2 : y < x := by simpa using h2
      refine X_ret (f := 1000) rfl rfl Tryd.func27 rfl fun h' hs => ⟨_, ⟨by simp [tupV, cmpI, h1, h2, SV.den], rfl⟩, hs.pick0 []⟩
    · have h2 : ¬ y < x := by simpa using h2
      refine X_ret (f := 1000) rfl rfl Tryd.func27 rfl fun h' hs => ⟨_, ⟨by simp [tupV, cmpI, h1, h2, SV.den], rfl⟩, hs.pick0 []⟩

def orI : List Int → Int
  | [] => 0
  | x :: r => if x ≠ 0 then x else orI r

theorem or_tr (a : Option Addr) (n cap : Nat) (xs : List Int) (R : Hp) (hx : IntsIn R a n xs) : Tr Tryd.prog 26 [.slice a n cap] R [] fun v L' => v = .int .i64 (orI xs) ∧ L' = [] := by
  refine Tr.intro tys_ok mix Tryd.func26 rfl rfl rfl ?_
  refine X_loop (f := 1000) [8] [2, 3, 6, 7] [] (fun m vs L => ∃ i : Nat, i ≤ n ∧ m = n - i ∧ orI xs = orI (xs.drop i) ∧ vs = [.int .i64 i] ∧ L = [])
    rfl rfl rfl ⟨0, by omega, rfl, rfl, rfl, rfl⟩ ?_
  rintro m vs L ⟨i, hi, rfl, ho, rfl, rfl⟩ ih
  refine X_if (f := 1000) rfl ⟨_, rfl, rfl⟩ (fun h1 => ?_) (fun h1 => ?_)
  · have hlt : i < n := by simpa using h1
    have hxs : i < xs.length := by rw [hx.len]; exact hlt
    rcases hx.rd with h0 | ⟨b, o, rfl, hc⟩
    · have := congrArg List.length h0; simp [hx.len] at this; omega
    have hcell : R.cell ⟨b, o + i, none⟩ = some (iV xs[i]) := hc i _ (by simp [hxs])
    have hdrop : xs.drop i = xs[i] :: xs.drop (i + 1) := (List.drop_eq_getElem_cons hxs)
    generalize xs[i] = x at hcell hdrop
    refine X_idx (f := 1000) i rfl rfl rfl rfl hlt rfl rfl rfl rfl ?_
    refine X_loadR (f := 1000) rfl rfl (fun h hs => ldv_one rfl rfl rfl (Hp.cell_mono hs (by simpa using hcell))) ?_
    refine X_if (f := 1000) rfl ⟨_, rfl, rfl⟩ (fun h2 => ?_) (fun h2 => ?_)
    · have h2 : x ≠ 0 := by simpa using h2
      refine X_ret (f := 1000) rfl rfl Tryd.func26 rfl fun h' hs => ⟨_, ⟨by rw [ho, hdrop]; simp [tupV, orI, h2, SV.den, iV], rfl⟩, hs.pick0 []⟩
    · have h2 : x = 0 := by simpa using h2
      refine X_ar (f := 1000) rfl rfl rfl (ar_add (by have := hx.small; omega)) ?_
      refine X_again (f := 1000) [8] [2, 3, 6, 7] [] rfl rfl rfl ?_
      exact ih (n - (i + 1)) _ _ (by omega) ⟨i + 1, by omega, rfl, by rw [ho, hdrop]; simp [orI, h2], rfl, rfl⟩
  · have hin : i = n := by have : ¬ (i < n) := by simpa using h1
                           omega
    refine X_ret (f := 1000) rfl rfl Tryd.func26 rfl fun h' hs => ⟨_, ⟨by rw [ho, List.drop_eq_nil_of_le (by rw [hx.len]; omega)]; rfl, rfl⟩, hs.pick0 []⟩


theorem containsFunc_tr (a : Option Addr) (n cap : Nat) (xs : List Int) (fv : Value) (p : Int → Bool) (R : Hp) (hx : IntsIn R a n xs) (hp : ∀ x r, Sub R r → TrV Tryd.prog fv [.int .i64 x] r [] fun v L' => v = .bool (p x) ∧ L' = []) :
    Tr Tryd.prog 20 [.slice a n cap, fv] R [] fun v L' => v = .bool (xs.any p) ∧ L' = [] := by
  refine Tr.intro tys_ok mix Tryd.func20 rfl rfl rfl ?_
  refine X_call (f := 1000) (C := fun r => Sub R r) [] rfl rfl rfl rfl (fun r hr => indexFunc_tr a n cap xs fv p r (hx.mono hr) (fun x r' hr' => hp x r' (hr.trans hr'))) (fun r hr => hr.sub) ?_
  rintro v L' ⟨z, rfl, hz, rfl⟩
  refine X_ret (f := 1000) rfl rfl Tryd.func20 rfl fun h' hs => ⟨_, ⟨?_, rfl⟩, hs.pick0 []⟩
  have e : xs.any p = decide (0 ≤ z) := by
    rw [Bool.eq_iff_iff, List.any_eq_true, decide_eq_true_eq, hz]
  simp [tupV, SV.den, e]
end Go.Proofs.YthabnmihfgoabaaDoor
namespace Go.Proofs.YthabnmihfgoabaaDoor
open Go Go.Eng
set_option maxRecDepth 100000

theorem clone_tr (a : Option Addr) (n cap : Nat) (xs : List Int) (R : Hp) (hx : IntsIn R a n xs) (hn : n ≤ 1000000) :
    Tr Tryd.prog 23 [.slice a n cap] R [] fun v L' => ∃ a' c', v = .slice a' n c' ∧ L' = [ownS 3 1 a' n c' (xs.map iV)] := by
  have hl := hx.len
  have empty : n = 0 → xs.map iV = [] := fun h => by
    have : xs = [] := List.eq_nil_of_length_eq_zero (by omega)
    rw [this]; rfl
  cases a with
  | none =>
    have hn0 : n = 0 := by
      rcases hx.rd with h0 | ⟨b, o, h, _⟩
      · have := congrArg List.length h0; simp at this; rw [this] at hl; simp at hl; omega
      · cases h
    subst hn0
    refine Tr.intro tys_ok mix Tryd.func23 rfl rfl rfl ?_
    refine Y.addE (ownS_nil 3 1) ?_
    refine X_ret (f := 1000) rfl rfl Tryd.func23 rfl fun h' hs => ⟨_, ⟨none, 0, rfl, by rw [empty rfl]; rfl⟩, hs.pick0 [0]⟩
  | some ad =>
    refine Tr.intro tys_ok mix Tryd.func23 rfl rfl rfl ?_
    refine X_mkslice (f := 1000) rfl rfl rfl rfl rfl rfl rfl fun b => ?_
    by_cases hn0 : n = 0
    · subst hn0
      refine X_append0 (f := 1000) rfl rfl rfl rfl rfl rfl (Nat.le_refl _) ?_
      refine Y.toOwn (i := 0) (n := 0) (cp := 0) 1 rfl [] (Nat.le_refl _) (Nat.zero_le _) rfl rfl ?_
      refine X_ret (f := 1000) rfl rfl Tryd.func23 rfl fun h' hs => ⟨_, ⟨some ⟨b, 0, none⟩, 0, rfl, by rw [empty rfl]; rfl⟩, hs.pick0 [0]⟩
    · refine X_appendG (f := 1000) (m := n) (size := 1) [] (xs.map iV) rfl rfl rfl rfl rfl rfl rfl rfl (by omega) rfl (by simp [hl]) (by omega) (by show (0 + n) * 8 ≤ _; omega) (by omega) (by omega) (fun h => by cases h)
        (fun _ _ _ => .inl rfl) (fun A h hs => hx.rd.mono hs.sub) fun a' c' => ?_
      refine X_ret (f := 1000) rfl rfl Tryd.func23 rfl fun h' hs => ⟨_, ⟨a', c', ?_, ?_⟩, hs.pick0 [1]⟩
      · simp [tupV, SV.den]
      · rw [Nat.zero_add]; rfl
end Go.Proofs.YthabnmihfgoabaaDoor
namespace Go.Proofs.YthabnmihfgoabaaDoor
open Go Go.Eng
set_option maxRecDepth 100000

def shr (n : Int) (k : Nat) : Int := n.fdiv (2 ^ k)
theorem sh_at (n : Int) (k : Nat) (hk : k ≤ 64) : shI .shr .i64 n (k : Int) = some (shr n k) := by
  simp only [shI]
  rw [if_neg (by omega)]
  simp only [Int.toNat_natCast, shr]
  rw [show min k IntKind.i64.bits = k from by rw [Nat.min_eq_left]; exact hk]
def numB (n : Int) : List Value := [.int .u8 (IntKind.u8.wrap n), .int .u8 (IntKind.u8.wrap (shr n 8)), .int .u8 (IntKind.u8.wrap (shr n 16)), .int .u8 (IntKind.u8.wrap (shr n 24))]

theorem number_tr (n : Int) (R : Hp) : Tr Tryd.prog 22 [.int .i64 n] R [] fun v L' => ∃ b, v = .slice (some ⟨b, 0, none⟩) 4 4 ∧ L' = [.pt b (.cells (numB n).toArray 5 (0, 0))] := by
  refine Tr.intro tys_ok mix Tryd.func22 rfl rfl rfl ?_
  refine X_cv (f := 1000) rfl rfl rfl rfl rfl rfl ?_
  refine X_sh (f := 1000) rfl rfl rfl (sh_at n 8 (by omega)) ?_
  refine X_cv (f := 1000) rfl rfl rfl rfl rfl rfl ?_
  refine X_sh (f := 1000) rfl rfl rfl (sh_at n 16 (by omega)) ?_
  refine X_cv (f := 1000) rfl rfl rfl rfl rfl rfl ?_
  refine X_sh (f := 1000) rfl rfl rfl (sh_at n 24 (by omega)) ?_
  refine X_cv (f := 1000) rfl rfl rfl rfl rfl rfl ?_
  refine X_mkslice (f := 1000) rfl rfl rfl rfl rfl rfl rfl fun b => ?_
  refine X_ret (f := 1000) rfl rfl Tryd.func22 rfl fun h' hs => ⟨_, ⟨b, rfl, rfl⟩, hs.pick0 [0]⟩
end Go.Proofs.YthabnmihfgoabaaDoor
namespace Go.Proofs.YthabnmihfgoabaaDoor
open Go Go.Eng
set_option maxRecDepth 100000

def crcStep (st : List Nat) (s : Nat) : Nat := ((s * 2 ^ 4) &&& 16777215) ^^^ st.getD (s / 2 ^ 20) 0
def crcByte (st : List Nat) (s b : Nat) : Nat := crcStep st (crcStep st (s ^^^ (b * 2 ^ 16)))
def crcL (st : List Nat) (s : Nat) (bs : List Nat) : Nat := bs.foldl (crcByte st) s

/-- the table of steps, in what stays -/
structure StepsIn (R : Hp) (st : List Nat) : Prop where
  len : st.length = 16
  lt : ∀ x ∈ st, x < 16777216
  cell : ∀ i (hi : i < st.length), R.cell ⟨0, i, none⟩ = some (.int .u32 (st[i] : Nat))

theorem crcStep_lt {st : List Nat} (h : ∀ x ∈ st, x < 16777216) (s : Nat) : crcStep st s < 16777216 := by
  unfold crcStep
  refine Nat.xor_lt_two_pow (n := 24) (Nat.lt_of_le_of_lt Nat.and_le_right (by omega)) ?_
  rw [List.getD_eq_getElem?_getD]
  cases hx : st[s / 2 ^ 20]? with
  | none => simp
  | some x => exact h x (List.mem_of_getElem? hx)

theorem add_tr (st : List Nat) (s0 : Nat) (hs0 : s0 < 4294967296) (a : Option Addr) (n cap : Nat) (bs : List Nat) (R : Hp) (hlen : bs.length = n) (hb : ∀ b ∈ bs, b < 256) (hrd : RdAt R a (bs.map fun (b : Nat) => Value.int .u8 (b : Int))) (hn : n ≤ 1000000) (hst : StepsIn R st) :
    Tr Tryd.prog 31 [.int .u32 (s0 : Int), .slice a n cap] R [] fun v L' => v = .int .u32 (crcL st (s0 &&& 16777215) bs : Nat) ∧ L' = [] := by
  refine Tr.intro tys_ok mix Tryd.func31 rfl rfl rfl ?_
  refine X_ar (f := 1000) rfl rfl rfl (ar_andN (b := 16777215) hs0 (by omega)) ?_
  refine X_loop (f := 1000) [5, 12] [10, 11] [] (fun m vs L => ∃ (i s : Nat), i ≤ n ∧ m = n - i ∧ s < 16777216 ∧ crcL st (s0 &&& 16777215) bs = crcL st s (bs.drop i) ∧ vs = [.int .u32 (s : Int), .int .i64 i] ∧ L = [])
    rfl rfl rfl ⟨0, s0 &&& 16777215, by omega, rfl, Nat.lt_of_le_of_lt Nat.and_le_right (by omega), rfl, rfl, rfl⟩ ?_
  rintro m vs L ⟨i, s, hi, rfl, hs, hz, rfl, rfl⟩ ih
  refine X_if (f := 1000) rfl ⟨_, rfl, rfl⟩ (fun h3 => ?_) (fun h3 => ?_)
  · have hlt : i < n := by simpa using h3
    have hxi : i < bs.length := by omega
    have hc : (bs.map fun (b : Nat) => Value.int .u8 (b : Int))[i]? = some (.int .u8 (bs[i] : Nat)) := by simp [hxi]
    rcases hrd with h0 | ⟨bb, o, rfl, hr⟩
    · rw [h0] at hc; simp at hc
    have hcell := hr _ _ hc
    have hdrop : bs.drop i = bs[i] :: bs.drop (i + 1) := List.drop_eq_getElem_cons hxi
    have hb2 := hb _ (List.getElem_mem hxi)
    generalize bs[i] = b at hcell hdrop hb2
    refine X_idx (f := 1000) i rfl rfl rfl rfl hlt rfl rfl rfl rfl ?_
    refine X_loadR (f := 1000) rfl rfl (fun h hs => ldv_one rfl rfl rfl (Hp.cell_mono hs (by simpa using hcell))) ?_
    refine X_cv (f := 1000) rfl rfl rfl rfl rfl (u32_wrap (by omega)) ?_
    refine X_sh (f := 1000) rfl rfl rfl (sh_shlN (k := 16) (by omega) (by omega)) ?_
    refine X_ar (f := 1000) rfl rfl rfl (ar_xorN (by omega) (by omega)) ?_
    have hx1 : s ^^^ (b * 2 ^ 16) < 16777216 := Nat.xor_lt_two_pow (n := 24) hs (by omega)
    generalize hs1 : s ^^^ (b * 2 ^ 16) = s1 at hx1
    refine X_loop (f := 1000) [5, 21] [10, 11, 12] [] (fun m vs L => ∃ (j s2 : Nat), j ≤ 2 ∧ m = 2 - j ∧ s2 < 16777216 ∧ (j = 0 → s2 = s1) ∧ (j = 1 → s2 = crcStep st s1) ∧ (j = 2 → s2 = crcStep st (crcStep st s1)) ∧ vs = [.int .u32 (s2 : Int), .int .i64 j] ∧ L = [])
      rfl rfl rfl ⟨0, s1, by omega, rfl, hx1, fun _ => rfl, fun h => by omega, fun h => by omega, rfl, rfl⟩ ?_
    rintro m vs L ⟨j, s2, hj, rfl, hs2, e0, e1, e2, rfl, rfl⟩ ih2
    refine X_if (f := 1000) rfl ⟨_, rfl, rfl⟩ (fun h4 => ?_) (fun h4 => ?_)
    · have hj2 : j < 2 := by
        have : (j : Int) < 2 := by simpa using h4
        omega
      have hq : s2 / 2 ^ 20 < 16 := by omega
      have hcl := hst.cell (s2 / 2 ^ 20) (by rw [hst.len]; exact hq)
      have hgd : st.getD (s2 / 2 ^ 20) 0 = st[s2 / 2 ^ 20]'(by rw [hst.len]; exact hq) := by simp [List.getD_eq_getElem?_getD, hst.len, hq]
      have hvl := hst.lt _ (List.getElem_mem (show s2 / 2 ^ 20 < st.length by rw [hst.len]; exact hq))
      refine X_sh (f := 1000) rfl rfl rfl (sh_shlN (k := 4) (by omega) (by omega)) ?_
      refine X_ar (f := 1000) rfl rfl rfl (ar_andN (b := 16777215) (by omega) (by omega)) ?_
      refine X_sh (f := 1000) rfl rfl rfl (sh_shrN (k := 20) (by omega)) ?_
      refine X_idxA (f := 1000) (s2 / 2 ^ 20) rfl rfl rfl rfl hq rfl rfl rfl rfl ?_
      refine X_loadR (f := 1000) rfl rfl (fun h hs => ldv_one rfl rfl rfl (Hp.cell_mono hs (by simpa using hcl))) ?_
      refine X_ar (f := 1000) rfl rfl rfl (ar_xorN (Nat.lt_of_le_of_lt Nat.and_le_right (by omega)) (Nat.lt_trans hvl (by omega))) ?_
      refine X_ar (f := 1000) rfl rfl rfl (ar_add (by omega)) ?_
      refine X_again (f := 1000) [5, 21] [10, 11, 12] [] rfl rfl rfl ?_
      have hstep : (s2 * 2 ^ 4 &&& 16777215) ^^^ st[s2 / 2 ^ 20]'(by rw [hst.len]; exact hq) = crcStep st s2 := by unfold crcStep; rw [hgd]
      refine ih2 (2 - (j + 1)) _ _ (by omega) ⟨j + 1, crcStep st s2, by omega, rfl, crcStep_lt hst.lt s2, fun h => by omega, fun h => ?_, fun h => ?_, by rw [← hstep]; rfl, rfl⟩
      · rw [e0 (by omega)]
      · rw [e1 (by omega)]
    · have hj2 : j = 2 := by
        have : ¬ (j : Int) < 2 := by simpa using h4
        omega
      refine X_ar (f := 1000) rfl rfl rfl (ar_add (by omega)) ?_
      refine X_again (f := 1000) [5, 12] [10, 11] [] rfl rfl rfl ?_
      refine ih (n - (i + 1)) _ _ (by omega) ⟨i + 1, s2, by omega, rfl, hs2, ?_, rfl, rfl⟩
      rw [hz, hdrop, e2 hj2, ← hs1]
      rfl
  · have hin : i = n := by
      have : ¬ (i < n) := by simpa using h3
      omega
    refine X_ret (f := 1000) rfl rfl Tryd.func31 rfl fun h' hs => ⟨_, ⟨by rw [hz, List.drop_eq_nil_of_le (by omega)]; rfl, rfl⟩, hs.pick0 []⟩
end Go.Proofs.YthabnmihfgoabaaDoor
namespace Go.Proofs.YthabnmihfgoabaaDoor
open Go Go.Eng
set_option maxRecDepth 100000

theorem sum_tr (st : List Nat) (a : Option Addr) (n cap : Nat) (bs : List Nat) (R : Hp) (hlen : bs.length = n) (hb : ∀ b ∈ bs, b < 256) (hrd : RdAt R a (bs.map fun (b : Nat) => Value.int .u8 (b : Int))) (hn : n ≤ 1000000) (hst : StepsIn R st) :
    Tr Tryd.prog 21 [.slice a n cap] R [] fun v L' => v = .int .u32 (crcL st (11994318 &&& 16777215) bs : Nat) ∧ L' = [] := by
  refine Tr.intro tys_ok mix Tryd.func21 rfl rfl rfl ?_
  refine X_call (f := 1000) (C := fun r => Sub R r) [] rfl rfl rfl rfl (fun r hr => add_tr st 11994318 (by omega) a n cap bs r hlen hb (hrd.mono hr) hn ⟨hst.len, hst.lt, fun i hi => Hp.cell_mono hr (hst.cell i hi)⟩) (fun r hr => hr.sub) ?_
  rintro v L' ⟨rfl, rfl⟩
  refine X_ret (f := 1000) rfl rfl Tryd.func21 rfl fun h' hs => ⟨_, ⟨rfl, rfl⟩, hs.pick0 []⟩
end Go.Proofs.YthabnmihfgoabaaDoor
