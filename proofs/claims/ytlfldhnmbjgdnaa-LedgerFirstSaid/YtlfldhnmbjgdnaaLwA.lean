/-
  Lemmas for the walk: how the machine steps, and what each step needs; no condition.
-/
import Derived.Test.YtlfldhnmbjgdnaaEngC
import Derived.Test.YtlfldhnmbjgdnaaRows
import Derived.KernelRfl
namespace Go.Proofs.Ytlfldhnmbjgdnaa
open Go Go.Eng
set_option maxRecDepth 100000
def tys : TT := [
  (3, ⟨.int .i64, 1, 8, [.int .i64 0]⟩),
  (4, ⟨.bool, 1, 1, [.bool false]⟩),
  (5, ⟨.int .u8, 1, 1, [.int .u8 0]⟩),
  (9, ⟨.str, 1, 16, [.string .empty]⟩),
  (22, ⟨.slice 31, 1, 24, [.slice none 0 0]⟩),
  (23, ⟨.slice 3, 1, 24, [.slice none 0 0]⟩),
  (25, ⟨.ptr 43, 1, 8, [.pointer none]⟩),
  (27, ⟨.int .i64, 1, 8, [.int .i64 0]⟩),
  (31, ⟨.struct [(3, 0), (3, 1), (3, 2), (3, 3)], 4, 32, [.int .i64 0, .int .i64 0, .int .i64 0, .int .i64 0]⟩),
  (35, ⟨.map 36 31, 1, 8, [.map none]⟩),
  (36, ⟨.arr 2 3, 2, 16, [.int .i64 0, .int .i64 0]⟩),
  (41, ⟨.map 45 31, 1, 8, [.map none]⟩),
  (43, ⟨.struct [(41, 0)], 1, 8, [.map none]⟩),
  (45, ⟨.struct [(3, 0), (3, 1)], 2, 16, [.int .i64 0, .int .i64 0]⟩),
  (46, ⟨.map 3 4, 1, 8, [.map none]⟩),
  (50, ⟨.func, 1, 8, [.nilFunc]⟩),
  (54, ⟨.func, 1, 8, [.nilFunc]⟩),
  (61, ⟨.int .u64, 1, 8, [.int .u64 0]⟩),
  (63, ⟨.int .i64, 1, 8, [.int .i64 0]⟩),
  (71, ⟨.int .u32, 1, 4, [.int .u32 0]⟩),
  (73, ⟨.int .u64, 1, 8, [.int .u64 0]⟩),
  (74, ⟨.int .u64, 1, 8, [.int .u64 0]⟩),
  (78, ⟨.ptr 3, 1, 8, [.pointer none]⟩)]
theorem tys_ok : TOk Try.prog tys := ⟨
  ⟨⟨Try.t3, by kernel_rfl, by kernel_rfl, by kernel_rfl, _, rfl, by kernel_rfl⟩, ⟨Try.t3, by kernel_rfl, by kernel_rfl⟩, ⟨_, Try.underlying3, rfl⟩⟩,
  ⟨⟨Try.t4, by kernel_rfl, by kernel_rfl, by kernel_rfl, _, rfl, by kernel_rfl⟩, ⟨Try.t4, by kernel_rfl, by kernel_rfl⟩, ⟨_, Try.underlying4, rfl⟩⟩,
  ⟨⟨Try.t5, by kernel_rfl, by kernel_rfl, by kernel_rfl, _, rfl, by kernel_rfl⟩, ⟨Try.t5, by kernel_rfl, by kernel_rfl⟩, ⟨_, Try.underlying5, rfl⟩⟩,
  ⟨⟨Try.t9, by kernel_rfl, by kernel_rfl, by kernel_rfl, _, rfl, by kernel_rfl⟩, ⟨Try.t9, by kernel_rfl, by kernel_rfl⟩, ⟨_, Try.underlying9, rfl⟩⟩,
  ⟨⟨Try.t22, by kernel_rfl, by kernel_rfl, by kernel_rfl, _, rfl, by kernel_rfl⟩, ⟨Try.t22, by kernel_rfl, by kernel_rfl⟩, ⟨_, Try.underlying22, rfl⟩⟩,
  ⟨⟨Try.t23, by kernel_rfl, by kernel_rfl, by kernel_rfl, _, rfl, by kernel_rfl⟩, ⟨Try.t23, by kernel_rfl, by kernel_rfl⟩, ⟨_, Try.underlying23, rfl⟩⟩,
  ⟨⟨Try.t25, by kernel_rfl, by kernel_rfl, by kernel_rfl, _, rfl, by kernel_rfl⟩, ⟨Try.t25, by kernel_rfl, by kernel_rfl⟩, ⟨_, Try.underlying25, rfl⟩⟩,
  ⟨⟨Try.t27, by kernel_rfl, by kernel_rfl, by kernel_rfl, _, rfl, by kernel_rfl⟩, ⟨Try.t27, by kernel_rfl, by kernel_rfl⟩, ⟨_, Try.underlying27, rfl⟩⟩,
  ⟨⟨Try.t31, by kernel_rfl, by kernel_rfl, by kernel_rfl, _, rfl, by kernel_rfl⟩, ⟨Try.t31, by kernel_rfl, by kernel_rfl⟩, ⟨_, Try.underlying31, ⟨_, rfl, by kernel_rfl⟩⟩⟩,
  ⟨⟨Try.t35, by kernel_rfl, by kernel_rfl, by kernel_rfl, _, rfl, by kernel_rfl⟩, ⟨Try.t35, by kernel_rfl, by kernel_rfl⟩, ⟨_, Try.underlying35, rfl⟩⟩,
  ⟨⟨Try.t36, by kernel_rfl, by kernel_rfl, by kernel_rfl, _, rfl, by kernel_rfl⟩, ⟨Try.t36, by kernel_rfl, by kernel_rfl⟩, ⟨_, Try.underlying36, rfl⟩⟩,
  ⟨⟨Try.t41, by kernel_rfl, by kernel_rfl, by kernel_rfl, _, rfl, by kernel_rfl⟩, ⟨Try.t41, by kernel_rfl, by kernel_rfl⟩, ⟨_, Try.underlying41, rfl⟩⟩,
  ⟨⟨Try.t43, by kernel_rfl, by kernel_rfl, by kernel_rfl, _, rfl, by kernel_rfl⟩, ⟨Try.t43, by kernel_rfl, by kernel_rfl⟩, ⟨_, Try.underlying43, ⟨_, rfl, by kernel_rfl⟩⟩⟩,
  ⟨⟨Try.t45, by kernel_rfl, by kernel_rfl, by kernel_rfl, _, rfl, by kernel_rfl⟩, ⟨Try.t45, by kernel_rfl, by kernel_rfl⟩, ⟨_, Try.underlying45, ⟨_, rfl, by kernel_rfl⟩⟩⟩,
  ⟨⟨Try.t46, by kernel_rfl, by kernel_rfl, by kernel_rfl, _, rfl, by kernel_rfl⟩, ⟨Try.t46, by kernel_rfl, by kernel_rfl⟩, ⟨_, Try.underlying46, rfl⟩⟩,
  ⟨⟨Try.t50, by kernel_rfl, by kernel_rfl, by kernel_rfl, _, rfl, by kernel_rfl⟩, ⟨Try.t50, by kernel_rfl, by kernel_rfl⟩, ⟨_, Try.underlying50, ⟨_, _, _, rfl⟩⟩⟩,
  ⟨⟨Try.t54, by kernel_rfl, by kernel_rfl, by kernel_rfl, _, rfl, by kernel_rfl⟩, ⟨Try.t54, by kernel_rfl, by kernel_rfl⟩, ⟨_, Try.underlying54, ⟨_, _, _, rfl⟩⟩⟩,
  ⟨⟨Try.t61, by kernel_rfl, by kernel_rfl, by kernel_rfl, _, rfl, by kernel_rfl⟩, ⟨Try.t61, by kernel_rfl, by kernel_rfl⟩, ⟨_, Try.underlying61, rfl⟩⟩,
  ⟨⟨Try.t63, by kernel_rfl, by kernel_rfl, by kernel_rfl, _, rfl, by kernel_rfl⟩, ⟨Try.t63, by kernel_rfl, by kernel_rfl⟩, ⟨_, Try.underlying63, rfl⟩⟩,
  ⟨⟨Try.t71, by kernel_rfl, by kernel_rfl, by kernel_rfl, _, rfl, by kernel_rfl⟩, ⟨Try.t71, by kernel_rfl, by kernel_rfl⟩, ⟨_, Try.underlying71, rfl⟩⟩,
  ⟨⟨Try.t73, by kernel_rfl, by kernel_rfl, by kernel_rfl, _, rfl, by kernel_rfl⟩, ⟨Try.t73, by kernel_rfl, by kernel_rfl⟩, ⟨_, Try.underlying73, rfl⟩⟩,
  ⟨⟨Try.t74, by kernel_rfl, by kernel_rfl, by kernel_rfl, _, rfl, by kernel_rfl⟩, ⟨Try.t74, by kernel_rfl, by kernel_rfl⟩, ⟨_, Try.underlying74, rfl⟩⟩,
  ⟨⟨Try.t78, by kernel_rfl, by kernel_rfl, by kernel_rfl, _, rfl, by kernel_rfl⟩, ⟨Try.t78, by kernel_rfl, by kernel_rfl⟩, ⟨_, Try.underlying78, rfl⟩⟩, trivial⟩
theorem mix : Try.prog.follows .mixedOrders = true := by kernel_rfl
noncomputable abbrev cx := cxF Try.prog tys tys_ok mix
end Go.Proofs.Ytlfldhnmbjgdnaa
namespace Go.Proofs.Ytlfldhnmbjgdnaa
open Go Go.Eng
set_option maxRecDepth 100000

theorem right1 (n hi : Int) (R : Hp) : Tr Try.prog 19 [.int .i64 n, .int .i64 hi] R [] fun v L' => v = .bool (decide (1 ≤ n) && decide (n ≤ hi)) ∧ L' = [] := by
  refine Tr.intro tys_ok mix Try.func19 rfl rfl rfl ?_
  refine X_g (f := 1000) rfl ⟨_, rfl, rfl⟩ (fun h => ?_) (fun h => ?_)
  · refine X_ret (f := 1000) rfl rfl Try.func19 rfl fun h' hs => ?_
    exact ⟨[], ⟨by simp only [tupV, SV.den] ; simp [h], rfl⟩, hs⟩
  · refine X_ret (f := 1000) rfl rfl Try.func19 rfl fun h' hs => ?_
    exact ⟨[], ⟨by simp only [tupV, SV.den] ; simp [h], rfl⟩, hs⟩
end Go.Proofs.Ytlfldhnmbjgdnaa
namespace Go.Proofs.Ytlfldhnmbjgdnaa
open Go Go.Eng
set_option maxRecDepth 100000

def entV (d l v o : Int) : Value := .agg #[.int .i64 d, .int .i64 l, .int .i64 v, .int .i64 o]
def rightB (d l v o : Int) : Bool := (((decide (1 ≤ d) && decide (d ≤ 4096)) && (decide (1 ≤ l) && decide (l ≤ 20000))) && (decide (1 ≤ v) && decide (v ≤ 1073741824))) && (decide (1 ≤ o) && decide (o ≤ 3))

theorem right_tr (d l v o : Int) (R : Hp) : Tr Try.prog 12 [entV d l v o] R [] fun x L' => x = .bool (rightB d l v o) ∧ L' = [] := by
  refine Tr.intro tys_ok mix Try.func12 rfl rfl rfl ?_
  refine X_box (f := 1000) rfl rfl rfl fun b => ?_
  refine X_load (f := 1000) (i := 0) rfl rfl rfl rfl ?_
  refine X_call (f := 1000) (C := fun _ => True) [] rfl rfl rfl rfl (fun r _ => right1 _ _ r) (fun _ _ => trivial) ?_
  rintro x L' ⟨rfl, rfl⟩
  refine X_g (f := 1000) rfl ⟨_, rfl, rfl⟩ (fun h1 => ?_) (fun h1 => ?_)
  · refine X_load (f := 1000) (i := 0) rfl rfl rfl rfl ?_
    refine X_call (f := 1000) (C := fun _ => True) [] rfl rfl rfl rfl (fun r _ => right1 _ _ r) (fun _ _ => trivial) ?_
    rintro x L' ⟨rfl, rfl⟩
    refine X_g (f := 1000) rfl ⟨_, rfl, rfl⟩ (fun h2 => ?_) (fun h2 => ?_)
    · refine X_load (f := 1000) (i := 0) rfl rfl rfl rfl ?_
      refine X_call (f := 1000) (C := fun _ => True) [] rfl rfl rfl rfl (fun r _ => right1 _ _ r) (fun _ _ => trivial) ?_
      rintro x L' ⟨rfl, rfl⟩
      refine X_g (f := 1000) rfl ⟨_, rfl, rfl⟩ (fun h3 => ?_) (fun h3 => ?_)
      · refine X_load (f := 1000) (i := 0) rfl rfl rfl rfl ?_
        refine X_call (f := 1000) (C := fun _ => True) [] rfl rfl rfl rfl (fun r _ => right1 _ _ r) (fun _ _ => trivial) ?_
        rintro x L' ⟨rfl, rfl⟩
        refine X_ret (f := 1000) rfl rfl Try.func12 rfl fun h' hs => ⟨[], ⟨?_, rfl⟩, hs.pick0 []⟩
        simp [tupV, SV.den, rightB, h1, h2, h3]
      · refine X_ret (f := 1000) rfl rfl Try.func12 rfl fun h' hs => ⟨[], ⟨?_, rfl⟩, hs.pick0 []⟩
        simp [tupV, SV.den, rightB, h1, h2, h3]
    · refine X_ret (f := 1000) rfl rfl Try.func12 rfl fun h' hs => ⟨[], ⟨?_, rfl⟩, hs.pick0 []⟩
      simp [tupV, SV.den, rightB, h1, h2]
  · refine X_ret (f := 1000) rfl rfl Try.func12 rfl fun h' hs => ⟨[], ⟨?_, rfl⟩, hs.pick0 []⟩
    simp [tupV, SV.den, rightB, h1]
end Go.Proofs.Ytlfldhnmbjgdnaa
namespace Go.Proofs.Ytlfldhnmbjgdnaa
open Go Go.Eng
set_option maxRecDepth 100000

structure Ent where
  d : Int
  l : Int
  v : Int
  o : Int
def Ent.val (e : Ent) : Value := entV e.d e.l e.v e.o
def Ent.right (e : Ent) : Bool := rightB e.d e.l e.v e.o
def entM (E : List Ent) : List ((Int × Int) × Value) := E.map fun e => ((e.d, e.l), e.val)
def ledH (p mb : Nat) (E : List Ent) : List HA := [.pt p (.cells #[.map (some mb)] 43 (0, 0)), mapH pairV mb (entM E)]
def hasB (E : List Ent) (e : Ent) : Bool := (aget (e.d, e.l) (entM E)).isSome
def recV (E : List Ent) (e : Ent) : Value :=
  if e.right then (if hasB E e then .tuple #[.bool false, .int .i64 0] else if E.length ≥ 20000 then .tuple #[.bool false, .int .i64 3] else .tuple #[.bool true, .int .i64 0])
  else .tuple #[.bool false, .int .i64 1]
def recE (E : List Ent) (e : Ent) : List Ent := if e.right && !hasB E e && decide (E.length < 20000) then E ++ [e] else E

theorem K45 : KL Try.prog 45 pairV := KL.pairS (T := tys) (i := ⟨.struct [(3, 0), (3, 1)], 2, 16, [.int .i64 0, .int .i64 0]⟩) (j := ⟨.int .i64, 1, 8, [.int .i64 0]⟩) tys_ok rfl Try.underlying45 (by kernel_rfl) (by decide) (by decide) rfl rfl rfl rfl rfl rfl

theorem aget_ent {E : List Ent} {k v} (h : aget k (entM E) = some v) : ∃ e : Ent, v = e.val := by
  induction E with
  | nil => cases h
  | cons e r ih =>
    simp only [entM, List.map_cons, aget] at h
    split at h
    · cases h; exact ⟨e, rfl⟩
    · exact ih h

theorem aget_new {κ : Type} [DecidableEq κ] {k : κ} {l : List (κ × Value)} (h : aget k l = none) : ∀ x ∈ l.map (·.1), x ≠ k := by
  induction l with
  | nil => simp
  | cons a r ih =>
    obtain ⟨a, v⟩ := a
    simp only [aget] at h
    split at h
    · cases h
    · rename_i hne
      intro x hx hh
      rcases List.mem_cons.1 hx with h1 | h1
      · exact hne (by rw [← hh, h1])
      · exact ih h x h1 hh

theorem recE_set {E : List Ent} {e : Ent} (h1 : e.right = true) (hn : aget (e.d, e.l) (entM E) = none) (hl : E.length < 20000) : aset (e.d, e.l) e.val (entM E) = entM (recE E e) := by
  rw [aset_new (aget_new hn)]
  have : recE E e = E ++ [e] := by simp [recE, h1, hasB, hn, hl]
  rw [this]; simp [entM]

theorem record_tr (p mb : Nat) (E : List Ent) (e : Ent) (R : Hp) : Tr Try.prog 8 [.pointer (some ⟨p, 0, none⟩), e.val] R (ledH p mb E) fun x L' => x = recV E e ∧ L' = ledH p mb (recE E e) := by
  obtain ⟨ed, el, ev, eo⟩ := e
  refine Tr.intro tys_ok mix Try.func8 rfl rfl rfl ?_
  refine X_box (f := 1000) rfl rfl rfl fun b => ?_
  refine X_load (f := 1000) (i := 2) rfl rfl rfl rfl ?_
  refine X_load (f := 1000) (i := 2) rfl rfl rfl rfl ?_
  refine X_alloc (f := 1000) rfl rfl fun b2 => ?_
  refine X_store (f := 1000) (i := 3) rfl rfl rfl rfl rfl rfl ?_
  refine X_draw (f := 1000) [] [0,1,2,3,4,5,6,7,8,9,10,11] rfl rfl rfl (by decide +kernel) ?_
  refine X_load (f := 1000) (i := 0) rfl rfl rfl rfl ?_
  refine X_load (f := 1000) (i := 3) rfl rfl rfl rfl ?_
  refine X_look (f := 1000) (i := 1) K45 (ed, el) rfl rfl rfl rfl rfl rfl rfl rfl (fun v hv => ?_) (fun hn => ?_)
  · obtain ⟨e', rfl⟩ := aget_ent hv
    refine X_alloc (f := 1000) rfl rfl fun b3 => ?_
    refine X_store (f := 1000) (i := 4) rfl rfl rfl rfl rfl rfl ?_
    refine X_load (f := 1000) (i := 2) rfl rfl rfl rfl ?_
    refine X_call (f := 1000) (C := fun _ => True) [] rfl rfl rfl rfl (fun r _ => right_tr _ _ _ _ r) (fun _ _ => trivial) ?_
    rintro x L' ⟨rfl, rfl⟩
    refine X_if (f := 1000) rfl ⟨_, rfl, rfl⟩ (fun h1 => ?_) (fun h1 => ?_)
    · refine X_ret (f := 1000) rfl rfl Try.func8 rfl fun h' hs => ⟨_, ⟨?_, ?_⟩, hs.pick0 [0, 1]⟩
      · simp at h1; simp [recV, Ent.right, h1, tupV, SV.den]
      · simp at h1; simp [recE, Ent.right, h1]; rfl
    · refine X_ifT (f := 1000) rfl ⟨_, rfl, rfl⟩ rfl ?_
      refine X_ret (f := 1000) rfl rfl Try.func8 rfl fun h' hs => ⟨_, ⟨?_, ?_⟩, hs.pick0 [0, 1]⟩
      · simp at h1; simp [recV, Ent.right, h1, tupV, SV.den, hasB, hv]
      · simp at h1; simp [recE, Ent.right, h1, hasB, hv]; rfl
  · refine X_alloc (f := 1000) rfl rfl fun b3 => ?_
    refine X_store (f := 1000) (i := 4) rfl rfl rfl rfl rfl rfl ?_
    refine X_load (f := 1000) (i := 2) rfl rfl rfl rfl ?_
    refine X_call (f := 1000) (C := fun _ => True) [] rfl rfl rfl rfl (fun r _ => right_tr _ _ _ _ r) (fun _ _ => trivial) ?_
    rintro x L' ⟨rfl, rfl⟩
    refine X_if (f := 1000) rfl ⟨_, rfl, rfl⟩ (fun h1 => ?_) (fun h1 => ?_)
    · refine X_ret (f := 1000) rfl rfl Try.func8 rfl fun h' hs => ⟨_, ⟨?_, ?_⟩, hs.pick0 [0, 1]⟩
      · simp at h1; simp [recV, Ent.right, h1, tupV, SV.den]
      · simp at h1; simp [recE, Ent.right, h1]; rfl
    · refine X_ifF (f := 1000) rfl ⟨_, rfl, rfl⟩ rfl ?_
      refine X_load (f := 1000) (i := 0) rfl rfl rfl rfl ?_
      refine X_maplen (f := 1000) (i := 1) rfl rfl rfl rfl rfl ?_
      have hlen : (entM E).length = E.length := by simp [entM]
      refine X_if (f := 1000) rfl ⟨_, rfl, rfl⟩ (fun h2 => ?_) (fun h2 => ?_)
      · refine X_ret (f := 1000) rfl rfl Try.func8 rfl fun h' hs => ⟨_, ⟨?_, ?_⟩, hs.pick0 [0, 1]⟩
        · simp [hlen] at h1 h2; simp [recV, Ent.right, h1, tupV, SV.den, hasB, hn]; omega
        · simp [hlen] at h1 h2; simp [recE, Ent.right, h1, hasB, hn]; rw [if_neg (by omega)]; rfl
      · refine X_draw (f := 1000) [] [0,1,2,3,4,5,6] rfl rfl rfl (by decide +kernel) ?_
        refine X_load (f := 1000) (i := 0) rfl rfl rfl rfl ?_
        refine X_load (f := 1000) (i := 3) rfl rfl rfl rfl ?_
        refine X_load (f := 1000) (i := 2) rfl rfl rfl rfl ?_
        refine X_mapset (f := 1000) (i := 1) K45 (ed, el) rfl rfl rfl rfl rfl rfl rfl rfl ?_
        refine X_ret (f := 1000) rfl rfl Try.func8 rfl fun h' hs => ⟨_, ⟨?_, ?_⟩, hs.pick0 [0, 1]⟩
        · simp [hlen] at h1 h2; simp [recV, Ent.right, h1, tupV, SV.den, hasB, hn]; omega
        · simp [hlen] at h1 h2
          have := recE_set (E := E) (e := ⟨ed, el, ev, eo⟩) h1 hn (by omega)
          simp only [ledH, ← this]; rfl
end Go.Proofs.Ytlfldhnmbjgdnaa
namespace Go.Proofs.Ytlfldhnmbjgdnaa
open Go Go.Eng
set_option maxRecDepth 100000

def intV (a : Int) : Value := .int .i64 a
theorem K3 : KL Try.prog 3 intV := KL.int Try.underlying3

/-- a slice that reads as numbers, in what stays -/
structure IntsAt (R : Hp) (a : Option Addr) (n : Nat) (xs : List Int) : Prop where
  len : xs.length = n
  rd : RdAt R a (xs.map intV)
  small : n ≤ 9223372036854775807

structure CountOk (E : List Ent) (xs : List Int) (g b : Int) : Prop where
  good : ∃ ws : List Int, ws.Nodup ∧ (∀ x, x ∈ ws ↔ x ∈ xs ∧ ∃ e ∈ E, e.d = x ∧ e.o = 1) ∧ g = ws.length
  bad : b = ((E.filter fun e => decide (e.d ∈ xs) && decide (e.o ≠ 1)).length : Int)

def wellOf (xs : List Int) (dn : List Ent) : List Int := (dn.filter fun e => decide (e.d ∈ xs) && decide (e.o = 1)).map (·.d)
def badOf (xs : List Int) (dn : List Ent) : Nat := (dn.filter fun e => decide (e.d ∈ xs) && decide (e.o ≠ 1)).length

theorem entM_split {td : List Ent} {A B p} (h : entM td = A ++ p :: B) : ∃ A' e B', td = A' ++ e :: B' ∧ A = entM A' ∧ p = ((e.d, e.l), e.val) ∧ B = entM B' := by
  unfold entM at h
  obtain ⟨A', r, h1, h2, h3⟩ := List.map_eq_append_iff.1 h
  obtain ⟨e, B', h4, h5, h6⟩ := List.map_eq_cons_iff.1 h3
  exact ⟨A', e, B', by rw [h1, h4], h2.symm, h5.symm, h6.symm⟩

theorem count_done {E dn : List Ent} {xs : List Int} (hp : dn.Perm E) : CountOk E xs (setM (wellOf xs dn)).length (badOf xs dn) := by
  obtain ⟨h1, h2, h3⟩ := setM_ok (wellOf xs dn)
  refine ⟨⟨(setM (wellOf xs dn)).map (·.1), h1, fun x => ?_, by simp⟩, ?_⟩
  · rw [h2]
    simp only [wellOf, List.mem_map, List.mem_filter, Bool.and_eq_true, decide_eq_true_eq]
    constructor
    · rintro ⟨e, ⟨he, h4, h5⟩, rfl⟩; exact ⟨h4, e, hp.mem_iff.1 he, rfl, h5⟩
    · rintro ⟨h4, e, he, rfl, h5⟩; exact ⟨e, ⟨hp.mem_iff.2 he, h4, h5⟩, rfl⟩
  · simp only [badOf]; rw [(hp.filter _).length_eq]

theorem counts_tr (p mb : Nat) (E : List Ent) (a : Option Addr) (n cap : Nat) (xs : List Int) (R : Hp) (hx : IntsAt R a n xs) (hE : E.length < 1000000) :
    Tr Try.prog 9 [.pointer (some ⟨p, 0, none⟩), .slice a n cap] R (ledH p mb E) fun x L' => (∃ g b, x = .tuple #[.int .i64 g, .int .i64 b] ∧ CountOk E xs g b) ∧ L' = ledH p mb E := by
  refine Tr.intro tys_ok mix Try.func9 rfl rfl rfl ?_
  refine X_mkmap (f := 1000) rfl fun b1 => ?_
  refine X_mkmap (f := 1000) rfl fun b2 => ?_
  refine X_asmap intV (i := 2) rfl ?_
  refine X_asmap intV (i := 3) rfl ?_
  refine X_loop (f := 1000) [17] [0, 6, 7, 15, 16] [0, 1, 2, 3] (fun m vs L => ∃ i : Nat, i ≤ n ∧ m = n - i ∧ vs = [.int .i64 i] ∧ L = ledH p mb E ++ [mapH intV b1 (setM (xs.take i)), mapH intV b2 []])
    rfl rfl rfl ⟨0, by omega, rfl, rfl, rfl⟩ ?_
  rintro m vs L ⟨i, hi, rfl, rfl, rfl⟩ ih
  refine X_if (f := 1000) rfl ⟨_, rfl, rfl⟩ (fun h1 => ?_) (fun h1 => ?_)
  · have hlt : i < n := by simpa using h1
    have hxs : i < xs.length := by rw [hx.len]; exact hlt
    rcases hx.rd with h0 | ⟨b, o, rfl, hc⟩
    · have := congrArg List.length h0; simp [hx.len] at this; omega
    have hcell : R.cell ⟨b, o + i, none⟩ = some (intV xs[i]) := hc i _ (by simp [hxs])
    refine X_idx (f := 1000) i rfl rfl rfl rfl hlt rfl rfl rfl rfl ?_
    refine X_loadR (f := 1000) rfl rfl (fun h hs => ldv_one rfl rfl rfl (Hp.cell_mono hs (by simpa using hcell))) ?_
    refine X_mapset (f := 1000) (i := 2) K3 xs[i] rfl rfl rfl rfl rfl rfl rfl rfl ?_
    refine X_ar (f := 1000) rfl rfl rfl (ar_add (by have := hx.small; omega)) ?_
    refine X_again (f := 1000) [17] [0, 6, 7, 15, 16] [0, 1, 2, 3] rfl rfl rfl ?_
    refine ih (n - (i + 1)) _ _ (by omega) ⟨i + 1, by omega, rfl, by simp [SV.den], ?_⟩
    rw [List.take_succ_eq_append_getElem hxs, setM_snoc]; rfl
  · have hin : i = n := by have : ¬ (i < n) := by simpa using h1
                           omega
    subst hin
    have htake : xs.take i = xs := List.take_of_length_le (by rw [hx.len]; omega)
    refine X_load (f := 1000) (i := 0) rfl rfl rfl rfl ?_
    refine X_range (f := 1000) (i := 1) (enc := pairV) rfl rfl rfl rfl rfl fun r => ?_
    refine X_loop (f := 1000) [10] [6, 7, 28] [0, 1, 2, 3] (fun m vs L => ∃ (dn td : List Ent) (last : _), (dn ++ td).Perm E ∧ m = td.length ∧ vs = [.int .i64 (badOf xs dn)] ∧
        L = [.pt p (.cells #[.map (some mb)] 43 (0, 0)), rangeH pairV mb r (entM E) (entM td) last, mapH intV b1 (setM xs), mapH intV b2 (setM (wellOf xs dn))])
      rfl rfl rfl ⟨[], E, none, by simp, rfl, rfl, by rw [htake]; rfl⟩ ?_
    rintro m vs L ⟨dn, td, last, hperm, rfl, rfl, rfl⟩ ih2
    refine X_next (f := 1000) (i := 1) rfl rfl rfl (fun A q B hq => ?_) (fun hq => ?_)
    · obtain ⟨A', e, B', rfl, rfl, rfl, rfl⟩ := entM_split hq
      have hAB : entM A' ++ entM B' = entM (A' ++ B') := by simp [entM]
      rw [hAB]
      have hp2 : (dn ++ [e] ++ (A' ++ B')).Perm E := by
        refine List.Perm.trans ?_ hperm
        rw [List.append_assoc]
        refine List.Perm.append_left dn ?_
        show (e :: (A' ++ B')).Perm _
        exact List.perm_middle.symm
      have hlb : badOf xs dn ≤ E.length := by
        have h5 := hperm.length_eq
        have h6 : badOf xs dn ≤ dn.length := List.length_filter_le _ _
        rw [List.length_append] at h5; omega
      refine X_ifT (f := 1000) rfl ⟨_, rfl, rfl⟩ rfl ?_
      refine X_entry (f := 1000) (i := 1) rfl rfl rfl ?_
      refine X_alloc (f := 1000) rfl rfl fun b3 => ?_
      refine X_store (f := 1000) (i := 4) rfl rfl rfl rfl rfl rfl ?_
      refine X_load (f := 1000) (i := 4) rfl rfl rfl rfl ?_
      have hgo : ∀ (W : List Int) (z : Int), W = wellOf xs (dn ++ [e]) → z = badOf xs (dn ++ [e]) → ∀ l2 : Option ((Int × Int) × Value), _ := fun W z hW hz l2 =>
        ih2 (A' ++ B').length [.int .i64 z] [.pt p (.cells #[.map (some mb)] 43 (0, 0)), rangeH pairV mb r (entM E) (entM (A' ++ B')) l2, mapH intV b1 (setM xs), mapH intV b2 (setM W)]
          (by simp) ⟨dn ++ [e], A' ++ B', l2, hp2, rfl, by rw [hz], by rw [hW]⟩
      refine X_look (f := 1000) (i := 2) K3 e.d rfl rfl rfl rfl rfl rfl rfl rfl (fun v hv => ?_) (fun hn => ?_)
      · rw [setM_get] at hv
        split at hv
        · rename_i hmem
          cases hv
          refine X_ifF (f := 1000) rfl ⟨_, rfl, rfl⟩ rfl ?_
          refine X_load (f := 1000) (i := 4) rfl rfl rfl rfl ?_
          refine X_if (f := 1000) rfl ⟨_, rfl, rfl⟩ (fun h3 => ?_) (fun h3 => ?_)
          · have h3 : e.o = 1 := by simpa using h3
            refine X_load (f := 1000) (i := 4) rfl rfl rfl rfl ?_
            refine X_mapset (f := 1000) (i := 3) K3 e.d rfl rfl rfl rfl rfl rfl rfl rfl ?_
            refine X_again (f := 1000) [10] [6, 7, 28] [0, 1, 2, 3] rfl rfl rfl ?_
            refine hgo (wellOf xs dn ++ [e.d]) (badOf xs dn) ?_ ?_ _ |> (fun h => by rw [setM_snoc] at h; exact h)
            · simp [wellOf, hmem, h3]
            · simp [badOf, h3]
          · have h3 : e.o ≠ 1 := by simpa using h3
            refine X_ar (f := 1000) rfl rfl rfl (ar_add (by omega)) ?_
            refine X_again (f := 1000) [10] [6, 7, 28] [0, 1, 2, 3] rfl rfl rfl ?_
            refine hgo (wellOf xs dn) (badOf xs dn + 1) ?_ ?_ _
            · simp [wellOf, h3]
            · simp [badOf, hmem, h3]
        · cases hv
      · rw [setM_get] at hn
        have hmem : e.d ∉ xs := by intro hh; rw [if_pos hh] at hn; cases hn
        refine X_ifT (f := 1000) rfl ⟨_, rfl, rfl⟩ rfl ?_
        refine X_again (f := 1000) [10] [6, 7, 28] [0, 1, 2, 3] rfl rfl rfl ?_
        refine hgo (wellOf xs dn) (badOf xs dn) ?_ ?_ _
        · simp [wellOf, hmem]
        · simp [badOf, hmem]
    · have htd : td = [] := by simpa [entM] using hq
      subst htd
      rw [List.append_nil] at hperm
      refine X_ifF (f := 1000) rfl ⟨_, rfl, rfl⟩ rfl ?_
      refine X_maplen (f := 1000) (i := 3) rfl rfl rfl rfl rfl ?_
      refine X_unrange (i := 1) rfl ?_
      refine X_ret (f := 1000) rfl rfl Try.func9 rfl fun h' hs => ⟨_, ⟨⟨_, _, rfl, count_done hperm⟩, rfl⟩, hs.pick0 [0, 1]⟩
end Go.Proofs.Ytlfldhnmbjgdnaa
namespace Go.Proofs.Ytlfldhnmbjgdnaa
open Go Go.Eng
set_option maxRecDepth 100000

theorem new_tr (R : Hp) : Tr Try.prog 7 [] R [] fun x L' => ∃ p mb, x = .pointer (some ⟨p, 0, none⟩) ∧ L' = ledH p mb [] := by
  refine Tr.intro tys_ok mix Try.func7 rfl rfl rfl ?_
  refine X_mkmap (f := 1000) rfl fun mb => ?_
  refine X_box (f := 1000) rfl rfl rfl fun p => ?_
  refine X_asmap pairV (i := 0) rfl ?_
  exact X_ret (f := 1000) rfl rfl Try.func7 rfl fun h' hs => ⟨_, ⟨p, mb, rfl, rfl⟩, hs.pick0 [1, 0]⟩

theorem len_le_of_sub {α : Type} [DecidableEq α] : ∀ {xs ys : List α}, xs.Nodup → (∀ x ∈ xs, x ∈ ys) → xs.length ≤ ys.length := by
  intro xs
  induction xs with
  | nil => intro ys _ _; simp
  | cons x r ih =>
    intro ys hx h
    obtain ⟨h1, h2⟩ := List.nodup_cons.1 hx
    have hm : x ∈ ys := h x (by simp)
    have := ih (ys := ys.erase x) h2 (fun z hz => (List.mem_erase_of_ne (by rintro rfl; exact h1 hz)).2 (h z (by simp [hz])))
    rw [List.length_erase_of_mem hm] at this
    have : 0 < ys.length := List.length_pos_of_mem hm
    simp; omega

theorem CountOk.bnd {E : List Ent} {xs : List Int} {g b : Int} (h : CountOk E xs g b) : 0 ≤ g ∧ g ≤ E.length ∧ 0 ≤ b ∧ b ≤ E.length := by
  obtain ⟨ws, h1, h2, h3⟩ := h.good
  have : ws.length ≤ (E.map (·.d)).length := len_le_of_sub h1 fun x hx => by
    obtain ⟨_, e, he, rfl, _⟩ := (h2 x).1 hx; exact List.mem_map.2 ⟨e, he, rfl⟩
  rw [List.length_map] at this
  have hb := h.bad
  have : (E.filter fun e => decide (e.d ∈ xs) && decide (e.o ≠ 1)).length ≤ E.length := List.length_filter_le _ _
  omega

theorem CountOk.nil (xs : List Int) : CountOk [] xs 0 0 := ⟨⟨[], by simp, by simp, rfl⟩, rfl⟩

theorem CountOk.uniq {E : List Ent} {xs : List Int} {g b g' b' : Int} (h : CountOk E xs g b) (h' : CountOk E xs g' b') : g = g' ∧ b = b' := by
  obtain ⟨ws, h1, h2, h3⟩ := h.good
  obtain ⟨ws', h1', h2', h3'⟩ := h'.good
  have := len_of_same h1 h1' (fun x => (h2 x).trans (h2' x).symm)
  exact ⟨by omega, h.bad.trans h'.bad.symm⟩

theorem CountOk.step {E : List Ent} {xs : List Int} {g b n k : Int} {e : Ent} (h : CountOk E xs g b) (h' : CountOk (E ++ [e]) xs n k) : g ≤ n ∧ b ≤ k ∧ n + k ≤ g + b + 1 := by
  obtain ⟨ws, h1, h2, h3⟩ := h.good
  obtain ⟨us, h4, h5, h6⟩ := h'.good
  have hb := h.bad
  have hk := h'.bad
  rw [List.filter_append, List.length_append] at hk
  have hle : ws.length ≤ us.length := len_le_of_sub h1 fun x hx => by
    obtain ⟨hx1, e', he', h7, h8⟩ := (h2 x).1 hx
    exact (h5 x).2 ⟨hx1, e', by simp [he'], h7, h8⟩
  by_cases ho : e.o = 1
  · have hf : ([e].filter fun e => decide (e.d ∈ xs) && decide (e.o ≠ 1)).length = 0 := by simp [ho]
    have hus : us.length ≤ (e.d :: ws).length := len_le_of_sub h4 fun x hx => by
      obtain ⟨hx1, e', he', h7, h8⟩ := (h5 x).1 hx
      rcases List.mem_append.1 he' with he' | he'
      · exact List.mem_cons_of_mem _ ((h2 x).2 ⟨hx1, e', he', h7, h8⟩)
      · simp at he'; subst he'; rw [← h7]; simp
    simp only [List.length_cons] at hus
    rw [hf] at hk
    omega
  · have hus : us.length ≤ ws.length := len_le_of_sub h4 fun x hx => by
      obtain ⟨hx1, e', he', h7, h8⟩ := (h5 x).1 hx
      rcases List.mem_append.1 he' with he' | he'
      · exact (h2 x).2 ⟨hx1, e', he', h7, h8⟩
      · simp at he'; subst he'; exact absurd h8 ho
    have hf : ([e].filter fun e => decide (e.d ∈ xs) && decide (e.o ≠ 1)).length ≤ 1 := List.length_filter_le _ _
    omega

theorem rec_step {E : List Ent} {xs : List Int} {g b n k : Int} {e : Ent} (h : CountOk E xs g b) (h' : CountOk (recE E e) xs n k) : g ≤ n ∧ b ≤ k ∧ n + k ≤ g + b + 1 := by
  unfold recE at h'
  split at h'
  · exact h.step h'
  · have := h.uniq h'; omega

theorem awake_tr (R : Hp) : Tr Try.prog 6 [] R [] fun x L' => x = .bool true ∧ L' = [] := by
  refine Tr.intro tys_ok mix Try.func6 rfl rfl rfl ?_
  refine X_call (f := 1000) (C := fun _ => True) [] rfl rfl rfl rfl (fun r _ => new_tr r) (fun _ _ => trivial) ?_
  rintro x L' ⟨p, mb, rfl, rfl⟩
  refine X_call (f := 1000) (C := fun _ => True) [0, 1] rfl rfl rfl rfl (fun r _ => record_tr p mb [] ⟨7, 1, 2, 1⟩ r) (fun _ _ => trivial) ?_
  rintro x L' ⟨hx, rfl⟩
  have hx : x = .tuple #[.bool true, .int .i64 0] := hx
  subst hx
  refine X_call (f := 1000) (C := fun _ => True) [0, 1] rfl rfl rfl rfl (fun r _ => record_tr p mb (recE [] ⟨7, 1, 2, 1⟩) ⟨7, 1, 2, 2⟩ r) (fun _ _ => trivial) ?_
  rintro x L' ⟨hx, rfl⟩
  have hx : x = .tuple #[.bool false, .int .i64 0] := hx
  subst hx
  refine X_mkslice (f := 1000) rfl rfl rfl rfl rfl rfl rfl fun b => ?_
  refine X_call (f := 1000) (C := fun r => IntsAt r (some ⟨b, 0, none⟩) 2 [7, 8]) [0, 1] rfl rfl rfl rfl (fun r hr => counts_tr p mb (recE (recE [] ⟨7, 1, 2, 1⟩) ⟨7, 1, 2, 2⟩) _ _ _ _ r hr (by decide)) (fun r hr => ?_) ?_
  · exact ⟨rfl, RdAt.of_block (hr.get (i := 2) rfl) ⟨[], rfl⟩, by omega⟩
  rintro x L' ⟨⟨g, k, rfl, hc⟩, rfl⟩
  have hg : g = 1 ∧ k = 0 := by
    have h1 : CountOk (recE (recE [] ⟨7, 1, 2, 1⟩) ⟨7, 1, 2, 2⟩) [7, 8] 1 0 := by
      have : recE (recE [] ⟨7, 1, 2, 1⟩) ⟨7, 1, 2, 2⟩ = [⟨7, 1, 2, 1⟩] := rfl
      rw [this]
      refine ⟨⟨[7], by simp, fun x => ?_, rfl⟩, by decide⟩
      simp; constructor
      · rintro rfl; simp
      · rintro ⟨_, rfl⟩; rfl
    exact hc.uniq h1
  obtain ⟨rfl, rfl⟩ := hg
  refine X_gT (f := 1000) rfl ⟨_, rfl, rfl⟩ rfl ?_
  refine X_gT (f := 1000) rfl ⟨_, rfl, rfl⟩ rfl ?_
  refine X_gT (f := 1000) rfl ⟨_, rfl, rfl⟩ rfl ?_
  refine X_gT (f := 1000) rfl ⟨_, rfl, rfl⟩ rfl ?_
  refine X_gT (f := 1000) rfl ⟨_, rfl, rfl⟩ rfl ?_
  refine X_ret (f := 1000) rfl rfl Try.func6 rfl fun h' hs => ⟨_, ⟨by simp [tupV, SV.den], rfl⟩, hs.pick0 []⟩

/-- a slice of entries, in what stays -/
def Ent.cells (e : Ent) : List Value := [.int .i64 e.d, .int .i64 e.l, .int .i64 e.v, .int .i64 e.o]
structure EntsAt (R : Hp) (a : Option Addr) (n : Nat) (es : List Ent) : Prop where
  len : es.length = n
  rd : RdAt R a (es.map Ent.cells).flatten
  small : n ≤ 9223372036854775807

theorem flat_get (es : List Ent) (i : Nat) (hi : i < es.length) (j : Nat) (v : Value) (hj : (es[i]).cells[j]? = some v) : (es.map Ent.cells).flatten[i * 4 + j]? = some v := by
  have hj4 : j < 4 := by have := (List.getElem?_eq_some_iff.1 hj).1; simpa [Ent.cells] using this
  induction es generalizing i with
  | nil => simp at hi
  | cons e r ih =>
    cases i with
    | zero => 
      simp only [List.getElem_cons_zero] at hj
      simp only [List.map_cons, List.flatten_cons, Nat.zero_mul, Nat.zero_add]
      rw [List.getElem?_append_left (by simpa [Ent.cells] using hj4)]; exact hj
    | succ i =>
      simp only [List.getElem_cons_succ] at hj
      simp only [List.map_cons, List.flatten_cons]
      rw [List.getElem?_append_right (by simp [Ent.cells]; omega)]
      have := ih i (by simpa using hi) hj
      rw [← this]; congr 1; simp [Ent.cells]; omega

theorem recE_len (E : List Ent) (e : Ent) : (recE E e).length ≤ E.length + 1 := by unfold recE; split <;> simp

theorem rises (a : Option Addr) (n cap : Nat) (es : List Ent) (a2 : Option Addr) (n2 cap2 : Nat) (xs : List Int) (w : World) (h : Hp) (hon : On w h) (he : EntsAt h a n es) (hx : IntsAt h a2 n2 xs) :
    Calls Try.prog 3 #[.slice a n cap, .slice a2 n2 cap2] w fun e w' => ∃ v h', e = .returned v ∧ (v = .bool true ∧ Sub h h') ∧ On w' h' ∧ Keep w w' := by
  refine calls_of_Y (args := [.slice a n cap, .slice a2 n2 cap2]) (Rp := fun v h' => v = .bool true ∧ Sub h h') tys_ok mix Try.func3 rfl rfl hon ?_
  refine X_call (f := 1000) (C := fun _ => True) [] rfl rfl rfl rfl (fun r _ => awake_tr r) (fun _ _ => trivial) ?_
  rintro x L' ⟨rfl, rfl⟩
  refine X_call (f := 1000) (C := fun _ => True) [] rfl rfl rfl rfl (fun r _ => new_tr r) (fun _ _ => trivial) ?_
  rintro x L' ⟨p, mb, rfl, rfl⟩
  refine X_gF (f := 1000) rfl ⟨_, rfl, rfl⟩ rfl ?_
  refine X_if (f := 1000) rfl ⟨_, rfl, rfl⟩ (fun h1 => ?_) (fun h1 => ?_)
  · refine X_gT (f := 1000) rfl ⟨_, rfl, rfl⟩ rfl ?_
    refine X_ret (f := 1000) rfl rfl Try.func3 rfl fun h' hs => ⟨by simp [tupV, SV.den], hs.sub⟩
  · refine X_loop (f := 1000) [7, 8, 9] [0, 1, 6] [0, 1] (fun m vs L => ∃ (i : Nat) (E : List Ent) (g b : Int), i ≤ n ∧ i ≤ 100 ∧ m = 100 - i ∧ E.length ≤ i ∧ CountOk E xs g b ∧ vs = [.int .i64 g, .int .i64 b, .int .i64 i] ∧ L = ledH p mb E)
      rfl rfl rfl ⟨0, [], 0, 0, by omega, by omega, rfl, by simp, CountOk.nil xs, rfl, rfl⟩ ?_
    rintro m vs L ⟨i, E, g, b, hi, hi2, rfl, hE, hc, rfl, rfl⟩ ih
    have done : Y (cx 3 Try.f3.ntmps fun v h' => v = .bool true ∧ Sub h h') h [] [] [] (ledH p mb E) → True := fun _ => trivial
    refine X_g (f := 1000) rfl ⟨_, rfl, rfl⟩ (fun h2 => ?_) (fun h2 => ?_)
    · have hlt : i < n := by simpa using h2
      refine X_if (f := 1000) rfl ⟨_, rfl, rfl⟩ (fun h3 => ?_) (fun h3 => ?_)
      · have hlt2 : i < 100 := by have : (i : Int) < 100 := by simpa using h3
                                  omega
        have hie : i < es.length := by rw [he.len]; exact hlt
        rcases he.rd with h0 | ⟨bb, o, rfl, hcell⟩
        · have h5 := flat_get es i hie 0 _ rfl; rw [h0] at h5; simp at h5
        have hce : ∀ j v, (es[i]).cells[j]? = some v → h.cell ⟨bb, o + i * 4 + j, none⟩ = some v := fun j v hj => by
          have := hcell _ _ (flat_get es i hie j v hj); rw [Nat.add_assoc]; exact this
        generalize es[i] = e at hce
        refine X_idx (f := 1000) i rfl rfl rfl rfl hlt rfl rfl rfl rfl ?_
        refine X_loadR (f := 1000) rfl rfl (fun h2 hs => ldv_agg (cl := e.cells) rfl rfl rfl rfl fun j v hj => Hp.cell_mono hs (hce j v hj)) ?_
        refine X_call (f := 1000) (C := fun _ => True) [0, 1] rfl rfl rfl rfl (fun r _ => record_tr p mb E e r) (fun _ _ => trivial) ?_
        rintro x L' ⟨-, rfl⟩
        have hrl := recE_len E e
        refine X_call (f := 1000) (C := fun r => IntsAt r a2 n2 xs) [0, 1] rfl rfl rfl rfl (fun r hr => counts_tr p mb (recE E e) _ _ _ _ r hr (by omega)) (fun r hr => ⟨hx.len, hx.rd.mono hr.sub, hx.small⟩) ?_
        rintro x L' ⟨⟨g', b', rfl, hc'⟩, rfl⟩
        have hst := rec_step hc hc'
        have hb1 := hc.bnd
        have hb2 := hc'.bnd
        refine X_gF (f := 1000) rfl ⟨_, rfl, rfl⟩ (by simp; omega) ?_
        refine X_gF (f := 1000) rfl ⟨_, rfl, rfl⟩ (by simp; omega) ?_
        refine X_ar (f := 1000) rfl rfl rfl (ar_add (by omega)) ?_
        refine X_ar (f := 1000) rfl rfl rfl (ar_add (by omega)) ?_
        refine X_ar (f := 1000) rfl rfl rfl (ar_add (by omega)) ?_
        refine X_ifF (f := 1000) rfl ⟨_, rfl, rfl⟩ (by simp; omega) ?_
        refine X_ar (f := 1000) rfl rfl rfl (ar_add (by omega)) ?_
        refine X_again (f := 1000) [7, 8, 9] [0, 1, 6] [0, 1] rfl rfl rfl ?_
        exact ih (100 - (i + 1)) _ _ (by omega) ⟨i + 1, recE E e, g', b', by omega, by omega, rfl, by omega, hc', rfl, rfl⟩
      · refine X_ret (f := 1000) rfl rfl Try.func3 rfl fun h' hs => ⟨rfl, hs.sub⟩
    · refine X_ret (f := 1000) rfl rfl Try.func3 rfl fun h' hs => ⟨rfl, hs.sub⟩
end Go.Proofs.Ytlfldhnmbjgdnaa
namespace Go.Proofs.Ytlfldhnmbjgdnaa
open Go Go.Eng Go.ChangeShapes Go.WideShapes Go.ChangeAt Go.RowKit
set_option maxRecDepth 100000

theorem own : ownKnob Try.prog.godebug = none := by kernel_rfl
theorem laidOut : laidOutB Try.prog = true := by kernel_rfl
theorem cells31 : Try.prog.cellsOf 31 = 4 := by kernel_rfl
theorem cells3 : Try.prog.cellsOf 3 = 1 := by kernel_rfl

def entCells (z : List Int) : List Value := z.map (Value.int .i64)

theorem el_ent {H : Type} {enc : TypeId × Value → H} {w : World} (n : Nat) (cs : List Value) (y) (h : DataW.trod enc Try.prog w 0 (fun _ => true) true n 31 cs = some y) : ∃ e : Ent, cs = e.cells ∧ True := by
  obtain ⟨zs, h1, rfl, -⟩ := el_ints Try.underlying31 Try.underlying3 cells3 cells31 (fun i f hf => by
    match i, hf with
    | 0, hf => cases hf; exact ⟨rfl, rfl⟩
    | 1, hf => cases hf; exact ⟨rfl, rfl⟩
    | 2, hf => cases hf; exact ⟨rfl, rfl⟩
    | 3, hf => cases hf; exact ⟨rfl, rfl⟩
    | i + 4, hf => simp at hf) h
  match zs, h1 with
  | [a, b, c, d], _ => exact ⟨⟨a, b, c, d⟩, rfl, trivial⟩

instance : Inhabited Ent := ⟨⟨0, 0, 0, 0⟩⟩

theorem open_ents {H : Type} {enc : TypeId × Value → H} {W : World} {base : Nat} {v : Value} {d : DataW H} {p : List MemPlace} (hval : Value.okWide Try.prog W .any base 22 v)
    (hd : DataW.Trod enc Try.prog W 0 (fun _ => true) true 22 v d p) : ∃ a n c es, v = .slice a n c ∧ EntsAt (fun b => W.heap[b]?) a n es := by
  obtain ⟨a, n, c, es, rfl, h1, h2, h3, h4, -⟩ := open_list Ent.cells (fun _ => True) (fun _ => rfl) Try.underlying22 cells31 (by decide) (fun _ => rfl) (slice_of Try.underlying22 hval) el_ent hd
  have hml : maxLen = 9223372036854775807 := rfl
  exact ⟨a, n, c, es, rfl, h3, h4, by omega⟩

theorem el_int1 {H : Type} {enc : TypeId × Value → H} {w : World} (n : Nat) (cs : List Value) (y) (h : DataW.trod enc Try.prog w 0 (fun _ => true) true n 3 cs = some y) : ∃ z : Int, cs = [intV z] ∧ True := by
  obtain ⟨z, rfl, -⟩ := el_int Try.underlying3 h
  exact ⟨z, rfl, trivial⟩

theorem open_ints1 {H : Type} {enc : TypeId × Value → H} {W : World} {base : Nat} {v : Value} {d : DataW H} {p : List MemPlace} (hval : Value.okWide Try.prog W .any base 23 v)
    (hd : DataW.Trod enc Try.prog W 0 (fun _ => true) true 23 v d p) : ∃ a n c xs, v = .slice a n c ∧ IntsAt (fun b => W.heap[b]?) a n xs := by
  obtain ⟨a, n, c, xs, rfl, h1, h2, h3, h4, -⟩ := open_list (fun z : Int => [intV z]) (fun _ => True) (fun _ => rfl) Try.underlying23 cells3 (by decide) (fun _ => rfl) (slice_of Try.underlying23 hval) el_int1 hd
  have hml : maxLen = 9223372036854775807 := rfl
  refine ⟨a, n, c, xs, rfl, h3, ?_, by omega⟩
  have e : (xs.map fun z : Int => [intV z]).flatten = xs.map intV := by clear h3 h4; induction xs <;> simp_all
  rw [← e]; exact h4

end Go.Proofs.Ytlfldhnmbjgdnaa
