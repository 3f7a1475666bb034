/-
  Lemmas for the walk: how the machine steps, and what each step needs; no condition.
-/
import Derived.Test.YtlfldhnmbjgdnaaLwA
import Derived.Test.YtlfldhnmbjgdnaaEngC
import Derived.Shelf.SlSortCmp.WholeK
import Derived.Test.YtlfldhnmbjgdnaaEngD
import Derived.Shelf.SlSortCmp.NoneTotal
namespace Go.Proofs.Ytlfldhnmbjgdnaa
open Go Go.Eng
set_option maxRecDepth 100000

/-- the values of a map, yielded in some order -/
theorem values1_tr {σ : Type} (pb mb : Nat) (E : List Ent) (yv : Value) (A B : σ → HA) (r : Hp) (view : σ → List Ent) (s0 : σ) (h0 : view s0 = []) (Pre : Hp → σ → Ent → Prop) (St : σ → Ent → σ → Prop)
    (hSt : ∀ s x s', St s x s' → view s' = view s ++ [x]) (hPre : ∀ r s x, (view s).length < E.length → Pre r s x)
    (hy : YieldsE (ξ := Ent) Try.prog yv r A B (fun e => [e.val]) Pre St (fun _ _ _ => False)) :
    Tr Try.prog 22 [yv, .pointer (some ⟨pb, 0, none⟩)] r ([.pt pb (.cells #[.map (some mb)] 41 (0, 0)), mapH pairV mb (entM E)] ++ [A s0])
      fun _ L' => ∃ LC' s, (((view s).Perm E ∧ LC' = [.pt pb (.cells #[.map (some mb)] 41 (0, 0)), mapH pairV mb (entM E)]) ∧ L' = LC' ++ [A s]) ∨ (False ∧ L' = LC' ++ [B s]) := by
  refine Tr.intro tys_ok mix Try.func22 rfl rfl rfl ?_
  refine X_load (f := 1000) (i := 0) rfl rfl rfl rfl ?_
  refine X_range (f := 1000) (i := 1) (enc := pairV) rfl rfl rfl rfl rfl fun rb => ?_
  refine X_loop (f := 1000) [] [0, 1, 6] [0, 1, 2] (fun m vs L => ∃ (s : σ) (dn td : List Ent) (last : _), view s = dn ∧ (dn ++ td).Perm E ∧ m = td.length ∧ vs = [] ∧
        L = [.pt pb (.cells #[.map (some mb)] 41 (0, 0)), rangeH pairV mb rb (entM E) (entM td) last, A s])
      rfl rfl rfl ⟨s0, [], E, none, h0, by simp, rfl, rfl, rfl⟩ ?_
  rintro m vs L ⟨st, dn, td, last, hview, hperm, rfl, rfl, rfl⟩ ih
  refine X_next (f := 1000) (i := 1) rfl rfl rfl (fun A' q B' hq => ?_) (fun hq => ?_)
  · obtain ⟨A', e, B', rfl, rfl, rfl, rfl⟩ := entM_split hq
    have hAB : entM A' ++ entM B' = entM (A' ++ B') := by simp [entM]
    rw [hAB]
    have hp2 : (dn ++ [e] ++ (A' ++ B')).Perm E := by
      refine List.Perm.trans ?_ hperm
      rw [List.append_assoc]
      refine List.Perm.append_left dn ?_
      show (e :: (A' ++ B')).Perm _
      exact List.perm_middle.symm
    refine X_ifT (f := 1000) rfl ⟨_, rfl, rfl⟩ rfl ?_
    refine X_entry (f := 1000) (i := 1) rfl rfl rfl ?_
    refine X_alloc (f := 1000) rfl rfl fun b3 => ?_
    refine X_store (f := 1000) (i := 3) rfl rfl rfl rfl rfl rfl ?_
    refine X_load (f := 1000) (i := 3) rfl rfl rfl rfl ?_
    refine X_callV (f := 1000) (C := fun r' => Sub r r') [2] rfl rfl rfl rfl (fun r' hr => hy r' st e hr (hPre _ _ _ (by rw [hview, ← hp2.length_eq]; simp))) (fun r' hr => hr.sub) ?_
    rintro v L' (⟨rfl, s', hs', rfl⟩ | ⟨rfl, s', h, rfl⟩)
    · refine X_ifF (f := 1000) rfl ⟨_, rfl, rfl⟩ rfl ?_
      refine X_again (f := 1000) [] [0, 1, 6] [0, 1, 2] rfl rfl rfl ?_
      exact ih (A' ++ B').length _ _ (by simp) ⟨s', dn ++ [e], A' ++ B', _, by rw [hSt _ _ _ hs', hview], hp2, rfl, rfl, rfl⟩
    · exact h.elim
  · have htd : td = [] := by simpa [entM] using hq
    subst htd
    rw [List.append_nil] at hperm
    refine X_ifF (f := 1000) rfl ⟨_, rfl, rfl⟩ rfl ?_
    refine X_unrange (i := 1) rfl ?_
    refine X_fin (f := 1000) rfl rfl Try.func22 rfl fun h' hs => ⟨_, ⟨_, st, .inl ⟨⟨by rw [hview]; exact hperm, rfl⟩, rfl⟩⟩, hs.pick0 [0, 1, 2]⟩

def flatE (es : List Ent) : List Value := (es.map Ent.cells).flatten
theorem flatE_snoc (es : List Ent) (e : Ent) : flatE (es ++ [e]) = flatE es ++ e.cells := by simp [flatE]
theorem flatE_len (es : List Ent) : (flatE es).length = es.length * 4 := by
  induction es with
  | nil => rfl
  | cons e r ih =>
    have : flatE (e :: r) = e.cells ++ flatE r := rfl
    rw [this, List.length_append, ih]; simp [Ent.cells]; omega

structure Seq where
  es : List Ent
  a : Option Addr
  n : Nat
  c : Nat

theorem appendSeq_tr (pb mb : Nat) (E : List Ent) (hE : E.length < 1000000) (R : Hp) :
    Tr Try.prog 24 [.slice none 0 0, .func (.func 22) #[] #[.pointer (some ⟨pb, 0, none⟩)]] R [.pt pb (.cells #[.map (some mb)] 41 (0, 0)), mapH pairV mb (entM E)]
      fun x L' => ∃ es a n c, x = .slice a n c ∧ es.Perm E ∧ L' = [.pt pb (.cells #[.map (some mb)] 41 (0, 0)), mapH pairV mb (entM E), ownS 31 4 a n c (flatE es)] := by
  refine Tr.intro tys_ok mix Try.func24 rfl rfl rfl ?_
  refine X_box (f := 1000) rfl rfl rfl fun p2 => ?_
  refine Y.addE (ownS_nil 31 4) ?_
  refine X_rangeF (f := 1000) (σ := Seq) (ξ := Ent) (LC := [.pt pb (.cells #[.map (some mb)] 41 (0, 0)), mapH pairV mb (entM E)]) (C := fun _ => True) [0, 1, 2, 3] ⟨[], none, 0, 0⟩
    (fun s => [.pt p2 (.cells #[.slice s.a s.n s.c] 22 (0, 0)), ownS 31 4 s.a s.n s.c (flatE s.es)]) (fun _ => []) (fun _ => .skip) (fun e => [e.val])
    (fun _ s _ => s.es.length < E.length) (fun s x s' => s'.es = s.es ++ [x]) (fun _ _ _ => False)
    (fun LC' s => s.es.Perm E ∧ LC' = [.pt pb (.cells #[.map (some mb)] 41 (0, 0)), mapH pairV mb (entM E)]) (fun _ _ => False)
    rfl rfl rfl rfl rfl (fun _ _ => trivial) rfl rfl (fun _ => rfl) (fun _ _ _ _ => trivial) ?_ ?_ ?_ ?_
  · intro lp tm dm r s x _ hpre
    refine X_alloc (f := 1000) rfl rfl fun b5 => ?_
    refine X_store (f := 1000) (i := 3) rfl rfl rfl rfl rfl rfl ?_
    refine X_begin (f := 1000) (i := 0) rfl rfl rfl rfl ?_
    refine X_load (f := 1000) (i := 1) rfl rfl rfl rfl ?_
    refine X_load (f := 1000) (i := 3) rfl rfl rfl rfl ?_
    refine X_mkslice (f := 1000) rfl rfl rfl rfl rfl rfl rfl fun b6 => ?_
    refine Y.ownLen (i := 2) rfl fun hlen => ?_
    have hn : s.n = s.es.length := by rw [flatE_len] at hlen; omega
    refine X_append (f := 1000) (i := 2) x.cells rfl rfl rfl rfl rfl rfl rfl rfl rfl (by omega) rfl (by omega) rfl (by show _ * 32 ≤ _; omega) (by omega)
      (fun A h hs => RdAt.of_block (hs.get (i := 5) rfl) ⟨[], rfl⟩) fun a' c' => ?_
    refine X_store (f := 1000) (i := 1) rfl rfl rfl rfl rfl rfl ?_
    refine X_roundEnd (f := 1000) (i := 0) rfl rfl rfl fun h' hs => .inl ⟨rfl, ⟨s.es ++ [x], a', s.n + 1, c'⟩, rfl, ?_⟩
    have := hs.pick0 [0, 1, 2]
    rw [flatE_snoc]
    exact this
  · intro r yv A B _ hy
    exact values1_tr pb mb E yv A B r (fun s => s.es) ⟨[], none, 0, 0⟩ rfl _ _ (fun s x s' h => h) (fun r s x h => h) hy
  · rintro LC' s ⟨hp, rfl⟩
    refine X_load (f := 1000) (i := 2) rfl rfl rfl rfl ?_
    refine X_ret (f := 1000) rfl rfl Try.func24 rfl fun h' hs => ⟨_, ⟨s.es, s.a, s.n, s.c, rfl, hp, rfl⟩, hs.pick0 [0, 1, 3]⟩
  · intro _ _ h; exact h.elim
end Go.Proofs.Ytlfldhnmbjgdnaa
namespace Go.Proofs.Ytlfldhnmbjgdnaa
open Go Go.Eng
set_option maxRecDepth 100000

def sortEnt_ren : Go.Shelf.Ren := ⟨fun | 6 => 21 | 15 => 26 | 14 => 25 | 28 => 35 | 29 => 36 | 20 => 27 | 21 => 28 | 22 => 29 | 23 => 30 | 24 => 31 | 25 => 32 | 26 => 33 | 27 => 34 | 46 => 37 | 47 => 38 | 48 => 39 | 49 => 40 | 50 => 41 | 57 => 42 | n => n, fun | 22 => 22 | 24 => 31 | 25 => 54 | 3 => 3 | 39 => 61 | 0 => 0 | 53 => 71 | 55 => 73 | 4 => 4 | 46 => 64 | 45 => 63 | 50 => 68 | 5 => 5 | 9 => 9 | 66 => 74 | 70 => 78 | 76 => 80 | 77 => 32 | n => n, fun | n => n⟩
theorem sortEnt : Go.Proofs.SlLaysF0.n6 Try.prog sortEnt_ren where
  mixed := by kernel_rfl
  f6 := ⟨ "slices.SortFunc[[]pennant/api.Entry,pennant/api.Entry]", by decide, Try.func21.trans (congrArg some (by kernel_rfl))⟩
  f14 := ⟨ "slices.pdqsortCmpFunc[pennant/api.Entry]", by decide, Try.func25.trans (congrArg some (by kernel_rfl))⟩
  f15 := Try.func26.trans (congrArg some (by kernel_rfl))
  f20 := ⟨ "slices.insertionSortCmpFunc[pennant/api.Entry]", by decide, Try.func27.trans (congrArg some (by kernel_rfl))⟩
  f21 := ⟨ "slices.heapSortCmpFunc[pennant/api.Entry]", by decide, Try.func28.trans (congrArg some (by kernel_rfl))⟩
  f22 := ⟨ "slices.breakPatternsCmpFunc[pennant/api.Entry]", by decide, Try.func29.trans (congrArg some (by kernel_rfl))⟩
  f23 := ⟨ "slices.choosePivotCmpFunc[pennant/api.Entry]", by decide, Try.func30.trans (congrArg some (by kernel_rfl))⟩
  f24 := ⟨ "slices.reverseRangeCmpFunc[pennant/api.Entry]", by decide, Try.func31.trans (congrArg some (by kernel_rfl))⟩
  f25 := ⟨ "slices.partialInsertionSortCmpFunc[pennant/api.Entry]", by decide, Try.func32.trans (congrArg some (by kernel_rfl))⟩
  f26 := ⟨ "slices.partitionEqualCmpFunc[pennant/api.Entry]", by decide, Try.func33.trans (congrArg some (by kernel_rfl))⟩
  f27 := ⟨ "slices.partitionCmpFunc[pennant/api.Entry]", by decide, Try.func34.trans (congrArg some (by kernel_rfl))⟩
  f28 := Try.func35.trans (congrArg some (by kernel_rfl))
  f29 := Try.func36.trans (congrArg some (by kernel_rfl))
  f46 := ⟨ "slices.siftDownCmpFunc[pennant/api.Entry]", by decide, Try.func37.trans (congrArg some (by kernel_rfl))⟩
  f47 := Try.func38.trans (congrArg some (by kernel_rfl))
  f48 := Try.func39.trans (congrArg some (by kernel_rfl))
  f49 := ⟨ "slices.medianAdjacentCmpFunc[pennant/api.Entry]", by decide, Try.func40.trans (congrArg some (by kernel_rfl))⟩
  f50 := ⟨ "slices.medianCmpFunc[pennant/api.Entry]", by decide, Try.func41.trans (congrArg some (by kernel_rfl))⟩
  f57 := ⟨ "slices.order2CmpFunc[pennant/api.Entry]", by decide, Try.func42.trans (congrArg some (by kernel_rfl))⟩
  t0 := Try.underlying0
  a0 := Try.isAgg0
  z0 := Try.sizeOf0
  v0 := Try.zeroValue0
  t3 := Try.underlying3
  a3 := Try.isAgg3
  z3 := Try.sizeOf3
  v3 := Try.zeroValue3
  t4 := Try.underlying4
  a4 := Try.isAgg4
  z4 := Try.sizeOf4
  v4 := Try.zeroValue4
  t5 := Try.underlying5
  a5 := Try.isAgg5
  z5 := Try.sizeOf5
  v5 := Try.zeroValue5
  t9 := Try.underlying9
  a9 := Try.isAgg9
  z9 := Try.sizeOf9
  v9 := Try.zeroValue9
  t22 := Try.underlying22
  a22 := Try.isAgg22
  z22 := Try.sizeOf22
  v22 := Try.zeroValue22
  t25 := Try.underlying54
  a25 := Try.isAgg54
  z25 := Try.sizeOf54
  v25 := Try.zeroValue54
  t39 := Try.underlying61
  a39 := Try.isAgg61
  z39 := Try.sizeOf61
  v39 := Try.zeroValue61
  t45 := Try.underlying63
  a45 := Try.isAgg63
  z45 := Try.sizeOf63
  v45 := Try.zeroValue63
  t46 := Try.underlying64
  a46 := Try.isAgg64
  z46 := Try.sizeOf64
  v46 := Try.zeroValue64
  t50 := Try.underlying68
  a50 := Try.isAgg68
  z50 := Try.sizeOf68
  v50 := Try.zeroValue68
  t53 := Try.underlying71
  a53 := Try.isAgg71
  z53 := Try.sizeOf71
  v53 := Try.zeroValue71
  t55 := Try.underlying73
  a55 := Try.isAgg73
  z55 := Try.sizeOf73
  v55 := Try.zeroValue73
  t66 := Try.underlying74
  a66 := Try.isAgg74
  z66 := Try.sizeOf74
  v66 := Try.zeroValue74
  t70 := Try.underlying78
  a70 := Try.isAgg78
  z70 := Try.sizeOf78
  v70 := Try.zeroValue78
  t76 := Try.underlying80
  a76 := Try.isAgg80
  z76 := Try.sizeOf80
  v76 := Try.zeroValue80
  t77 := Try.underlying32
  a77 := Try.isAgg32
  z77 := Try.sizeOf32
  v77 := Try.zeroValue32
end Go.Proofs.Ytlfldhnmbjgdnaa
namespace Go.Proofs.Ytlfldhnmbjgdnaa
open Go Go.Eng
set_option maxRecDepth 100000

def cmpI (x y : Int) : Int := if x < y then -1 else if y < x then 1 else 0

theorem isNaN_tr (x : Int) (R : Hp) : Tr Try.prog 23 [.int .i64 x] R [] fun v L' => v = .bool false ∧ L' = [] := by
  refine Tr.intro tys_ok mix Try.func23 rfl rfl rfl ?_
  refine X_ret (f := 1000) rfl rfl Try.func23 rfl fun h' hs => ⟨_, ⟨by simp [tupV, SV.den], rfl⟩, hs.pick0 []⟩

theorem compare_tr (x y : Int) (R : Hp) : Tr Try.prog 18 [.int .i64 x, .int .i64 y] R [] fun v L' => v = .int .i64 (cmpI x y) ∧ L' = [] := by
  refine Tr.intro tys_ok mix Try.func18 rfl rfl rfl ?_
  refine X_call (f := 1000) (C := fun _ => True) [] rfl rfl rfl rfl (fun r _ => isNaN_tr _ r) (fun _ _ => trivial) ?_
  rintro v L' ⟨rfl, rfl⟩
  refine X_call (f := 1000) (C := fun _ => True) [] rfl rfl rfl rfl (fun r _ => isNaN_tr _ r) (fun _ _ => trivial) ?_
  rintro v L' ⟨rfl, rfl⟩
  refine X_ifF (f := 1000) rfl ⟨_, rfl, rfl⟩ rfl ?_
  refine X_ifF (f := 1000) rfl ⟨_, rfl, rfl⟩ rfl ?_
  refine X_if (f := 1000) rfl ⟨_, rfl, rfl⟩ (fun h1 => ?_) (fun h1 => ?_)
  · have h1 : x < y := by simpa using h1
    refine X_ret (f := 1000) rfl rfl Try.func18 rfl fun h' hs => ⟨_, ⟨by simp [tupV, cmpI, h1, SV.den], rfl⟩, hs.pick0 []⟩
  · have h1 : ¬ x < y := by simpa using h1
    refine X_if (f := 1000) rfl ⟨_, rfl, rfl⟩ (fun h2 => ?_) (fun h2 => ?_)
    · have h2 : y < x := by simpa using h2
      refine X_ret (f := 1000) rfl rfl Try.func18 rfl fun h' hs => ⟨_, ⟨by simp [tupV, cmpI, h1, h2, SV.den], rfl⟩, hs.pick0 []⟩
    · have h2 : ¬ y < x := by simpa using h2
      refine X_ret (f := 1000) rfl rfl Try.func18 rfl fun h' hs => ⟨_, ⟨by simp [tupV, cmpI, h1, h2, SV.den], rfl⟩, hs.pick0 []⟩

def orI : List Int → Int
  | [] => 0
  | x :: r => if x ≠ 0 then x else orI r

theorem or_tr (a : Option Addr) (n cap : Nat) (xs : List Int) (R : Hp) (hx : IntsAt R a n xs) : Tr Try.prog 17 [.slice a n cap] R [] fun v L' => v = .int .i64 (orI xs) ∧ L' = [] := by
  refine Tr.intro tys_ok mix Try.func17 rfl rfl rfl ?_
  refine X_loop (f := 1000) [8] [2, 3, 6, 7] [] (fun m vs L => ∃ i : Nat, i ≤ n ∧ m = n - i ∧ orI xs = orI (xs.drop i) ∧ vs = [.int .i64 i] ∧ L = [])
    rfl rfl rfl ⟨0, by omega, rfl, rfl, rfl, rfl⟩ ?_
  rintro m vs L ⟨i, hi, rfl, ho, rfl, rfl⟩ ih
  refine X_if (f := 1000) rfl ⟨_, rfl, rfl⟩ (fun h1 => ?_) (fun h1 => ?_)
  · have hlt : i < n := by simpa using h1
    have hxs : i < xs.length := by rw [hx.len]; exact hlt
    rcases hx.rd with h0 | ⟨b, o, rfl, hc⟩
    · have := congrArg List.length h0; simp [hx.len] at this; omega
    have hcell : R.cell ⟨b, o + i, none⟩ = some (intV xs[i]) := hc i _ (by simp [hxs])
    have hdrop : xs.drop i = xs[i] :: xs.drop (i + 1) := (List.drop_eq_getElem_cons hxs)
    generalize xs[i] = x at hcell hdrop
    refine X_idx (f := 1000) i rfl rfl rfl rfl hlt rfl rfl rfl rfl ?_
    refine X_loadR (f := 1000) rfl rfl (fun h hs => ldv_one rfl rfl rfl (Hp.cell_mono hs (by simpa using hcell))) ?_
    refine X_if (f := 1000) rfl ⟨_, rfl, rfl⟩ (fun h2 => ?_) (fun h2 => ?_)
    · have h2 : x ≠ 0 := by simpa using h2
      refine X_ret (f := 1000) rfl rfl Try.func17 rfl fun h' hs => ⟨_, ⟨by rw [ho, hdrop]; simp [tupV, orI, h2, SV.den, intV], rfl⟩, hs.pick0 []⟩
    · have h2 : x = 0 := by simpa using h2
      refine X_ar (f := 1000) rfl rfl rfl (ar_add (by have := hx.small; omega)) ?_
      refine X_again (f := 1000) [8] [2, 3, 6, 7] [] rfl rfl rfl ?_
      exact ih (n - (i + 1)) _ _ (by omega) ⟨i + 1, by omega, rfl, by rw [ho, hdrop]; simp [orI, h2], rfl, rfl⟩
  · have hin : i = n := by have : ¬ (i < n) := by simpa using h1
                           omega
    refine X_ret (f := 1000) rfl rfl Try.func17 rfl fun h' hs => ⟨_, ⟨by rw [ho, List.drop_eq_nil_of_le (by rw [hx.len]; omega)]; rfl, rfl⟩, hs.pick0 []⟩

def cmpE (x y : Ent) : Int := orI [cmpI x.d y.d, cmpI x.l y.l]

theorem cmp16 (x y : Ent) (w : World) : Calls Try.prog 16 #[.agg x.cells.toArray, .agg y.cells.toArray] w fun e w' => e = .returned (.int .i64 (cmpE x y)) ∧ ∃ q os', w' = Sort.grow (w.drewN q) os' := by
  refine (calls_of_Y (args := [.agg x.cells.toArray, .agg y.cells.toArray]) (h := fun b => w.heap[b]?) (Rp := fun v h' => v = .int .i64 (cmpE x y) ∧ Sub (fun b => w.heap[b]?) h') tys_ok mix Try.func16 rfl rfl (fun _ => rfl) ?_).mono
    fun e w' ⟨v, h', he, ⟨hv, hs⟩, ho, hk⟩ => ⟨by rw [he, hv], grown_of (fun _ => rfl) ho hs hk⟩
  refine X_box (f := 1000) rfl rfl rfl fun b1 => ?_
  refine X_box (f := 1000) rfl rfl rfl fun b2 => ?_
  refine X_draw (f := 1000) [4, 9] [0, 2, 5, 7, 1, 3, 6, 8, 4, 9, 10, 11, 12] rfl rfl rfl (by decide +kernel) ?_
  refine X_load (f := 1000) (i := 0) rfl rfl rfl rfl ?_
  refine X_load (f := 1000) (i := 1) rfl rfl rfl rfl ?_
  refine X_load (f := 1000) (i := 0) rfl rfl rfl rfl ?_
  refine X_load (f := 1000) (i := 1) rfl rfl rfl rfl ?_
  refine X_callE (f := 1000) (C := fun _ => True) rfl rfl rfl (fun r _ => compare_tr _ _ r) (fun _ _ _ _ => trivial) ?_
  rintro v L' ⟨rfl, rfl⟩
  refine X_callE (f := 1000) (C := fun _ => True) rfl rfl rfl (fun r _ => compare_tr _ _ r) (fun _ _ _ _ => trivial) ?_
  rintro v L' ⟨rfl, rfl⟩
  refine X_mkslice (f := 1000) rfl rfl rfl rfl rfl rfl rfl fun b3 => ?_
  refine X_call (f := 1000) (C := fun r => IntsAt r (some ⟨b3, 0, none⟩) 2 [cmpI x.d y.d, cmpI x.l y.l]) [] rfl rfl rfl rfl (fun r hr => or_tr _ _ _ _ r hr) (fun r hr => ⟨rfl, RdAt.of_block (hr.get (i := 2) rfl) ⟨[], rfl⟩, by omega⟩) ?_
  rintro v L' ⟨rfl, rfl⟩
  refine X_ret (f := 1000) rfl rfl Try.func16 rfl fun h' hs => ⟨rfl, hs.sub⟩
end Go.Proofs.Ytlfldhnmbjgdnaa
namespace Go.Proofs.Ytlfldhnmbjgdnaa
open Go Go.Eng
set_option maxRecDepth 100000

def entLt (x y : Ent) : Prop := x.d < y.d ∨ (x.d = y.d ∧ x.l < y.l)
theorem ltE (x y : Ent) : ltOf cmpE x y = true ↔ entLt x y := by
  unfold ltOf cmpE entLt orI cmpI orI orI
  simp only [decide_eq_true_eq]
  by_cases h1 : x.d < y.d
  · simp [h1]
  · by_cases h2 : y.d < x.d
    · simp [h1, h2]; omega
    · have h3 : x.d = y.d := by omega
      by_cases h4 : x.l < y.l
      · simp [h3, h4]
      · by_cases h5 : y.l < x.l
        · simp [h3, h4, h5]
        · simp [h3, h4, h5]
theorem ltE_false (x y : Ent) : ltOf cmpE x y = false ↔ ¬ entLt x y := by rw [← ltE]; simp
theorem swoE : Sort.SWO (ltOf cmpE) where
  irrefl x := by rw [ltE_false]; unfold entLt; omega
  trans x y z h1 h2 := by rw [ltE] at *; unfold entLt at *; omega
  ntrans x y z h1 h2 := by rw [ltE_false] at *; unfold entLt at *; omega

theorem sort_tr (a : Option Addr) (n c : Nat) (es : List Ent) (R : Hp) (hn : n < 4611686018427387904) :
    Tr Try.prog 21 [.slice a n c, .func (.func 16) #[] #[]] R [ownS 31 4 a n c (flatE es)]
      fun _ L' => ∃ es' : List Ent, es'.Perm es ∧ es'.Pairwise (fun x y => ltOf cmpE y x = false) ∧ L' = [ownS 31 4 a n c (flatE es')] :=
  Tr.sort sortEnt ⟨_, Try.func21, rfl, rfl⟩ 4 (by decide) Try.isAgg31 Try.sizeOf31 Ent.cells (fun _ => rfl) (fun x v hv => by simp [Ent.cells] at hv; rcases hv with rfl | rfl | rfl | rfl <;> rfl) cmpE swoE 16
    (enters_of Try.func16 (by kernel_rfl) rfl) cmp16 (fun p cap fv w => AnyF.slices_SortFunc_none sortEnt p cap fv w) 31 n c a es R hn

theorem collect_tr (pb mb : Nat) (E : List Ent) (hE : E.length < 1000000) (R : Hp) :
    Tr Try.prog 20 [.func (.func 22) #[] #[.pointer (some ⟨pb, 0, none⟩)]] R [.pt pb (.cells #[.map (some mb)] 41 (0, 0)), mapH pairV mb (entM E)]
      fun x L' => ∃ es a n c, x = .slice a n c ∧ es.Perm E ∧ L' = [.pt pb (.cells #[.map (some mb)] 41 (0, 0)), mapH pairV mb (entM E), ownS 31 4 a n c (flatE es)] := by
  refine Tr.intro tys_ok mix Try.func20 rfl rfl rfl ?_
  refine X_call (f := 1000) (C := fun _ => True) [0, 1] rfl rfl rfl rfl (fun r _ => appendSeq_tr pb mb E hE r) (fun _ _ => trivial) ?_
  rintro v L' ⟨es, a, n, c, rfl, hp, rfl⟩
  refine X_ret (f := 1000) rfl rfl Try.func20 rfl fun h' hs => ⟨_, ⟨es, a, n, c, rfl, hp, rfl⟩, hs.pick0 [0, 1, 2]⟩

theorem sorted_tr (pb mb : Nat) (E : List Ent) (hE : E.length < 1000000) (R : Hp) :
    Tr Try.prog 14 [.func (.func 22) #[] #[.pointer (some ⟨pb, 0, none⟩)], .func (.func 16) #[] #[]] R [.pt pb (.cells #[.map (some mb)] 41 (0, 0)), mapH pairV mb (entM E)]
      fun x L' => ∃ es a n c, x = .slice a n c ∧ es.Perm E ∧ es.Pairwise (fun x y => ltOf cmpE y x = false) ∧ L' = [.pt pb (.cells #[.map (some mb)] 41 (0, 0)), mapH pairV mb (entM E), ownS 31 4 a n c (flatE es)] := by
  refine Tr.intro tys_ok mix Try.func14 rfl rfl rfl ?_
  refine X_call (f := 1000) (C := fun _ => True) [0, 1] rfl rfl rfl rfl (fun r _ => collect_tr pb mb E hE r) (fun _ _ => trivial) ?_
  rintro v L' ⟨es, a, n, c, rfl, hp, rfl⟩
  refine Y.ownLen (i := 2) rfl fun hlen => ?_
  have hn : n = es.length := by rw [flatE_len] at hlen; omega
  have hpl := hp.length_eq
  refine X_call (f := 1000) (C := fun _ => True) [2] rfl rfl rfl rfl (fun r _ => sort_tr a n c es r (by omega)) (fun _ _ => trivial) ?_
  rintro v L' ⟨es', hp', hs', rfl⟩
  refine X_ret (f := 1000) rfl rfl Try.func14 rfl fun h' hs => ⟨_, ⟨es', a, n, c, rfl, hp'.trans hp, hs', rfl⟩, hs.pick0 [0, 1, 2]⟩

theorem values_tr (mb : Nat) (R : Hp) : Tr Try.prog 15 [.map (some mb)] R [] fun x L' => ∃ pb, x = .func (.func 22) #[] #[.pointer (some ⟨pb, 0, none⟩)] ∧ L' = [.pt pb (.cells #[.map (some mb)] 41 (0, 0))] := by
  refine Tr.intro tys_ok mix Try.func15 rfl rfl rfl ?_
  refine X_box (f := 1000) rfl rfl rfl fun pb => ?_
  refine X_ret (f := 1000) rfl rfl Try.func15 rfl fun h' hs => ⟨_, ⟨pb, rfl, rfl⟩, hs.pick0 [0]⟩

theorem all_tr (p mb : Nat) (E : List Ent) (hE : E.length < 1000000) (R : Hp) :
    Tr Try.prog 11 [.pointer (some ⟨p, 0, none⟩)] R (ledH p mb E)
      fun x L' => ∃ es a n c, x = .slice a n c ∧ es.Perm E ∧ es.Pairwise (fun x y => ltOf cmpE y x = false) ∧ L' = ledH p mb E ++ [ownS 31 4 a n c (flatE es)] := by
  refine Tr.intro tys_ok mix Try.func11 rfl rfl rfl ?_
  refine X_load (f := 1000) (i := 0) rfl rfl rfl rfl ?_
  refine X_call (f := 1000) (C := fun _ => True) [] rfl rfl rfl rfl (fun r _ => values_tr mb r) (fun _ _ => trivial) ?_
  rintro v L' ⟨pb, rfl, rfl⟩
  refine X_call (f := 1000) (C := fun _ => True) [2, 1] rfl rfl rfl rfl (fun r _ => sorted_tr pb mb E hE r) (fun _ _ => trivial) ?_
  rintro v L' ⟨es, a, n, c, rfl, hp, hs, rfl⟩
  refine X_ret (f := 1000) rfl rfl Try.func11 rfl fun h' hs' => ⟨_, ⟨es, a, n, c, rfl, hp, hs, rfl⟩, hs'.pick0 [0, 1, 3]⟩
end Go.Proofs.Ytlfldhnmbjgdnaa
namespace Go.Proofs.Ytlfldhnmbjgdnaa
open Go Go.Eng
set_option maxRecDepth 100000

theorem isDevice_tr (x : Int) (R : Hp) : Tr Try.prog 13 [.int .i64 x] R [] fun v L' => v = .bool (decide (1 ≤ x) && decide (x ≤ 4096)) ∧ L' = [] := by
  refine Tr.intro tys_ok mix Try.func13 rfl rfl rfl ?_
  refine X_g (f := 1000) rfl ⟨_, rfl, rfl⟩ (fun h => ?_) (fun h => ?_)
  · refine X_ret (f := 1000) rfl rfl Try.func13 rfl fun h' hs => ⟨_, ⟨by simp only [tupV, SV.den]; simp [h], rfl⟩, hs.pick0 []⟩
  · refine X_ret (f := 1000) rfl rfl Try.func13 rfl fun h' hs => ⟨_, ⟨by simp only [tupV, SV.den]; simp [h], rfl⟩, hs.pick0 []⟩

theorem right10_tr (e : Ent) (R : Hp) : Tr Try.prog 10 [e.val] R [] fun v L' => v = .bool e.right ∧ L' = [] := by
  refine Tr.intro tys_ok mix Try.func10 rfl rfl rfl ?_
  refine X_box (f := 1000) rfl rfl rfl fun b => ?_
  refine X_load (f := 1000) (i := 0) rfl rfl rfl rfl ?_
  refine X_call (f := 1000) (C := fun _ => True) [] rfl rfl rfl rfl (fun r _ => isDevice_tr _ r) (fun _ _ => trivial) ?_
  rintro x L' ⟨rfl, rfl⟩
  have no : ∀ h', e.right = false → Sat R [HA.pt b (.cells #[.int .i64 e.d, .int .i64 e.l, .int .i64 e.v, .int .i64 e.o] 31 (0, 0))] h' → ∃ L', (Value.bool false = .bool e.right ∧ L' = []) ∧ Sat R L' h' :=
    fun h' hr hs => ⟨_, ⟨by rw [hr], rfl⟩, hs.pick0 []⟩
  refine X_g (f := 1000) rfl ⟨_, rfl, rfl⟩ (fun h1 => ?_) (fun h1 => X_ret (f := 1000) rfl rfl Try.func10 rfl fun h' hs => no h' (by simp [Ent.right, rightB] at h1 ⊢; omega) hs)
  refine X_load (f := 1000) (i := 0) rfl rfl rfl rfl ?_
  refine X_g (f := 1000) rfl ⟨_, rfl, rfl⟩ (fun h2 => ?_) (fun h2 => X_ret (f := 1000) rfl rfl Try.func10 rfl fun h' hs => no h' (by simp [Ent.right, rightB] at h1 h2 ⊢; omega) hs)
  refine X_load (f := 1000) (i := 0) rfl rfl rfl rfl ?_
  refine X_g (f := 1000) rfl ⟨_, rfl, rfl⟩ (fun h3 => ?_) (fun h3 => X_ret (f := 1000) rfl rfl Try.func10 rfl fun h' hs => no h' (by simp [Ent.right, rightB] at h1 h2 h3 ⊢; omega) hs)
  refine X_load (f := 1000) (i := 0) rfl rfl rfl rfl ?_
  refine X_g (f := 1000) rfl ⟨_, rfl, rfl⟩ (fun h4 => ?_) (fun h4 => X_ret (f := 1000) rfl rfl Try.func10 rfl fun h' hs => no h' (by simp [Ent.right, rightB] at h1 h2 h3 h4 ⊢; omega) hs)
  refine X_load (f := 1000) (i := 0) rfl rfl rfl rfl ?_
  refine X_g (f := 1000) rfl ⟨_, rfl, rfl⟩ (fun h5 => ?_) (fun h5 => X_ret (f := 1000) rfl rfl Try.func10 rfl fun h' hs => no h' (by simp [Ent.right, rightB] at h1 h2 h3 h4 h5 ⊢; omega) hs)
  refine X_load (f := 1000) (i := 0) rfl rfl rfl rfl ?_
  refine X_g (f := 1000) rfl ⟨_, rfl, rfl⟩ (fun h6 => ?_) (fun h6 => X_ret (f := 1000) rfl rfl Try.func10 rfl fun h' hs => no h' (by simp [Ent.right, rightB] at h1 h2 h3 h4 h5 h6 ⊢; omega) hs)
  refine X_load (f := 1000) (i := 0) rfl rfl rfl rfl ?_
  refine X_ret (f := 1000) rfl rfl Try.func10 rfl fun h' hs => ⟨_, ⟨?_, rfl⟩, hs.pick0 []⟩
  simp only [tupV, SV.den]
  simp [Ent.right, rightB] at h1 h2 h3 h4 h5 h6 ⊢
  simp [h1, h2, h3, h4, h5, h6]
end Go.Proofs.Ytlfldhnmbjgdnaa
namespace Go.Proofs.Ytlfldhnmbjgdnaa
open Go Go.Eng
set_option maxRecDepth 100000

theorem K36 : KL Try.prog 36 pairV := KL.pairA (T := tys) (ft := 3) (i := ⟨.arr 2 3, 2, 16, [.int .i64 0, .int .i64 0]⟩) (j := ⟨.int .i64, 1, 8, [.int .i64 0]⟩) tys_ok rfl rfl rfl rfl rfl

theorem und31 : Try.prog.underlying 31 = some (.struct (Try.prog.fieldsOf 31)) := by kernel_rfl
theorem st31 : Try.prog.stoodInHeld 31 = false := by kernel_rfl
theorem off31 : (Try.prog.fieldsOf 31).toList.map (·.offset) = List.range 4 := by kernel_rfl
theorem all31 : (Try.prog.fieldsOf 31).toList.all (fun f => f.name != "_" && f.type == 3) = true := by kernel_rfl
theorem nam31 : ∀ f ∈ (Try.prog.fieldsOf 31).toList, f.name ≠ "_" ∧ f.type = 3 := by
  intro f hf
  have := List.all_eq_true.1 all31 f hf
  simp only [Bool.and_eq_true, bne_iff_ne, beq_iff_eq] at this
  exact this
theorem eq31 (x y : Ent) (w : World) : (Op.equalIn 10000 31 (.agg ([x.d, x.l, x.v, x.o].map (Value.int .i64)).toArray) (.agg ([y.d, y.l, y.v, y.o].map (Value.int .i64)).toArray)).run Try.prog w = .ok (decide ([x.d, x.l, x.v, x.o] = [y.d, y.l, y.v, y.o])) w :=
  run_eq_ints (P := Try.prog) (t := 31) (ft := 3) (xs := [x.d, x.l, x.v, x.o]) (ys := [y.d, y.l, y.v, y.o]) und31 st31 Try.underlying3 nam31 off31 rfl w
theorem guard31 : Try.prog.eqGuardType Try.prog.depth 31 = false := by kernel_rfl

theorem aget_mem {E : List Ent} (hn : (E.map fun e => (e.d, e.l)).Nodup) {y : Ent} (hy : y ∈ E) : aget (y.d, y.l) (entM E) = some y.val := by
  obtain ⟨j, hj, rfl⟩ := List.mem_iff_getElem.1 hy
  exact aget_at (j := j) (by simpa [entM, Function.comp_def] using hn) (by simp [entM, hj])

theorem rdFlat {h : Hp} {g : Nat} {ys : List Ent} (hr : RdAt h (some ⟨g, 0, none⟩) (flatE ys)) {i : Nat} (hi : i < ys.length) {j : Nat} {v : Value} (hj : (ys[i]).cells[j]? = some v) : h.cell ⟨g, 0 + i * 4 + j, none⟩ = some v := by
  have hf := flat_get ys i hi j v hj
  rcases hr with h0 | ⟨b, o, hb, hc⟩
  · have : (ys.map Ent.cells).flatten = [] := h0
    rw [this] at hf; simp at hf
  · cases hb
    have := hc _ _ hf
    rw [Nat.add_assoc]; exact this

theorem first (a : Option Addr) (n cap : Nat) (es : List Ent) (w : World) (h : Hp) (hon : On w h) (he : EntsAt h a n es) :
    Calls Try.prog 5 #[.slice a n cap] w fun e w' => ∃ v h', e = .returned v ∧ (v = .bool true ∧ Sub h h') ∧ On w' h' ∧ Keep w w' := by
  refine calls_of_Y (args := [.slice a n cap]) (Rp := fun v h' => v = .bool true ∧ Sub h h') tys_ok mix Try.func5 rfl rfl hon ?_
  refine X_call (f := 1000) (C := fun _ => True) [] rfl rfl rfl rfl (fun r _ => awake_tr r) (fun _ _ => trivial) ?_
  rintro x L' ⟨rfl, rfl⟩
  refine X_call (f := 1000) (C := fun _ => True) [] rfl rfl rfl rfl (fun r _ => new_tr r) (fun _ _ => trivial) ?_
  rintro x L' ⟨p, mb, rfl, rfl⟩
  refine X_gF (f := 1000) rfl ⟨_, rfl, rfl⟩ rfl ?_
  refine X_mkmap (f := 1000) rfl fun fb => ?_
  refine X_asmap pairV (i := 2) rfl ?_
  refine X_loop (f := 1000) [6] [0, 4, 5] [0, 1, 2] (fun m vs L => ∃ (i : Nat) (E : List Ent), i ≤ n ∧ i ≤ 200 ∧ m = 200 - i ∧ E.length ≤ i ∧ (E.map fun e => (e.d, e.l)).Nodup ∧ vs = [.int .i64 i] ∧ L = ledH p mb E ++ [mapH pairV fb (entM E)])
    rfl rfl rfl ⟨0, [], by omega, by omega, rfl, by simp, by simp, rfl, rfl⟩ ?_
  rintro m vs L ⟨i, E, hi, hi2, rfl, hE, hnd, rfl, rfl⟩ ih
  refine X_g (f := 1000) rfl ⟨_, rfl, rfl⟩ (fun h2 => X_if (f := 1000) rfl ⟨_, rfl, rfl⟩ (fun h3 => ?body) (fun h3 => ?e2)) (fun h2 => ?e1)
  case body =>
    have hlt : i < n := by simpa using h2
    have hlt2 : i < 200 := by
      have : (i : Int) < 200 := by simpa using h3
      omega
    have hie : i < es.length := by rw [he.len]; exact hlt
    rcases he.rd with h0 | ⟨bb, o, rfl, hcell⟩
    · have h5 := flat_get es i hie 0 _ rfl; rw [h0] at h5; simp at h5
    have hce : ∀ j v, (es[i]).cells[j]? = some v → h.cell ⟨bb, o + i * 4 + j, none⟩ = some v := fun j v hj => by
      have := hcell _ _ (flat_get es i hie j v hj); rw [Nat.add_assoc]; exact this
    generalize es[i] = e at hce
    have ldE : ∀ h2, Sub h h2 → ldv tys h2 31 ⟨bb, o + i * 4, none⟩ = some (.agg e.cells.toArray) := fun h2 hs => ldv_agg (cl := e.cells) rfl rfl rfl rfl fun j v hj => Hp.cell_mono hs (hce j v hj)
    refine X_draw (f := 1000) [] [0, 1, 2, 3, 5, 6, 7, 8, 4, 9, 10, 11, 12] rfl rfl rfl (by decide +kernel) ?_
    refine X_idx (f := 1000) i rfl rfl rfl rfl hlt rfl rfl rfl rfl ?_
    refine X_idx (f := 1000) i rfl rfl rfl rfl hlt rfl rfl rfl rfl ?_
    refine X_loadR (f := 1000) rfl rfl (fun h2 hs => ldv_one rfl rfl rfl (Hp.cell_mono hs (hce 0 _ rfl))) ?_
    refine X_loadR (f := 1000) rfl rfl (fun h2 hs => ldv_one rfl rfl rfl (Hp.cell_mono hs (hce 1 _ rfl))) ?_
    refine X_alloc (f := 1000) rfl rfl fun b7 => ?_
    refine X_store (f := 1000) (i := 3) rfl rfl rfl rfl rfl rfl ?_
    refine X_load (f := 1000) (i := 3) rfl rfl rfl rfl ?_
    refine X_look (f := 1000) (i := 2) K36 (e.d, e.l) rfl rfl rfl rfl rfl rfl rfl rfl (fun v hv => ?_) (fun hn => ?_)
    · obtain ⟨e', rfl⟩ := aget_ent hv
      refine X_alloc (f := 1000) rfl rfl fun b8 => ?_
      refine X_store (f := 1000) (i := 4) rfl rfl rfl rfl rfl rfl ?_
      refine X_idx (f := 1000) i rfl rfl rfl rfl hlt rfl rfl rfl rfl ?_
      refine X_loadR (f := 1000) rfl rfl ldE ?_
      refine X_call (f := 1000) (C := fun _ => True) [0, 1] rfl rfl rfl rfl (fun r _ => record_tr p mb E e r) (fun _ _ => trivial) ?_
      rintro x L' ⟨hx, rfl⟩
      have hrec : recE E e = E := by simp [recE, hasB, hv]
      cases hr : e.right with
      | true =>
        have hx : x = .tuple #[.bool false, .int .i64 0] := by rw [hx]; simp [recV, hr, hasB, hv]
        subst hx
        refine X_idx (f := 1000) i rfl rfl rfl rfl hlt rfl rfl rfl rfl ?_
        refine X_loadR (f := 1000) rfl rfl ldE ?_
        refine X_call (f := 1000) (C := fun _ => True) [] rfl rfl rfl rfl (fun r _ => right10_tr e r) (fun _ _ => trivial) ?_
        rintro x L' ⟨hx, rfl⟩
        have hx : x = .bool true := by rw [hx, hr]
        subst hx
        refine X_neqB (f := 1000) rfl rfl rfl rfl rfl rfl rfl ?_
        refine X_gF (f := 1000) rfl ⟨_, rfl, rfl⟩ (by simp) ?_
        refine X_gT (f := 1000) rfl ⟨_, rfl, rfl⟩ (by simp) ?_
        refine X_neqB (f := 1000) rfl rfl rfl rfl rfl rfl rfl ?_
        refine X_ifF (f := 1000) rfl ⟨_, rfl, rfl⟩ (by simp) ?_
        refine X_ifF (f := 1000) rfl ⟨_, rfl, rfl⟩ rfl ?_
        refine X_ar (f := 1000) rfl rfl rfl (ar_add (by omega)) ?_
        refine X_again (f := 1000) [6] [0, 4, 5] [0, 1, 2] rfl rfl rfl ?_
        exact ih (200 - (i + 1)) _ _ (by omega) ⟨i + 1, E, by omega, by omega, rfl, by omega, hnd, rfl, by rw [hrec]; rfl⟩
      | false =>
        have hx : x = .tuple #[.bool false, .int .i64 1] := by rw [hx]; simp [recV, hr]
        subst hx
        refine X_idx (f := 1000) i rfl rfl rfl rfl hlt rfl rfl rfl rfl ?_
        refine X_loadR (f := 1000) rfl rfl ldE ?_
        refine X_call (f := 1000) (C := fun _ => True) [] rfl rfl rfl rfl (fun r _ => right10_tr e r) (fun _ _ => trivial) ?_
        rintro x L' ⟨hx, rfl⟩
        have hx : x = .bool false := by rw [hx, hr]
        subst hx
        refine X_neqB (f := 1000) rfl rfl rfl rfl rfl rfl rfl ?_
        refine X_gF (f := 1000) rfl ⟨_, rfl, rfl⟩ (by simp) ?_
        refine X_gF (f := 1000) rfl ⟨_, rfl, rfl⟩ rfl ?_
        refine X_neqB (f := 1000) rfl rfl rfl rfl rfl rfl rfl ?_
        refine X_ifF (f := 1000) rfl ⟨_, rfl, rfl⟩ (by simp) ?_
        refine X_ifF (f := 1000) rfl ⟨_, rfl, rfl⟩ rfl ?_
        refine X_ar (f := 1000) rfl rfl rfl (ar_add (by omega)) ?_
        refine X_again (f := 1000) [6] [0, 4, 5] [0, 1, 2] rfl rfl rfl ?_
        exact ih (200 - (i + 1)) _ _ (by omega) ⟨i + 1, E, by omega, by omega, rfl, by omega, hnd, rfl, by rw [hrec]; rfl⟩
    · refine X_alloc (f := 1000) rfl rfl fun b8 => ?_
      refine X_store (f := 1000) (i := 4) rfl rfl rfl rfl rfl rfl ?_
      refine X_idx (f := 1000) i rfl rfl rfl rfl hlt rfl rfl rfl rfl ?_
      refine X_loadR (f := 1000) rfl rfl ldE ?_
      refine X_call (f := 1000) (C := fun _ => True) [0, 1] rfl rfl rfl rfl (fun r _ => record_tr p mb E e r) (fun _ _ => trivial) ?_
      rintro x L' ⟨hx, rfl⟩
      cases hr : e.right with
      | true =>
        have hx : x = .tuple #[.bool true, .int .i64 0] := by rw [hx]; simp [recV, hr, hasB, hn]; omega
        subst hx
        have hset := recE_set hr hn (by omega)
        have hrec : recE E e = E ++ [e] := by simp [recE, hr, hasB, hn]; omega
        refine X_idx (f := 1000) i rfl rfl rfl rfl hlt rfl rfl rfl rfl ?_
        refine X_loadR (f := 1000) rfl rfl ldE ?_
        refine X_call (f := 1000) (C := fun _ => True) [] rfl rfl rfl rfl (fun r _ => right10_tr e r) (fun _ _ => trivial) ?_
        rintro x L' ⟨hx, rfl⟩
        have hx : x = .bool true := by rw [hx, hr]
        subst hx
        refine X_neqB (f := 1000) rfl rfl rfl rfl rfl rfl rfl ?_
        refine X_gF (f := 1000) rfl ⟨_, rfl, rfl⟩ (by simp) ?_
        refine X_gT (f := 1000) rfl ⟨_, rfl, rfl⟩ rfl ?_
        refine X_neqB (f := 1000) rfl rfl rfl rfl rfl rfl rfl ?_
        refine X_ifF (f := 1000) rfl ⟨_, rfl, rfl⟩ (by simp) ?_
        refine X_ifT (f := 1000) rfl ⟨_, rfl, rfl⟩ rfl ?_
        refine X_draw (f := 1000) [] [0, 2, 3, 4, 1, 5, 6] rfl rfl rfl (by decide +kernel) ?_
        refine X_idx (f := 1000) i rfl rfl rfl rfl hlt rfl rfl rfl rfl ?_
        refine X_load (f := 1000) (i := 3) rfl rfl rfl rfl ?_
        refine X_loadR (f := 1000) rfl rfl ldE ?_
        refine X_mapset (f := 1000) (i := 2) K36 (e.d, e.l) rfl rfl rfl rfl rfl rfl rfl rfl ?_
        refine X_ar (f := 1000) rfl rfl rfl (ar_add (by omega)) ?_
        refine X_again (f := 1000) [6] [0, 4, 5] [0, 1, 2] rfl rfl rfl ?_
        refine ih (200 - (i + 1)) _ _ (by omega) ⟨i + 1, recE E e, by omega, by omega, rfl, by rw [hrec]; simp; omega, ?_, rfl, by rw [← hset]; rfl⟩
        rw [hrec, List.map_append]
        refine List.nodup_append.2 ⟨hnd, by simp, fun x hx y hy => ?_⟩
        simp at hy; subst hy
        intro hxy
        have hne := aget_new hn
        obtain ⟨e2, he2, rfl⟩ := List.mem_map.1 hx
        exact hne (e2.d, e2.l) (by simp only [entM, List.map_map]; exact List.mem_map.2 ⟨e2, he2, rfl⟩) hxy
      | false =>
        have hrec : recE E e = E := by simp [recE, hr]
        have hx : x = .tuple #[.bool false, .int .i64 1] := by rw [hx]; simp [recV, hr]
        subst hx
        refine X_idx (f := 1000) i rfl rfl rfl rfl hlt rfl rfl rfl rfl ?_
        refine X_loadR (f := 1000) rfl rfl ldE ?_
        refine X_call (f := 1000) (C := fun _ => True) [] rfl rfl rfl rfl (fun r _ => right10_tr e r) (fun _ _ => trivial) ?_
        rintro x L' ⟨hx, rfl⟩
        have hx : x = .bool false := by rw [hx, hr]
        subst hx
        refine X_neqB (f := 1000) rfl rfl rfl rfl rfl rfl rfl ?_
        refine X_gF (f := 1000) rfl ⟨_, rfl, rfl⟩ (by simp) ?_
        refine X_gF (f := 1000) rfl ⟨_, rfl, rfl⟩ rfl ?_
        refine X_neqB (f := 1000) rfl rfl rfl rfl rfl rfl rfl ?_
        refine X_ifF (f := 1000) rfl ⟨_, rfl, rfl⟩ (by simp) ?_
        refine X_ifF (f := 1000) rfl ⟨_, rfl, rfl⟩ rfl ?_
        refine X_ar (f := 1000) rfl rfl rfl (ar_add (by omega)) ?_
        refine X_again (f := 1000) [6] [0, 4, 5] [0, 1, 2] rfl rfl rfl ?_
        exact ih (200 - (i + 1)) _ _ (by omega) ⟨i + 1, E, by omega, by omega, rfl, by omega, hnd, rfl, by rw [hrec]; rfl⟩
  all_goals
    refine X_call (f := 1000) (C := fun _ => True) [0, 1] rfl rfl rfl rfl (fun r _ => all_tr p mb E (by omega) r) (fun _ _ => trivial) ?_
    rintro x L' ⟨ys, a3, n3, c3, rfl, hperm, hsort, rfl⟩
    refine Y.ownLen (i := 3) rfl fun hlen => ?_
    have hn3 : n3 = ys.length := by rw [flatE_len] at hlen; omega
    have hpl := hperm.length_eq
    have hml : (entM E).length = E.length := by simp [entM]
    have hndy : (ys.map fun e => (e.d, e.l)).Nodup := ((hperm.map _).nodup_iff).2 hnd
    refine X_loop (f := 1000) [14] [5, 13] [2, 3] (fun m vs L => ∃ i : Nat, i ≤ n3 ∧ m = n3 - i ∧ vs = [.int .i64 i] ∧ L = [mapH pairV fb (entM E), ownS 31 4 a3 n3 c3 (flatE ys)])
      rfl rfl rfl ⟨0, by omega, rfl, rfl, rfl⟩ ?_
    rintro m vs L ⟨j, hj, rfl, rfl, rfl⟩ ih2
    refine X_if (f := 1000) rfl ⟨_, rfl, rfl⟩ (fun h4 => ?_) (fun h4 => ?_)
    · have hlt : j < n3 := by simpa using h4
      refine Y.ownAt (i := 1) rfl (fun _ h0 _ => by omega) fun g ha _ _ => ?_
      subst ha
      have hjy : j < ys.length := by omega
      have rd : ∀ (i : Nat) (hi : i < ys.length) (h h2 : Hp) (L2 : List HA), L2[1]? = some (ownS 31 4 (some ⟨g, 0, none⟩) n3 c3 (flatE ys)) → ∀ R, Sat R L2 h → Sub h h2 → ∀ k v, (ys[i]).cells[k]? = some v → h2.cell ⟨g, 0 + i * 4 + k, none⟩ = some v :=
        fun i hi h h2 L2 hL R hs hsub k v hk => rdFlat ((hs.ownRd hL).mono hsub) hi hk
      have hmem : ys[j] ∈ E := hperm.mem_iff.1 (List.getElem_mem hjy)
      refine X_draw (f := 1000) [] [0, 1, 2, 3, 4, 6, 7, 8, 9, 13, 14, 15, 5, 10, 11, 12, 16, 17] rfl rfl rfl (by decide +kernel) ?_
      refine X_idx (f := 1000) j rfl rfl rfl rfl hlt rfl rfl rfl rfl ?_
      refine X_idx (f := 1000) j rfl rfl rfl rfl hlt rfl rfl rfl rfl ?_
      refine X_idx (f := 1000) j rfl rfl rfl rfl hlt rfl rfl rfl rfl ?_
      refine X_loadG (f := 1000) rfl rfl (fun h h2 hs hsub => ldv_one rfl rfl rfl (rd j hjy h h2 _ rfl _ hs hsub 0 _ rfl)) ?_
      refine X_loadG (f := 1000) rfl rfl (fun h h2 hs hsub => ldv_one rfl rfl rfl (rd j hjy h h2 _ rfl _ hs hsub 1 _ rfl)) ?_
      refine X_look (f := 1000) (i := 0) K36 ((ys[j]).d, (ys[j]).l) rfl rfl rfl rfl rfl rfl rfl rfl (fun v hv => ?_) (fun hn => by rw [aget_mem hnd hmem] at hn; cases hn)
      rw [aget_mem hnd hmem] at hv
      cases hv
      refine X_loadG (f := 1000) rfl rfl (fun h h2 hs hsub => ldv_agg (cl := (ys[j]).cells) rfl rfl rfl rfl fun k v hk => rd j hjy h h2 _ rfl _ hs hsub k v hk) ?_
      refine X_neqS (f := 1000) (xs := [(ys[j]).d, (ys[j]).l, (ys[j]).v, (ys[j]).o]) (ys := [(ys[j]).d, (ys[j]).l, (ys[j]).v, (ys[j]).o]) rfl rfl rfl (eq31 _ _) guard31 ?_
      refine X_ifF (f := 1000) rfl ⟨_, rfl, rfl⟩ (by simp) ?_
      refine X_draw (f := 1000) [] [0, 1, 2, 3, 4, 5, 6, 7, 9, 10, 11, 12, 8, 13, 14, 15, 16, 17, 18, 19, 20, 22, 23, 24, 25, 21, 26, 27, 28, 29, 30, 31, 32, 33, 35, 36, 37, 38, 34, 39, 40, 41, 42, 43] rfl rfl rfl (by decide +kernel) ?_
      refine X_g (f := 1000) rfl ⟨_, rfl, rfl⟩ (fun h6 => ?_) (fun h6 => ?_)
      · have hj0 : 0 < j := by
          have : (0 : Int) < j := by simpa using h6
          omega
        have hjp : j - 1 < ys.length := by omega
        have hs1 := List.pairwise_iff_getElem.1 hsort (j - 1) j hjp hjy (by omega)
        rw [ltE_false] at hs1
        have hs2 : ¬ ((ys[j - 1]).d = (ys[j]).d ∧ (ys[j - 1]).l = (ys[j]).l) := by
          rintro ⟨e1, e2⟩
          have hnd2 := List.pairwise_iff_getElem.1 hndy (j - 1) j (by simpa using hjp) (by simpa using hjy) (by omega)
          apply hnd2
          simp [e1, e2]
        unfold entLt at hs1
        have rdp := rd (j - 1) hjp
        have rdj := rd j hjy
        generalize ys[j - 1] = q at hs1 hs2 rdp
        generalize ys[j] = z at hs1 hs2 rdj
        refine X_ar (f := 1000) rfl rfl rfl (ar_sub (by omega)) ?_
        refine X_idx (f := 1000) (j - 1) rfl rfl rfl (by omega) (by omega) rfl rfl rfl rfl ?_
        refine X_idx (f := 1000) j rfl rfl rfl rfl hlt rfl rfl rfl rfl ?_
        refine X_loadG (f := 1000) rfl rfl (fun h h2 hs hsub => ldv_one rfl rfl rfl (rdp h h2 _ rfl _ hs hsub 0 _ rfl)) ?_
        refine X_loadG (f := 1000) rfl rfl (fun h h2 hs hsub => ldv_one rfl rfl rfl (rdj h h2 _ rfl _ hs hsub 0 _ rfl)) ?_
        refine X_gF (f := 1000) rfl ⟨_, rfl, rfl⟩ (by simp; omega) ?_
        refine X_ar (f := 1000) rfl rfl rfl (ar_sub (by omega)) ?_
        refine X_idx (f := 1000) (j - 1) rfl rfl rfl (by omega) (by omega) rfl rfl rfl rfl ?_
        refine X_idx (f := 1000) j rfl rfl rfl rfl hlt rfl rfl rfl rfl ?_
        refine X_loadG (f := 1000) rfl rfl (fun h h2 hs hsub => ldv_one rfl rfl rfl (rdp h h2 _ rfl _ hs hsub 0 _ rfl)) ?_
        refine X_loadG (f := 1000) rfl rfl (fun h h2 hs hsub => ldv_one rfl rfl rfl (rdj h h2 _ rfl _ hs hsub 0 _ rfl)) ?_
        refine X_g (f := 1000) rfl ⟨_, rfl, rfl⟩ (fun h7 => ?_) (fun h7 => ?_)
        · have h7 : q.d = z.d := by simpa using h7
          refine X_ar (f := 1000) rfl rfl rfl (ar_sub (by omega)) ?_
          refine X_idx (f := 1000) (j - 1) rfl rfl rfl (by omega) (by omega) rfl rfl rfl rfl ?_
          refine X_idx (f := 1000) j rfl rfl rfl rfl hlt rfl rfl rfl rfl ?_
          refine X_loadG (f := 1000) rfl rfl (fun h h2 hs hsub => ldv_one rfl rfl rfl (rdp h h2 _ rfl _ hs hsub 1 _ rfl)) ?_
          refine X_loadG (f := 1000) rfl rfl (fun h h2 hs hsub => ldv_one rfl rfl rfl (rdj h h2 _ rfl _ hs hsub 1 _ rfl)) ?_
          refine X_ifF (f := 1000) rfl ⟨_, rfl, rfl⟩ (by simp; omega) ?_
          refine X_ar (f := 1000) rfl rfl rfl (ar_add (by omega)) ?_
          refine X_again (f := 1000) [14] [5, 13] [0, 1] rfl rfl rfl ?_
          exact ih2 (n3 - (j + 1)) _ _ (by omega) ⟨j + 1, by omega, rfl, rfl, rfl⟩
        · refine X_ar (f := 1000) rfl rfl rfl (ar_add (by omega)) ?_
          refine X_again (f := 1000) [14] [5, 13] [0, 1] rfl rfl rfl ?_
          exact ih2 (n3 - (j + 1)) _ _ (by omega) ⟨j + 1, by omega, rfl, rfl, rfl⟩
      · refine X_ar (f := 1000) rfl rfl rfl (ar_add (by omega)) ?_
        refine X_again (f := 1000) [14] [5, 13] [0, 1] rfl rfl rfl ?_
        exact ih2 (n3 - (j + 1)) _ _ (by omega) ⟨j + 1, by omega, rfl, rfl, rfl⟩
    · have hjn : j = n3 := by
        have : ¬ (j < n3) := by simpa using h4
        omega
      refine X_maplen (f := 1000) (i := 0) rfl rfl rfl rfl rfl ?_
      refine X_ret (f := 1000) rfl rfl Try.func5 rfl fun h' hs => ⟨?_, hs.sub⟩
      simp [tupV, SV.den, hml]; omega
end Go.Proofs.Ytlfldhnmbjgdnaa
