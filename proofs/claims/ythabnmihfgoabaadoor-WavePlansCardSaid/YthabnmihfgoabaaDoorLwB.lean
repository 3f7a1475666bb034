/-
  Lemmas for the walk: how the machine steps, and what each step needs; no condition.
-/
import Derived.Test.YthabnmihfgoabaaDoorLwA
import Derived.Shelf.SlSortCmp.NoneTotal
import Derived.Test.YthabnmihfgoabaaDoorEngD
namespace Go.Proofs.YthabnmihfgoabaaDoor
open Go Go.Eng
set_option maxRecDepth 100000

def sortInt_ren : Go.Shelf.Ren := ⟨fun | 6 => 24 | 15 => 33 | 14 => 32 | 28 => 45 | 29 => 46 | 20 => 37 | 21 => 38 | 22 => 39 | 23 => 40 | 24 => 41 | 25 => 42 | 26 => 43 | 27 => 44 | 46 => 48 | 47 => 49 | 48 => 50 | 49 => 51 | 50 => 52 | 57 => 54 | n => n, fun | 22 => 22 | 24 => 3 | 25 => 53 | 3 => 3 | 39 => 57 | 0 => 0 | 53 => 45 | 55 => 73 | 4 => 4 | 46 => 65 | 45 => 64 | 50 => 69 | 5 => 5 | 9 => 9 | 66 => 74 | 70 => 78 | 76 => 80 | 77 => 81 | n => n, fun | n => n⟩
theorem sortInt : Go.Proofs.SlLaysF.n6 Tryd.prog sortInt_ren where
  mixed := by kernel_rfl
  f6 := ⟨ "slices.SortFunc[[]int,int]", by decide, Tryd.func24.trans (congrArg some (by kernel_rfl))⟩
  f14 := ⟨ "slices.pdqsortCmpFunc[int]", by decide, Tryd.func32.trans (congrArg some (by kernel_rfl))⟩
  f15 := Tryd.func33.trans (congrArg some (by kernel_rfl))
  f20 := ⟨ "slices.insertionSortCmpFunc[int]", by decide, Tryd.func37.trans (congrArg some (by kernel_rfl))⟩
  f21 := ⟨ "slices.heapSortCmpFunc[int]", by decide, Tryd.func38.trans (congrArg some (by kernel_rfl))⟩
  f22 := ⟨ "slices.breakPatternsCmpFunc[int]", by decide, Tryd.func39.trans (congrArg some (by kernel_rfl))⟩
  f23 := ⟨ "slices.choosePivotCmpFunc[int]", by decide, Tryd.func40.trans (congrArg some (by kernel_rfl))⟩
  f24 := ⟨ "slices.reverseRangeCmpFunc[int]", by decide, Tryd.func41.trans (congrArg some (by kernel_rfl))⟩
  f25 := ⟨ "slices.partialInsertionSortCmpFunc[int]", by decide, Tryd.func42.trans (congrArg some (by kernel_rfl))⟩
  f26 := ⟨ "slices.partitionEqualCmpFunc[int]", by decide, Tryd.func43.trans (congrArg some (by kernel_rfl))⟩
  f27 := ⟨ "slices.partitionCmpFunc[int]", by decide, Tryd.func44.trans (congrArg some (by kernel_rfl))⟩
  f28 := Tryd.func45.trans (congrArg some (by kernel_rfl))
  f29 := Tryd.func46.trans (congrArg some (by kernel_rfl))
  f46 := ⟨ "slices.siftDownCmpFunc[int]", by decide, Tryd.func48.trans (congrArg some (by kernel_rfl))⟩
  f47 := Tryd.func49.trans (congrArg some (by kernel_rfl))
  f48 := Tryd.func50.trans (congrArg some (by kernel_rfl))
  f49 := ⟨ "slices.medianAdjacentCmpFunc[int]", by decide, Tryd.func51.trans (congrArg some (by kernel_rfl))⟩
  f50 := ⟨ "slices.medianCmpFunc[int]", by decide, Tryd.func52.trans (congrArg some (by kernel_rfl))⟩
  f57 := ⟨ "slices.order2CmpFunc[int]", by decide, Tryd.func54.trans (congrArg some (by kernel_rfl))⟩
  t0 := Tryd.underlying0
  a0 := Tryd.isAgg0
  z0 := Tryd.sizeOf0
  v0 := Tryd.zeroValue0
  t3 := Tryd.underlying3
  a3 := Tryd.isAgg3
  z3 := Tryd.sizeOf3
  v3 := Tryd.zeroValue3
  t4 := Tryd.underlying4
  a4 := Tryd.isAgg4
  z4 := Tryd.sizeOf4
  v4 := Tryd.zeroValue4
  t5 := Tryd.underlying5
  a5 := Tryd.isAgg5
  z5 := Tryd.sizeOf5
  v5 := Tryd.zeroValue5
  t9 := Tryd.underlying9
  a9 := Tryd.isAgg9
  z9 := Tryd.sizeOf9
  v9 := Tryd.zeroValue9
  t22 := Tryd.underlying22
  a22 := Tryd.isAgg22
  z22 := Tryd.sizeOf22
  v22 := Tryd.zeroValue22
  a24 := Tryd.isAgg3
  z24 := Tryd.sizeOf3
  t25 := Tryd.underlying53
  a25 := Tryd.isAgg53
  z25 := Tryd.sizeOf53
  v25 := Tryd.zeroValue53
  t39 := Tryd.underlying57
  a39 := Tryd.isAgg57
  z39 := Tryd.sizeOf57
  v39 := Tryd.zeroValue57
  t45 := Tryd.underlying64
  a45 := Tryd.isAgg64
  z45 := Tryd.sizeOf64
  v45 := Tryd.zeroValue64
  t46 := Tryd.underlying65
  a46 := Tryd.isAgg65
  z46 := Tryd.sizeOf65
  v46 := Tryd.zeroValue65
  t50 := Tryd.underlying69
  a50 := Tryd.isAgg69
  z50 := Tryd.sizeOf69
  v50 := Tryd.zeroValue69
  t53 := Tryd.underlying45
  a53 := Tryd.isAgg45
  z53 := Tryd.sizeOf45
  v53 := Tryd.zeroValue45
  t55 := Tryd.underlying73
  a55 := Tryd.isAgg73
  z55 := Tryd.sizeOf73
  v55 := Tryd.zeroValue73
  t66 := Tryd.underlying74
  a66 := Tryd.isAgg74
  z66 := Tryd.sizeOf74
  v66 := Tryd.zeroValue74
  t70 := Tryd.underlying78
  a70 := Tryd.isAgg78
  z70 := Tryd.sizeOf78
  v70 := Tryd.zeroValue78
  t76 := Tryd.underlying80
  a76 := Tryd.isAgg80
  z76 := Tryd.sizeOf80
  v76 := Tryd.zeroValue80
  t77 := Tryd.underlying81
  a77 := Tryd.isAgg81
  z77 := Tryd.sizeOf81
  v77 := Tryd.zeroValue81
end Go.Proofs.YthabnmihfgoabaaDoor
namespace Go.Proofs.YthabnmihfgoabaaDoor
open Go Go.Eng
set_option maxRecDepth 100000

abbrev encI : Int → Value := fun a => Value.int .i64 a
theorem K3 : KL Tryd.prog 3 encI := KL.int Tryd.underlying3

def lotsM (lot : Int → Nat) (ds : List Int) : List (Int × Value) := ds.foldl (fun m d => aset d (.int .u32 (lot d : Nat)) m) []
theorem lotsM_snoc (lot : Int → Nat) (ds : List Int) (d : Int) : lotsM lot (ds ++ [d]) = aset d (.int .u32 (lot d : Nat)) (lotsM lot ds) := by simp [lotsM]
theorem lotsM_ok (lot : Int → Nat) : ∀ (n : Nat) (ds : List Int), ds.length = n → ((lotsM lot ds).map (·.1)).Nodup ∧ (∀ x, x ∈ (lotsM lot ds).map (·.1) ↔ x ∈ ds) ∧ ∀ d, aget d (lotsM lot ds) = if d ∈ ds then some (.int .u32 (lot d : Nat)) else none := by
  intro n
  induction n with
  | zero => intro xs h; have : xs = [] := List.length_eq_zero_iff.1 h; subst this; simp [lotsM, aget]
  | succ n ih =>
    intro xs h
    have hne : xs ≠ [] := by rintro rfl; simp at h
    obtain ⟨ys, y, rfl⟩ : ∃ ys y, xs = ys ++ [y] := ⟨xs.dropLast, xs.getLast hne, (List.dropLast_concat_getLast hne).symm⟩
    obtain ⟨h1, h2, h3⟩ := ih ys (by simpa using h)
    rw [lotsM_snoc]
    refine ⟨nodup_aset h1, fun x => ?_, fun d => ?_⟩
    · rw [mem_keys_aset, h2]; simp; exact or_comm
    · rw [aget_aset, h3]
      by_cases hd : y = d
      · subst hd; simp
      · rw [if_neg hd]
        have : d ∈ ys ++ [y] ↔ d ∈ ys := by simp; intro hh; exact absurd hh.symm hd
        simp only [this]
theorem lotsM_len (lot : Int → Nat) : ∀ (n : Nat) (ds : List Int), ds.length = n → (lotsM lot ds).length ≤ ds.length ∧ ((lotsM lot ds).length = ds.length ↔ ds.Nodup) := by
  intro n
  induction n with
  | zero => intro xs h; have : xs = [] := List.length_eq_zero_iff.1 h; subst this; simp [lotsM]
  | succ n ih =>
    intro xs h
    have hne : xs ≠ [] := by rintro rfl; simp at h
    obtain ⟨ys, y, rfl⟩ : ∃ ys y, xs = ys ++ [y] := ⟨xs.dropLast, xs.getLast hne, (List.dropLast_concat_getLast hne).symm⟩
    obtain ⟨h1, h2⟩ := ih ys (by simpa using h)
    have hk := (lotsM_ok lot _ ys rfl).2.1 y
    have hl : (lotsM lot (ys ++ [y])).length = ((lotsM lot (ys ++ [y])).map (·.1)).length := by simp
    rw [hl, lotsM_snoc, keys_aset]
    by_cases hy : y ∈ ys
    · rw [if_pos (hk.2 hy)]
      refine ⟨by simp; omega, ⟨fun h => by simp at h; omega, fun h => ?_⟩⟩
      have := (List.nodup_append.1 h).2.2 y hy y (by simp)
      exact absurd rfl this
    · rw [if_neg (fun hh => hy (hk.1 hh))]
      refine ⟨by simp; omega, ⟨fun h => ?_, fun h => ?_⟩⟩
      · refine List.nodup_append.2 ⟨h2.1 (by simpa using h), by simp, fun x hx z hz => ?_⟩
        simp at hz; subst hz
        rintro rfl; exact hy hx
      · have := h2.2 (List.nodup_append.1 h).1
        simp; omega

def lotZ (lot : Int → Nat) (ds : List Int) (d : Int) : Nat := if d ∈ ds then lot d else 0
theorem lotsM_look (lot : Int → Nat) (ds : List Int) (d : Int) : lookV false (.int .u32 0) (aget d (lotsM lot ds)) = .int .u32 (lotZ lot ds d : Nat) := by
  rw [(lotsM_ok lot _ ds rfl).2.2 d]
  unfold lotZ
  split <;> rfl

def cmpL (lz : Int → Nat) (x y : Int) : Int := orI [cmpI (lz x) (lz y), cmpI x y]

theorem cmp25 (R : Hp) (cb mb : Nat) (lz : Int → Nat) (kvs : List (Int × Value)) (hcell : R cb = some (.cells #[.map (some mb)] 44 (0, 0))) (hmap : MapIn encI R mb kvs)
    (hkv : ∀ d, lookV false (.int .u32 0) (aget d kvs) = .int .u32 (lz d : Nat)) (x y : Int) (w : World) (hR : ∀ k o, R k = some o → w.heap[k]? = some o) :
    Calls Tryd.prog 25 (#[encI x, encI y] ++ #[.pointer (some ⟨cb, 0, none⟩)]) w fun e w' => e = .returned (.int .i64 (cmpL lz x y)) ∧ ∃ q os', w' = Sort.grow (w.drewN q) os' := by
  have hsub : Sub R (fun b => w.heap[b]?) := hR
  have hm2 := hmap.mono hsub
  have hc2 : Hp.cell (fun b => w.heap[b]?) ⟨cb, 0, none⟩ = some (Value.map (some mb)) := by
    have := hsub _ _ hcell
    simp only [Hp.cell, this]; rfl
  refine (calls_of_Y (args := [encI x, encI y, .pointer (some ⟨cb, 0, none⟩)]) (h := fun b => w.heap[b]?) (Rp := fun v h' => v = .int .i64 (cmpL lz x y) ∧ Sub (fun b => w.heap[b]?) h') tys_ok mix Tryd.func25 rfl rfl (fun _ => rfl) ?_).mono
    fun e w' ⟨v, h', he, ⟨hv, hs⟩, ho, hk⟩ => ⟨by rw [he, hv], grown_of (fun _ => rfl) ho hs hk⟩
  refine X_loadR (f := 1000) rfl rfl (fun h hs => ldv_one rfl rfl rfl (Hp.cell_mono hs (by simpa using hc2))) ?_
  refine X_lookRV (f := 1000) K3 x _ rfl rfl rfl rfl hm2 rfl rfl rfl (hkv x) ?_
  refine X_loadR (f := 1000) rfl rfl (fun h hs => ldv_one rfl rfl rfl (Hp.cell_mono hs (by simpa using hc2))) ?_
  refine X_lookRV (f := 1000) K3 y _ rfl rfl rfl rfl hm2 rfl rfl rfl (hkv y) ?_
  refine X_call (f := 1000) (C := fun _ => True) [] rfl rfl rfl rfl (fun r _ => compareU_tr _ _ r) (fun _ _ => trivial) ?_
  rintro v L' ⟨rfl, rfl⟩
  refine X_call (f := 1000) (C := fun _ => True) [] rfl rfl rfl rfl (fun r _ => compare_tr _ _ r) (fun _ _ => trivial) ?_
  rintro v L' ⟨rfl, rfl⟩
  refine X_mkslice (f := 1000) rfl rfl rfl rfl rfl rfl rfl fun b3 => ?_
  refine X_call (f := 1000) (C := fun r => IntsIn r (some ⟨b3, 0, none⟩) 2 [cmpI (lz x) (lz y), cmpI x y]) [] rfl rfl rfl rfl (fun r hr => or_tr _ _ _ _ r hr) (fun r hr => ⟨rfl, RdAt.of_block (hr.get (i := 0) rfl) ⟨[], rfl⟩, by omega⟩) ?_
  rintro v L' ⟨rfl, rfl⟩
  refine X_ret (f := 1000) rfl rfl Tryd.func25 rfl fun h' hs => ⟨rfl, hs.sub⟩
end Go.Proofs.YthabnmihfgoabaaDoor
namespace Go.Proofs.YthabnmihfgoabaaDoor
open Go Go.Eng
set_option maxRecDepth 100000

def byteN (n : Int) : Nat := (IntKind.u8.wrap n).toNat
theorem u8_wrap (n : Int) : IntKind.u8.wrap n = n % 256 := by simp [IntKind.wrap, IntKind.bits, IntKind.signed]
theorem byteN_lt (n : Int) : byteN n < 256 := by unfold byteN; rw [u8_wrap]; omega
theorem byteN_val (n : Int) : ((byteN n : Nat) : Int) = IntKind.u8.wrap n := by unfold byteN; rw [u8_wrap]; omega
def bsOf (n : Int) : List Nat := [byteN n, byteN (shr n 8), byteN (shr n 16), byteN (shr n 24)]
theorem bsOf_map (n : Int) : (bsOf n).map (fun (b : Nat) => Value.int .u8 (b : Int)) = numB n := by simp [bsOf, numB, byteN_val]
theorem bsOf_lt (n : Int) : ∀ b ∈ bsOf n, b < 256 := by
  intro b hb; simp [bsOf] at hb; rcases hb with rfl | rfl | rfl | rfl <;> exact byteN_lt _
def lotN (st : List Nat) (c d : Int) : Nat := crcL st (11994318 &&& 16777215) (bsOf c ++ bsOf d)

def toN (p : Int) (n : Nat) : Nat := ((p * n + 99) / 100).toNat
def cuts (o : List Int) : Nat → List Int → List (List Int)
  | _, [] => []
  | fr, p :: r => (o.take (toN p o.length)).drop fr :: cuts o (toN p o.length) r

theorem incL_le : ∀ (xs : List Int) (z t : Int), incL z xs = some t → z ≤ t
  | [], z, t, h => by simp only [incL, Option.some.injEq] at h; omega
  | x :: r, z, t, h => by
    simp only [incL] at h
    split at h
    · cases h
    · have := incL_le r x t h; omega
theorem mul_mono {z p : Int} {n : Nat} (h : z ≤ p) : z * n ≤ p * n := Int.mul_le_mul_of_nonneg_right h (by omega)

theorem IntsIn.sub {R : Hp} {a : Option Addr} {n cp fr to : Nat} {xs : List Int} (h : IntsIn R a n xs) (h1 : fr ≤ to) (h2 : to ≤ n) (h3 : n ≤ cp) :
    IntsIn R (if ((cp : Nat) : Int).toNat = ((fr : Nat) : Int).toNat then a else a.map (·.add (((fr : Nat) : Int).toNat * 1))) (((to : Nat) : Int).toNat - ((fr : Nat) : Int).toNat) ((xs.take to).drop fr) := by
  have hl := h.len
  have hsm := h.small
  simp only [Int.toNat_natCast, Nat.mul_one]
  refine ⟨by rw [List.length_drop, List.length_take]; omega, ?_, by omega⟩
  by_cases hc : cp = fr
  · rw [if_pos hc]
    left
    have : ((xs.take to).drop fr).length = 0 := by rw [List.length_drop, List.length_take]; omega
    rw [List.eq_nil_of_length_eq_zero this]; rfl
  · rw [if_neg hc]
    rcases h.rd with h0 | ⟨b, o, rfl, hr⟩
    · left
      have : xs = [] := by simpa using h0
      subst this; simp
    · right
      refine ⟨b, o + fr, by simp [add_pl], fun j v hj => ?_⟩
      have hj2 : (xs.map iV)[fr + j]? = some v := by
        rw [List.getElem?_map] at hj ⊢
        rw [List.getElem?_drop] at hj
        have hlt : fr + j < to := by
          by_cases hh : fr + j < to
          · exact hh
          · rw [List.getElem?_take, if_neg hh] at hj; simp at hj
        rw [List.getElem?_take, if_pos hlt] at hj
        exact hj
      have := hr _ _ hj2
      rw [Nat.add_assoc]; exact this

theorem ownS_le {e size n cp : Nat} {a : Option Addr} {xs : List Value} {m : Hp} (h : (ownS e size a n cp xs).den m) : n ≤ cp := by
  obtain ⟨h1, h2⟩ := h
  rcases h2 with ⟨rfl, rfl, rfl, -⟩ | ⟨g, cur, rfl, rfl, h3, h4, h5, h6⟩
  · exact Nat.le_refl _
  · exact h3

structure PlanOk (c : Int) (ds ps : List Int) : Prop where
  lo : 1 ≤ c
  hi : c ≤ 1073741824
  rt : rightP ps = true
  odd : ds.any oddD = false
def keyLt (lot : Int → Nat) (x y : Int) : Prop := lot x < lot y ∨ (lot x = lot y ∧ x < y)
structure PlanIs (lot : Int → Nat) (ds ps o : List Int) (xss : List (List Int)) : Prop where
  perm : o.Perm ds
  sort : o.Pairwise (fun x y => ¬ keyLt lot y x)
  cut : xss = cuts o 0 ps

def planErr (e : Int) : Value := .tuple #[.slice none 0 0, .int .i64 e]
inductive PlanQ (lot : Int → Nat) (c : Int) (ds ps : List Int) : Value → List HA → Prop
  | bad (h : ¬ PlanOk c ds ps) : PlanQ lot c ds ps (planErr 1) []
  | twice (h : PlanOk c ds ps) (h2 : ¬ ds.Nodup) : PlanQ lot c ds ps (planErr 5) []
  | fine (h : PlanOk c ds ps) (h2 : ds.Nodup) {o xss a n cp vs} (hp : PlanIs lot ds ps o xss) (hn : n = ps.length) :
      PlanQ lot c ds ps (.tuple #[.slice a n cp, .int .i64 0]) [ownS 22 1 a n cp (vs.map slV), innersH vs xss]

theorem cmpL_lt (lz : Int → Nat) (x y : Int) : Go.Proofs.ltOf (cmpL lz) x y = true ↔ keyLt lz x y := by
  unfold Go.Proofs.ltOf cmpL keyLt orI cmpI orI orI
  simp only [decide_eq_true_eq]
  by_cases h1 : (lz x : Int) < lz y
  · have : lz x < lz y := by omega
    simp [h1, this]
  · by_cases h2 : (lz y : Int) < lz x
    · simp [h1, h2]; omega
    · have h3 : lz x = lz y := by omega
      by_cases h4 : x < y
      · simp [h3, h4]
      · by_cases h5 : y < x
        · simp [h3, h4, h5]
        · simp [h3, h4, h5]
theorem cmpL_false (lz : Int → Nat) (x y : Int) : Go.Proofs.ltOf (cmpL lz) x y = false ↔ ¬ keyLt lz x y := by rw [← cmpL_lt]; simp
theorem swoL (lz : Int → Nat) : Sort.SWO (Go.Proofs.ltOf (cmpL lz)) where
  irrefl x := by rw [cmpL_false]; unfold keyLt; omega
  trans x y z h1 h2 := by rw [cmpL_lt] at *; unfold keyLt at *; omega
  ntrans x y z h1 h2 := by rw [cmpL_false] at *; unfold keyLt at *; omega

theorem sort_tr (R : Hp) (cb mb : Nat) (lz : Int → Nat) (kvs : List (Int × Value)) (hcell : R cb = some (.cells #[.map (some mb)] 44 (0, 0))) (hmap : MapIn encI R mb kvs)
    (hkv : ∀ d, lookV false (.int .u32 0) (aget d kvs) = .int .u32 (lz d : Nat)) (a : Option Addr) (n cp : Nat) (xs : List Int) (hn : n < 4611686018427387904) :
    Tr Tryd.prog 24 [.slice a n cp, .func (.func 25) #[] #[.pointer (some ⟨cb, 0, none⟩)]] R [ownS 3 1 a n cp (xs.map encI)]
      fun _ L' => ∃ es' : List Int, es'.Perm xs ∧ es'.Pairwise (fun x y => Go.Proofs.ltOf (cmpL lz) y x = false) ∧ L' = [ownS 3 1 a n cp (es'.map encI)] :=
  Tr.sort1 sortInt ⟨_, Tryd.func24, rfl, rfl⟩ encI (fun _ => rfl) (cmpL lz) (swoL lz) 25 _ (Go.Proofs.enters_of Tryd.func25 (by kernel_rfl) rfl) R
    (fun x y w hR => cmp25 R cb mb lz kvs hcell hmap hkv x y w hR) (fun p cap fv w => Go.Proofs.AnyF.slices_SortFunc_none { sortInt with } p cap fv w) 3 n cp a xs hn

theorem plan_tr (st : List Nat) (c : Int) (a1 : Option Addr) (n1 c1 : Nat) (ds : List Int) (a2 : Option Addr) (n2 c2 : Nat) (ps : List Int) (R : Hp)
    (hd : IntsIn R a1 n1 ds) (hp : IntsIn R a2 n2 ps) (hn : n1 ≤ 500) (hn2 : n2 ≤ 100) (hst : StepsIn R st) :
    Tr Tryd.prog 11 [.int .i64 c, .slice a1 n1 c1, .slice a2 n2 c2] R [] (PlanQ (lotN st c) c ds ps) := by
  have hl1 := hd.len
  have hl2 := hp.len
  refine Tr.intro tys_ok mix Tryd.func11 rfl rfl rfl ?_
  refine X_g (f := 1000) rfl ⟨_, rfl, rfl⟩ (fun h1 => ?_) (fun h1 => ?_)
  · have h1 : c < 1 := by simpa using h1
    refine X_ret (f := 1000) rfl rfl Tryd.func11 rfl fun h' hs => ⟨_, .bad (fun h => by have := h.lo; omega), hs.pick0 []⟩
  refine X_g (f := 1000) rfl ⟨_, rfl, rfl⟩ (fun h2 => ?_) (fun h2 => ?_)
  · have h2 : 1073741824 < c := by simpa using h2
    refine X_ret (f := 1000) rfl rfl Tryd.func11 rfl fun h' hs => ⟨_, .bad (fun h => by have := h.hi; omega), hs.pick0 []⟩
  have h1 : ¬ c < 1 := by simpa using h1
  have h2 : ¬ 1073741824 < c := by simpa using h2
  refine X_call (f := 1000) (C := fun r => Sub R r) [] rfl rfl rfl rfl (fun r hr => right_tr a2 n2 c2 ps r (hp.mono hr)) (fun r hr => hr.sub) ?_
  rintro v L' ⟨rfl, rfl⟩
  refine X_g (f := 1000) rfl ⟨_, rfl, rfl⟩ (fun h3 => ?_) (fun h3 => ?_)
  · have h3 : rightP ps = false := by simpa using h3
    refine X_ret (f := 1000) rfl rfl Tryd.func11 rfl fun h' hs => ⟨_, .bad (fun h => by have := h.rt; rw [h3] at this; cases this), hs.pick0 []⟩
  have h3 : rightP ps = true := by simpa using h3
  refine X_call (f := 1000) (C := fun r => Sub R r) [] rfl rfl rfl rfl (fun r hr => containsFunc_tr a1 n1 c1 ds _ oddD r (hd.mono hr) (fun x r' _ => TrV.of (odd_tr x r'))) (fun r hr => hr.sub) ?_
  rintro v L' ⟨rfl, rfl⟩
  refine X_if (f := 1000) rfl ⟨_, rfl, rfl⟩ (fun h4 => ?_) (fun h4 => ?_)
  · refine X_ret (f := 1000) rfl rfl Tryd.func11 rfl fun h' hs => ⟨_, .bad (fun h => by have := h.odd; rw [h4] at this; cases this), hs.pick0 []⟩
  have h4 : ds.any oddD = false := by simpa using h4
  have hok : PlanOk c ds ps := ⟨by omega, by omega, h3, h4⟩
  refine X_mkmap (f := 1000) rfl fun mb => ?_
  refine X_alloc (f := 1000) rfl rfl fun cb => ?_
  refine X_store (f := 1000) (i := 1) rfl rfl rfl rfl rfl rfl ?_
  refine X_asmap encI (i := 0) rfl ?_
  refine X_loop (f := 1000) [37] [0, 1, 2, 9, 35, 36] [0, 1] (fun m vs L => ∃ i : Nat, i ≤ n1 ∧ m = n1 - i ∧ vs = [.int .i64 i] ∧ L = [mapH encI mb (lotsM (lotN st c) (ds.take i)), .pt cb (.cells #[.map (some mb)] 44 (0, 0))]) rfl rfl rfl ⟨0, by omega, rfl, rfl, rfl⟩ ?_
  rintro m vs L ⟨i, hi, rfl, rfl, rfl⟩ ih
  refine X_if (f := 1000) rfl ⟨_, rfl, rfl⟩ (fun h5 => ?_) (fun h5 => ?_)
  · have hlt : i < n1 := by simpa using h5
    obtain ⟨b, o, rfl, hxi, hcell⟩ := hd.at hlt
    have htk : ds.take (i + 1) = ds.take i ++ [ds[i]] := (List.take_append_getElem hxi).symm
    generalize ds[i] = x at hcell htk
    refine X_idx (f := 1000) i rfl rfl rfl rfl (hlt) rfl rfl rfl rfl ?_
    refine X_loadR (f := 1000) rfl rfl (fun h hs => ldv_one rfl rfl rfl (Hp.cell_mono hs (by simpa using hcell))) ?_
    refine X_draw (f := 1000) [3, 5, 6, 7] [1, 2, 4, 0, 3, 5, 6, 7, 8] rfl rfl rfl (by decide +kernel) ?_
    refine X_load (f := 1000) (i := 1) rfl rfl rfl rfl ?_
    refine X_callE (f := 1000) (C := fun _ => True) rfl rfl rfl (fun r _ => number_tr c r) (fun _ _ _ _ => trivial) ?_
    rintro v L' ⟨b1, rfl, rfl⟩
    refine X_callE (f := 1000) (C := fun _ => True) rfl rfl rfl (fun r _ => number_tr x r) (fun _ _ _ _ => trivial) ?_
    rintro v L' ⟨b2, rfl, rfl⟩
    refine X_appendE (f := 1000) (m := 4) (size := 1) (numB c) (numB x) rfl rfl rfl rfl rfl rfl rfl rfl (by omega) rfl rfl (by omega) (by show (4 + 4) * 1 ≤ _; omega) (by omega) (by omega) (fun h => by cases h)
      (fun A h hs => RdAt.of_block (hs.get (i := 3) rfl) ⟨[], rfl⟩) (fun A h hs => RdAt.of_block (hs.get (i := 4) rfl) ⟨[], rfl⟩) fun a' c' => ?_
    have hmap : (bsOf c ++ bsOf x).map (fun (b : Nat) => Value.int .u8 (b : Int)) = numB c ++ numB x := by rw [List.map_append, bsOf_map, bsOf_map]
    refine X_callE (f := 1000) (C := fun r => RdAt r a' (numB c ++ numB x) ∧ Sub R r) rfl rfl rfl
      (fun r hr => sum_tr st a' (4 + 4) c' (bsOf c ++ bsOf x) r rfl (fun b hb => by rcases List.mem_append.1 hb with h | h; exact bsOf_lt _ _ h; exact bsOf_lt _ _ h) (by rw [hmap]; exact hr.1) (by omega) ⟨hst.len, hst.lt, fun i hi => Hp.cell_mono hr.2 (hst.cell i hi)⟩)
      (fun h r hs hsub => ⟨(hs.ownRd (i := 4) rfl).mono hsub, hs.sub.trans hsub⟩) ?_
    rintro v L' ⟨rfl, rfl⟩
    refine X_mapset (f := 1000) (i := 0) K3 x rfl rfl rfl rfl rfl rfl rfl rfl ?_
    refine X_ar (f := 1000) rfl rfl rfl (ar_add (by omega)) ?_
    refine X_again (f := 1000) [37] [0, 1, 2, 9, 35, 36] [0, 1] rfl rfl rfl ?_
    refine ih (n1 - (i + 1)) _ _ (by omega) ⟨i + 1, by omega, rfl, rfl, ?_⟩
    rw [htk, lotsM_snoc]; rfl
  have hin : i = n1 := by
    have : ¬ (i < n1) := by simpa using h5
    omega
  have htk : ds.take i = ds := List.take_of_length_le (by omega)
  rw [htk]
  obtain ⟨hle, hnd⟩ := lotsM_len (lotN st c) _ ds rfl
  refine X_load (f := 1000) (i := 1) rfl rfl rfl rfl ?_
  refine X_maplen (f := 1000) (i := 0) rfl rfl rfl rfl rfl ?_
  refine X_if (f := 1000) rfl ⟨_, rfl, rfl⟩ (fun h6 => ?_) (fun h6 => ?_)
  · have h6 : (lotsM (lotN st c) ds).length < n1 := by simpa using h6
    refine X_ret (f := 1000) rfl rfl Tryd.func11 rfl fun h' hs => ⟨_, .twice hok (fun h => by have := hnd.2 h; omega), hs.pick0 []⟩
  have h6 : ¬ (lotsM (lotN st c) ds).length < n1 := by simpa using h6
  have hnd2 : ds.Nodup := hnd.1 (by omega)
  refine X_call (f := 1000) (C := fun r => Sub R r) [] rfl rfl rfl rfl (fun r hr => clone_tr a1 n1 c1 ds r (hd.mono hr) (by omega)) (fun r hr => hr.sub) ?_
  rintro v L' ⟨a3, c3, rfl, rfl⟩
  refine X_call (f := 1000) (C := fun r => r cb = some (.cells #[.map (some mb)] 44 (0, 0)) ∧ MapIn encI r mb (lotsM (lotN st c) ds)) [2] rfl rfl rfl rfl
    (fun r hr => sort_tr r cb mb (lotZ (lotN st c) ds) (lotsM (lotN st c) ds) hr.1 hr.2 (lotsM_look (lotN st c) ds) a3 n1 c3 ds (by omega)) (fun r hr => ⟨hr.get (i := 1) rfl, hr.map (i := 0) rfl⟩) ?_
  rintro v L' ⟨o, hperm, hsort, rfl⟩
  refine Y.toRead (i := 2) rfl fun m R' hm hR' hmR' => ?_
  have hordI : IntsIn R' a3 n1 o := ⟨by rw [hperm.length_eq, hl1], (ownS_rd hm).mono hmR', by omega⟩
  have hc3 := ownS_le hm
  have hol : o.length = n1 := hordI.len
  have hpR := hp.mono hR'
  refine Y.addE (ownS_nil 22 1) ?_
  refine Y.addE (A := innersH [] []) ⟨rfl, fun j v xs h => by simp at h⟩ ?_
  have hrp := h3
  simp only [rightP, decide_eq_true_eq] at hrp
  refine X_loop (f := 1000) [13, 14, 62] [12, 60, 61] [3, 4] (fun m vs L => ∃ (i fr k cp : Nat) (a : Option Addr) (z : Int) (ws : List (Option Addr × Nat × Nat)) (xss : List (List Int)), i ≤ n2 ∧ k = i ∧ m = n2 - i ∧ fr = toN z n1 ∧ 0 ≤ z ∧ incL z (ps.drop i) = some 100 ∧ cuts o 0 ps = xss ++ cuts o fr (ps.drop i) ∧ vs = [.slice a k cp, .int .i64 fr, .int .i64 i] ∧ L = [ownS 22 1 a k cp (ws.map slV), innersH ws xss]) rfl rfl rfl
    ⟨0, 0, 0, 0, none, 0, [], [], by omega, rfl, rfl, by simp [toN], by omega, hrp.2.2, rfl, rfl, rfl⟩ ?_
  rintro m vs L ⟨i2, fr, k, cp, a, z, ws, xss, hi2, rfl, rfl, hfr, hz, hinc, hcut, rfl, rfl⟩ ih2
  refine X_if (f := 1000) rfl ⟨_, rfl, rfl⟩ (fun h7 => ?_) (fun h7 => ?_)
  · have hlt : k < n2 := by simpa using h7
    obtain ⟨b, oo, rfl, hxi, hcell⟩ := hpR.at hlt
    have hdrop : ps.drop k = ps[k] :: ps.drop (k + 1) := List.drop_eq_getElem_cons hxi
    generalize ps[k] = p at hcell hdrop
    rw [hdrop] at hinc hcut
    simp only [incL] at hinc
    have hzp : ¬ p ≤ z := fun hh => by rw [if_pos hh] at hinc; cases hinc
    rw [if_neg hzp] at hinc
    have hp100 := incL_le _ _ _ hinc
    have hm1 : z * (n1 : Int) ≤ p * n1 := mul_mono (by omega)
    have hm2 : p * (n1 : Int) ≤ 100 * n1 := mul_mono (by omega)
    have hm0 : 0 ≤ z * (n1 : Int) := Int.mul_nonneg hz (by omega)
    have hto : (p * (n1 : Int) + 100 - 1) / 100 = ((toN p n1 : Nat) : Int) := by unfold toN; omega
    have hfrto : fr ≤ toN p n1 := by rw [hfr]; unfold toN; omega
    have hton : toN p n1 ≤ n1 := by unfold toN; omega
    refine X_idx (f := 1000) k rfl rfl rfl rfl (hlt) rfl rfl rfl rfl ?_
    refine X_loadR (f := 1000) rfl rfl (fun h hs => ldv_one rfl rfl rfl (Hp.cell_mono hs (by simpa using hcell))) ?_
    refine X_ar (f := 1000) rfl rfl rfl (ar_mul (by omega)) ?_
    refine X_ar (f := 1000) rfl rfl rfl (ar_add (by omega)) ?_
    refine X_ar (f := 1000) rfl rfl rfl (ar_sub (by omega)) ?_
    refine X_ar (f := 1000) rfl rfl rfl (show arI .quo .i64 _ _ = some ((toN p n1 : Nat) : Int) from by rw [ar_quo (by omega), hto]) ?_
    refine X_slice (f := 1000) rfl rfl rfl rfl rfl rfl rfl rfl (.inl rfl) (by omega) rfl ?_
    refine X_call (f := 1000) (C := fun r => Sub R' r) [] rfl rfl rfl rfl (fun r hr => clone_tr _ _ _ _ r ((IntsIn.sub hordI hfrto hton hc3).mono (hr)) (by omega)) (fun r hr => hr.sub) ?_
    rintro v L' ⟨a4, c4, rfl, rfl⟩
    refine X_mkslice (f := 1000) rfl rfl rfl rfl rfl rfl rfl fun b4 => ?_
    refine X_append (f := 1000) (i := 0) [.slice a4 (((toN p n1 : Nat) : Int).toNat - ((fr : Nat) : Int).toNat) c4] rfl rfl rfl rfl rfl rfl rfl rfl rfl (by omega) rfl (by omega) rfl (by show _ * 24 ≤ _; omega) (by omega)
      (fun A h hs => RdAt.of_block (hs.get (i := 4) rfl) ⟨[], rfl⟩) fun a' c' => ?_
    refine Y.join (i := 1) (j := 2) (C := innersH (ws ++ [(a4, ((toN p n1 : Nat) : Int).toNat - ((fr : Nat) : Int).toNat, c4)]) (xss ++ [(o.take (toN p n1)).drop fr])) (by omega) rfl rfl ?_ ?_
    · rintro m1 m2 m hA hB hdj hs1 hs2 hmm
      exact innersH_snoc hA hB hs1 hs2
    refine X_ar (f := 1000) rfl rfl rfl (ar_add (by omega)) ?_
    refine X_again (f := 1000) [13, 14, 62] [12, 60, 61] [0, 1] rfl rfl rfl ?_
    refine ih2 (n2 - (k + 1)) _ _ (by omega) ⟨k + 1, toN p n1, k + 1, c', a', p, ws ++ [(a4, ((toN p n1 : Nat) : Int).toNat - ((fr : Nat) : Int).toNat, c4)], xss ++ [(o.take (toN p n1)).drop fr], by omega, rfl, rfl, rfl, by omega, hinc, ?_, rfl, ?_⟩
    · rw [hcut, List.append_assoc]; simp [cuts, hol]
    · rw [List.map_append]; rfl
  have hin2 : k = n2 := by
    have : ¬ (k < n2) := by simpa using h7
    omega
  rw [List.drop_eq_nil_of_le (by omega), cuts, List.append_nil] at hcut
  have hsort2 : o.Pairwise (fun x y => ¬ keyLt (lotN st c) y x) := by
    refine hsort.imp_of_mem ?_
    intro x y hx hy hxy
    rw [cmpL_false] at hxy
    have e : ∀ x ∈ o, lotZ (lotN st c) ds x = lotN st c x := fun x hx => by unfold lotZ; rw [if_pos (hperm.mem_iff.1 hx)]
    unfold keyLt at hxy ⊢
    rw [e x hx, e y hy] at hxy
    exact hxy
  refine X_ret (f := 1000) rfl rfl Tryd.func11 rfl fun h' hs => ⟨_, PlanQ.fine hok hnd2 (o := o) (xss := xss) ⟨hperm, hsort2, hcut.symm⟩ (by omega), (hs.pick0 [0, 1]).low hR'⟩
end Go.Proofs.YthabnmihfgoabaaDoor
