/-
  Lemmas for the walk: how the machine steps, and what each step needs; no condition.
-/
import Derived.Test.YthabnmihfgoabaaDoorLwC
import Derived.Test.YthabnmihfgoabaaDoorLwD
namespace Go.Proofs.YthabnmihfgoabaaDoor
open Go Go.Eng
set_option maxRecDepth 100000

theorem list_eq_of {α : Type} {xs ys : List α} {n : Nat} (h1 : xs.length = n) (h2 : ys.length = n) (h : ∀ j, j < n → xs[j]? = ys[j]?) : xs = ys := by
  apply List.ext_getElem?
  intro j
  by_cases hj : j < n
  · exact h j hj
  · rw [List.getElem?_eq_none (by omega), List.getElem?_eq_none (by omega)]

theorem sameInts_tr (a1 : Option Addr) (n1 c1 : Nat) (xs : List Int) (a2 : Option Addr) (n2 c2 : Nat) (ys : List Int) (R : Hp) (h1 : IntsIn R a1 n1 xs) (h2 : IntsIn R a2 n2 ys) :
    Tr Tryd.prog 18 [.slice a1 n1 c1, .slice a2 n2 c2] R [] fun v L' => v = .bool (decide (xs = ys)) ∧ L' = [] := by
  have hl1 := h1.len
  have hl2 := h2.len
  have hs1 := h1.small
  refine Tr.intro tys_ok mix Tryd.func18 rfl rfl rfl ?_
  refine X_if (f := 1000) rfl ⟨_, rfl, rfl⟩ (fun e1 => ?_) (fun e1 => ?_)
  · have e1 : ¬ n1 = n2 := by
      intro hh; subst hh; simp at e1
    have : ¬ xs = ys := by intro hh; rw [hh] at hl1; omega
    refine X_ret (f := 1000) rfl rfl Tryd.func18 rfl fun h' hs => ⟨_, ⟨by simp [tupV, SV.den, this], rfl⟩, hs.pick0 []⟩
  have e1 : n1 = n2 := by
    have : (n1 : Int) = n2 := by simpa using e1
    omega
  subst e1
  refine X_loop (f := 1000) [5] [0, 1] [] (fun m vs L => ∃ i : Nat, i ≤ n1 ∧ m = n1 - i ∧ (∀ j, j < i → xs[j]? = ys[j]?) ∧ vs = [.int .i64 i] ∧ L = []) rfl rfl rfl ⟨0, by omega, rfl, fun j hj => by omega, rfl, rfl⟩ ?_
  rintro m vs L ⟨i, hi, rfl, hsame, rfl, rfl⟩ ih
  refine X_if (f := 1000) rfl ⟨_, rfl, rfl⟩ (fun e2 => ?_) (fun e2 => ?_)
  · have hlt : i < n1 := by simpa using e2
    obtain ⟨b, o, rfl, hx1, hc1⟩ := h1.at hlt
    obtain ⟨b', o', rfl, hx2, hc2⟩ := h2.at hlt
    refine X_draw (f := 1000) [] [0, 1, 2, 4, 5, 6, 3, 7, 8] rfl rfl rfl (by decide +kernel) ?_
    refine X_idx (f := 1000) i rfl rfl rfl rfl (hlt) rfl rfl rfl rfl ?_
    refine X_idx (f := 1000) i rfl rfl rfl rfl (hlt) rfl rfl rfl rfl ?_
    refine X_loadR (f := 1000) rfl rfl (fun h hs => ldv_one rfl rfl rfl (Hp.cell_mono hs (by simpa using hc1))) ?_
    refine X_loadR (f := 1000) rfl rfl (fun h hs => ldv_one rfl rfl rfl (Hp.cell_mono hs (by simpa using hc2))) ?_
    refine X_if (f := 1000) rfl ⟨_, rfl, rfl⟩ (fun e3 => ?_) (fun e3 => ?_)
    · have e3 : ¬ xs[i] = ys[i] := by simpa using e3
      have : ¬ xs = ys := by rintro rfl; exact e3 rfl
      refine X_ret (f := 1000) rfl rfl Tryd.func18 rfl fun h' hs => ⟨_, ⟨by simp [tupV, SV.den, this], rfl⟩, hs.pick0 []⟩
    have e3 : xs[i] = ys[i] := by simpa using e3
    refine X_ar (f := 1000) rfl rfl rfl (ar_add (by omega)) ?_
    refine X_again (f := 1000) [5] [0, 1] [] rfl rfl rfl ?_
    refine ih (n1 - (i + 1)) _ _ (by omega) ⟨i + 1, by omega, rfl, fun j hj => ?_, rfl, rfl⟩
    by_cases hji : j = i
    · subst hji; simp [hx1, hx2, e3]
    · exact hsame j (by omega)
  have hin : i = n1 := by
    have : ¬ (i < n1) := by simpa using e2
    omega
  subst hin
  have : xs = ys := list_eq_of hl1 hl2 hsame
  refine X_ret (f := 1000) rfl rfl Tryd.func18 rfl fun h' hs => ⟨_, ⟨by simp [tupV, SV.den, this], rfl⟩, hs.pick0 []⟩

theorem same_tr (a1 : Option Addr) (n1 c1 : Nat) (vs1 : List (Option Addr × Nat × Nat)) (xss : List (List Int)) (a2 : Option Addr) (n2 c2 : Nat) (vs2 : List (Option Addr × Nat × Nat)) (yss : List (List Int)) (R : Hp)
    (h1 : ListsIn R a1 n1 vs1 xss) (h2 : ListsIn R a2 n2 vs2 yss) :
    Tr Tryd.prog 13 [.slice a1 n1 c1, .slice a2 n2 c2] R [] fun v L' => v = .bool (decide (xss = yss)) ∧ L' = [] := by
  have hl1 := h1.lx
  have hl2 := h2.lx
  have hs1 := h1.small
  have hml : maxLen = 9223372036854775807 := rfl
  refine Tr.intro tys_ok mix Tryd.func13 rfl rfl rfl ?_
  refine X_if (f := 1000) rfl ⟨_, rfl, rfl⟩ (fun e1 => ?_) (fun e1 => ?_)
  · have e1 : ¬ n1 = n2 := by
      intro hh; subst hh; simp at e1
    have : ¬ xss = yss := by intro hh; rw [hh] at hl1; omega
    refine X_ret (f := 1000) rfl rfl Tryd.func13 rfl fun h' hs => ⟨_, ⟨by simp [tupV, SV.den, this], rfl⟩, hs.pick0 []⟩
  have e1 : n1 = n2 := by
    have : (n1 : Int) = n2 := by simpa using e1
    omega
  subst e1
  refine X_loop (f := 1000) [5] [0, 1] [] (fun m vs L => ∃ i : Nat, i ≤ n1 ∧ m = n1 - i ∧ (∀ j, j < i → xss[j]? = yss[j]?) ∧ vs = [.int .i64 i] ∧ L = []) rfl rfl rfl ⟨0, by omega, rfl, fun j hj => by omega, rfl, rfl⟩ ?_
  rintro m vs L ⟨i, hi, rfl, hsame, rfl, rfl⟩ ih
  refine X_if (f := 1000) rfl ⟨_, rfl, rfl⟩ (fun e2 => ?_) (fun e2 => ?_)
  · have hlt : i < n1 := by simpa using e2
    obtain ⟨b, o, rfl, v1, xs, hv1, hx1, hc1, hI1⟩ := h1.at hlt
    obtain ⟨b', o', rfl, v2, ys, hv2, hx2, hc2, hI2⟩ := h2.at hlt
    obtain ⟨va, vn, vc⟩ := v1
    obtain ⟨wa, wn, wc⟩ := v2
    have hI1' : IntsIn R va vn xs := hI1
    have hI2' : IntsIn R wa wn ys := hI2
    have k1 := hI1'.len
    have k2 := hI2'.len
    have k3 := hI1'.small
    refine X_draw (f := 1000) [] [0, 1, 2, 5, 6, 7, 3, 4, 8, 9, 10] rfl rfl rfl (by decide +kernel) ?_
    refine X_idx (f := 1000) i rfl rfl rfl rfl (hlt) rfl rfl rfl rfl ?_
    refine X_idx (f := 1000) i rfl rfl rfl rfl (hlt) rfl rfl rfl rfl ?_
    refine X_loadR (f := 1000) rfl rfl (fun h hs => ldv_one rfl rfl rfl (Hp.cell_mono hs (by simpa using hc1))) ?_
    refine X_loadR (f := 1000) rfl rfl (fun h hs => ldv_one rfl rfl rfl (Hp.cell_mono hs (by simpa using hc2))) ?_
    refine X_if (f := 1000) rfl ⟨_, rfl, rfl⟩ (fun e3 => ?_) (fun e3 => ?_)
    · have e3 : ¬ vn = wn := by
        intro hh; subst hh; simp at e3
      have : ¬ xss = yss := by
        rintro rfl
        rw [hx1] at hx2; cases hx2; omega
      refine X_ret (f := 1000) rfl rfl Tryd.func13 rfl fun h' hs => ⟨_, ⟨by simp [tupV, SV.den, this], rfl⟩, hs.pick0 []⟩
    have e3 : vn = wn := by
      have : (vn : Int) = wn := by simpa using e3
      omega
    subst e3
    refine X_loop (f := 1000) [6] [0, 1, 5] [] (fun m vs L => ∃ j : Nat, j ≤ vn ∧ m = vn - j ∧ (∀ k, k < j → xs[k]? = ys[k]?) ∧ vs = [.int .i64 j] ∧ L = []) rfl rfl rfl ⟨0, by omega, rfl, fun j hj => by omega, rfl, rfl⟩ ?_
    rintro m vs L ⟨j, hj, rfl, hsame2, rfl, rfl⟩ ih2
    refine X_idx (f := 1000) i rfl rfl rfl rfl (hlt) rfl rfl rfl rfl ?_
    refine X_loadR (f := 1000) rfl rfl (fun h hs => ldv_one rfl rfl rfl (Hp.cell_mono hs (by simpa using hc1))) ?_
    refine X_if (f := 1000) rfl ⟨_, rfl, rfl⟩ (fun e4 => ?_) (fun e4 => ?_)
    · have hlt2 : j < vn := by simpa using e4
      obtain ⟨d, q, rfl, hy1, hd1⟩ := hI1'.at hlt2
      obtain ⟨d', q', rfl, hy2, hd2⟩ := hI2'.at hlt2
      refine X_draw (f := 1000) [] [0, 1, 2, 4, 7, 8, 9, 11, 3, 5, 6, 10, 12, 13, 14] rfl rfl rfl (by decide +kernel) ?_
      refine X_idx (f := 1000) i rfl rfl rfl rfl (hlt) rfl rfl rfl rfl ?_
      refine X_idx (f := 1000) i rfl rfl rfl rfl (hlt) rfl rfl rfl rfl ?_
      refine X_loadR (f := 1000) rfl rfl (fun h hs => ldv_one rfl rfl rfl (Hp.cell_mono hs (by simpa using hc1))) ?_
      refine X_idx (f := 1000) j rfl rfl rfl rfl (hlt2) rfl rfl rfl rfl ?_
      refine X_loadR (f := 1000) rfl rfl (fun h hs => ldv_one rfl rfl rfl (Hp.cell_mono hs (by simpa using hd1))) ?_
      refine X_loadR (f := 1000) rfl rfl (fun h hs => ldv_one rfl rfl rfl (Hp.cell_mono hs (by simpa using hc2))) ?_
      refine X_idx (f := 1000) j rfl rfl rfl rfl (hlt2) rfl rfl rfl rfl ?_
      refine X_loadR (f := 1000) rfl rfl (fun h hs => ldv_one rfl rfl rfl (Hp.cell_mono hs (by simpa using hd2))) ?_
      refine X_if (f := 1000) rfl ⟨_, rfl, rfl⟩ (fun e5 => ?_) (fun e5 => ?_)
      · have e5 : ¬ xs[j] = ys[j] := by simpa using e5
        have : ¬ xss = yss := by
          rintro rfl
          rw [hx1] at hx2; cases hx2; exact e5 rfl
        refine X_ret (f := 1000) rfl rfl Tryd.func13 rfl fun h' hs => ⟨_, ⟨by simp [tupV, SV.den, this], rfl⟩, hs.pick0 []⟩
      have e5 : xs[j] = ys[j] := by simpa using e5
      refine X_ar (f := 1000) rfl rfl rfl (ar_add (by omega)) ?_
      refine X_again (f := 1000) [6] [0, 1, 5] [] rfl rfl rfl ?_
      refine ih2 (vn - (j + 1)) _ _ (by omega) ⟨j + 1, by omega, rfl, fun k hk => ?_, rfl, rfl⟩
      by_cases hkj : k = j
      · subst hkj; simp [hy1, hy2, e5]
      · exact hsame2 k (by omega)
    have hjn : j = vn := by
      have : ¬ (j < vn) := by simpa using e4
      omega
    subst hjn
    have hxy : xs = ys := list_eq_of k1 k2 hsame2
    refine X_ar (f := 1000) rfl rfl rfl (ar_add (by omega)) ?_
    refine X_again (f := 1000) [5] [0, 1] [] rfl rfl rfl ?_
    refine ih (n1 - (i + 1)) _ _ (by omega) ⟨i + 1, by omega, rfl, fun j hj => ?_, rfl, rfl⟩
    by_cases hji : j = i
    · subst hji; rw [hx1, hx2, hxy]
    · exact hsame j (by omega)
  have hin : i = n1 := by
    have : ¬ (i < n1) := by simpa using e2
    omega
  subst hin
  have : xss = yss := list_eq_of hl1 hl2 hsame
  refine X_ret (f := 1000) rfl rfl Tryd.func13 rfl fun h' hs => ⟨_, ⟨by simp [tupV, SV.den, this], rfl⟩, hs.pick0 []⟩

/-! ### The plans, plainly -/
theorem keyLt_tri (lot : Int → Nat) (x y : Int) (h1 : ¬ keyLt lot x y) (h2 : ¬ keyLt lot y x) : x = y := by
  unfold keyLt at h1 h2; omega
theorem sorted_uniq {lot : Int → Nat} {o o' : List Int} (hp : o.Perm o') (h1 : o.Pairwise (fun x y => ¬ keyLt lot y x)) (h2 : o'.Pairwise (fun x y => ¬ keyLt lot y x)) : o = o' :=
  List.Perm.eq_of_pairwise (le := fun x y => ¬ keyLt lot y x) (fun a b _ _ h3 h4 => keyLt_tri lot a b h4 h3) h1 h2 hp
end Go.Proofs.YthabnmihfgoabaaDoor
namespace Go.Proofs.YthabnmihfgoabaaDoor
open Go Go.Eng
set_option maxRecDepth 100000

theorem cuts_perm {lot : Int → Nat} {ds ds' ps o o' : List Int} {xss xss' : List (List Int)} (h : PlanIs lot ds ps o xss) (h' : PlanIs lot ds' ps o' xss') (hp : ds.Perm ds') : xss = xss' := by
  have : o = o' := sorted_uniq (h.perm.trans (hp.trans h'.perm.symm)) h.sort h'.sort
  rw [h.cut, h'.cut, this]
theorem planOk_perm {c : Int} {ds ds' ps : List Int} (hp : ds.Perm ds') : PlanOk c ds ps → PlanOk c ds' ps := fun h =>
  ⟨h.lo, h.hi, h.rt, by
    have := h.odd
    rw [List.any_eq_false] at this ⊢
    exact fun x hx => this x (hp.mem_iff.2 hx)⟩

theorem turned (st : List Nat) (c : Int) (a1 : Option Addr) (n1 c1 : Nat) (ds : List Int) (a2 : Option Addr) (n2 c2 : Nat) (ps : List Int) (w : World) (hp : Hp) (hon : On w hp) (hd : IntsIn hp a1 n1 ds) (hq : IntsIn hp a2 n2 ps) (hst : StepsIn hp st) :
    Calls Tryd.prog 6 #[.int .i64 c, .slice a1 n1 c1, .slice a2 n2 c2] w fun e w' => ∃ v h', e = .returned v ∧ (v = .bool true ∧ Sub hp h') ∧ On w' h' ∧ Keep w w' := by
  have hl1 := hd.len
  refine calls_of_Y (args := [.int .i64 c, .slice a1 n1 c1, .slice a2 n2 c2]) (Rp := fun v h' => v = .bool true ∧ Sub hp h') tys_ok mix Tryd.func6 rfl rfl hon ?_
  refine X_call (f := 1000) (C := fun r => Sub hp r) [] rfl rfl rfl rfl (fun r hr => awake_tr st r ⟨hst.len, hst.lt, fun i hi => Hp.cell_mono hr (hst.cell i hi)⟩) (fun r hr => hr.sub) ?_
  rintro v L' ⟨rfl, rfl⟩
  refine X_gF (f := 1000) rfl ⟨_, rfl, rfl⟩ rfl ?_
  refine X_g (f := 1000) rfl ⟨_, rfl, rfl⟩ (fun h1 => ?_) (fun h1 => ?_)
  · refine X_ret (f := 1000) rfl rfl Tryd.func6 rfl fun h' hs => ⟨rfl, hs.sub⟩
  have h1 : ¬ (500 : Int) < n1 := by simpa using h1
  refine X_if (f := 1000) rfl ⟨_, rfl, rfl⟩ (fun h2 => ?_) (fun h2 => ?_)
  · refine X_ret (f := 1000) rfl rfl Tryd.func6 rfl fun h' hs => ⟨rfl, hs.sub⟩
  have h2 : ¬ (100 : Int) < n2 := by simpa using h2
  refine Y.addE (ownS_nil 3 1) ?_
  refine X_ar (f := 1000) rfl rfl rfl (ar_sub (by omega)) ?_
  refine X_loop (f := 1000) [8, 9] [0, 1, 2, 7] [0] (fun m vs L => ∃ (i cp : Nat) (a : Option Addr), i ≤ n1 ∧ m = n1 - i ∧ vs = [.slice a i cp, .int .i64 ((n1 : Int) - 1 - i)] ∧ L = [ownS 3 1 a i cp ((ds.reverse.take i).map iV)]) rfl rfl rfl
    ⟨0, 0, none, by omega, rfl, by simp [SV.den], rfl⟩ ?_
  rintro m vs L ⟨i, cp, a, hi, rfl, rfl, rfl⟩ ih
  refine X_if (f := 1000) rfl ⟨_, rfl, rfl⟩ (fun h3 => ?_) (fun h3 => ?_)
  · have hlt : i < n1 := by
      have : 0 ≤ (n1 : Int) - 1 - i := by simpa using h3
      omega
    obtain ⟨b, o, rfl, hx, hcell⟩ := hd.at (i := n1 - 1 - i) (by omega)
    have htk : ds.reverse.take (i + 1) = ds.reverse.take i ++ [ds[n1 - 1 - i]] := by
      have hri : i < ds.reverse.length := by simp; omega
      rw [← List.take_append_getElem hri]
      simp only [List.getElem_reverse]
      congr 3
      omega
    generalize ds[n1 - 1 - i] = x at hcell htk
    refine X_idx (f := 1000) (n1 - 1 - i) rfl rfl rfl (by omega) ((by omega)) rfl rfl rfl rfl ?_
    refine X_loadR (f := 1000) rfl rfl (fun h hs => ldv_one rfl rfl rfl (Hp.cell_mono hs (by simpa using hcell))) ?_
    refine X_mkslice (f := 1000) rfl rfl rfl rfl rfl rfl rfl fun b1 => ?_
    refine X_append (f := 1000) (i := 0) [iV x] rfl rfl rfl rfl rfl rfl rfl rfl rfl (by omega) rfl (by omega) rfl (by show _ * 8 ≤ _; omega) (by omega)
      (fun A h hs => RdAt.of_block (hs.get (i := 2) rfl) ⟨[], rfl⟩) fun a' c' => ?_
    refine X_ar (f := 1000) rfl rfl rfl (ar_sub (by omega)) ?_
    refine X_again (f := 1000) [8, 9] [0, 1, 2, 7] [0] rfl rfl rfl ?_
    refine ih (n1 - (i + 1)) _ _ (by omega) ⟨i + 1, c', a', by omega, rfl, ?_, ?_⟩
    · simp [SV.den]; omega
    · rw [htk, List.map_append]; rfl
  have hin : i = n1 := by
    have : ¬ 0 ≤ (n1 : Int) - 1 - i := by simpa using h3
    omega
  subst hin
  rw [List.take_of_length_le (by simp; omega)]
  refine Y.toRead (i := 0) rfl fun mm R1 hmm hR1 hmR => ?_
  have hd1 := hd.mono hR1
  have hq1 := hq.mono hR1
  have hrev : IntsIn R1 a i ds.reverse := ⟨by simp [hl1], (ownS_rd hmm).mono hmR, by omega⟩
  have hperm : ds.reverse.Perm ds := List.reverse_perm ds
  have hst1 : StepsIn R1 st := ⟨hst.len, hst.lt, fun i hi => Hp.cell_mono hR1 (hst.cell i hi)⟩
  refine X_call (f := 1000) (C := fun r => Sub R1 r) [] rfl rfl rfl rfl (fun r hr => plan_tr st c a1 i c1 ds a2 n2 c2 ps r (hd1.mono hr) (hq1.mono hr) (by omega) (by omega) ⟨hst.len, hst.lt, fun i hi => Hp.cell_mono hr (hst1.cell i hi)⟩) (fun r hr => hr.sub) ?_
  rintro v L' hp1
  cases hp1 with
  | bad hb =>
    refine X_call (f := 1000) (C := fun r => Sub R1 r) [] rfl rfl rfl rfl (fun r hr => plan_tr st c a i cp ds.reverse a2 n2 c2 ps r (hrev.mono hr) (hq1.mono hr) (by omega) (by omega) ⟨hst.len, hst.lt, fun i hi => Hp.cell_mono hr (hst1.cell i hi)⟩) (fun r hr => hr.sub) ?_
    rintro v L' hp2
    cases hp2 with
    | bad hb2 =>
      refine X_call (f := 1000) (C := fun _ => True) [] rfl rfl rfl rfl (fun r _ => same_tr none 0 0 [] [] none 0 0 [] [] r ⟨rfl, rfl, Nat.zero_le _, .inl rfl, fun j v xs h _ => by simp at h⟩ ⟨rfl, rfl, Nat.zero_le _, .inl rfl, fun j v xs h _ => by simp at h⟩) (fun _ _ => trivial) ?_
      rintro v L' ⟨rfl, rfl⟩
      refine X_gT (f := 1000) rfl ⟨_, rfl, rfl⟩ rfl ?_
      refine X_ret (f := 1000) rfl rfl Tryd.func6 rfl fun h' hs => ⟨by simp [tupV, SV.den], hR1.trans hs.sub⟩
    | twice h _ => exact absurd (planOk_perm hperm h) hb
    | fine h _ _ _ => exact absurd (planOk_perm hperm h) hb
  | twice hk hnd =>
    refine X_call (f := 1000) (C := fun r => Sub R1 r) [] rfl rfl rfl rfl (fun r hr => plan_tr st c a i cp ds.reverse a2 n2 c2 ps r (hrev.mono hr) (hq1.mono hr) (by omega) (by omega) ⟨hst.len, hst.lt, fun i hi => Hp.cell_mono hr (hst1.cell i hi)⟩) (fun r hr => hr.sub) ?_
    rintro v L' hp2
    cases hp2 with
    | bad hb2 => exact absurd (planOk_perm hperm.symm hk) hb2
    | twice h _ =>
      refine X_call (f := 1000) (C := fun _ => True) [] rfl rfl rfl rfl (fun r _ => same_tr none 0 0 [] [] none 0 0 [] [] r ⟨rfl, rfl, Nat.zero_le _, .inl rfl, fun j v xs h _ => by simp at h⟩ ⟨rfl, rfl, Nat.zero_le _, .inl rfl, fun j v xs h _ => by simp at h⟩) (fun _ _ => trivial) ?_
      rintro v L' ⟨rfl, rfl⟩
      refine X_gT (f := 1000) rfl ⟨_, rfl, rfl⟩ rfl ?_
      refine X_ret (f := 1000) rfl rfl Tryd.func6 rfl fun h' hs => ⟨by simp [tupV, SV.den], hR1.trans hs.sub⟩
    | fine h h2 _ _ => exact absurd (hperm.nodup_iff.1 h2) hnd
  | fine hk hnd hpl hn =>
    rename_i o xss a3 n3 c3 vs
    refine Y.lists (i := 1) (j := 2) (by omega) rfl rfl fun R2 hR2 hL2 => ?_
    have hrev2 := hrev.mono hR2
    have hq2 := hq1.mono hR2
    have hst2 : StepsIn R2 st := ⟨hst.len, hst.lt, fun i hi => Hp.cell_mono hR2 (hst1.cell i hi)⟩
    refine X_call (f := 1000) (C := fun r => Sub R2 r) [] rfl rfl rfl rfl (fun r hr => plan_tr st c a i cp ds.reverse a2 n2 c2 ps r (hrev2.mono hr) (hq2.mono hr) (by omega) (by omega) ⟨hst.len, hst.lt, fun i hi => Hp.cell_mono hr (hst2.cell i hi)⟩) (fun r hr => hr.sub) ?_
    rintro v L' hp2
    cases hp2 with
    | bad hb2 => exact absurd (planOk_perm hperm.symm hk) hb2
    | twice h h2 => exact absurd (hperm.nodup_iff.2 hnd) h2
    | fine h h2 hpl2 hn2 =>
      rename_i o2 xss2 a4 n4 c4 vs2
      refine Y.lists (i := 3) (j := 4) (by omega) rfl rfl fun R3 hR3 hL3 => ?_
      have hL2' := hL2.mono hR3
      have hxx : xss = xss2 := cuts_perm hpl hpl2 hperm.symm
      refine X_call (f := 1000) (C := fun r => Sub R3 r) [] rfl rfl rfl rfl (fun r hr => same_tr _ _ c3 _ _ _ _ c4 _ _ r (hL2'.mono hr) (hL3.mono hr)) (fun r hr => hr.sub) ?_
      rintro v L' ⟨rfl, rfl⟩
      rw [decide_eq_true hxx]
      refine X_gT (f := 1000) rfl ⟨_, rfl, rfl⟩ rfl ?_
      refine X_ret (f := 1000) rfl rfl Tryd.func6 rfl fun h' hs => ⟨by simp [tupV, SV.den], hR1.trans (hR2.trans (hR3.trans hs.sub))⟩
end Go.Proofs.YthabnmihfgoabaaDoor
namespace Go.Proofs.YthabnmihfgoabaaDoor
open Go Go.Eng
set_option maxRecDepth 100000

theorem cuts_cons (o : List Int) (fr : Nat) (p : Int) (r : List Int) : cuts o fr (p :: r) = (o.take (toN p o.length)).drop fr :: cuts o (toN p o.length) r := rfl
theorem take_snoc {α : Type} {o : List α} {k : Nat} (h : k < o.length) : o.take (k + 1) = o.take k ++ [o[k]] := (List.take_append_getElem h).symm
theorem setM_len {o : List Int} (h : o.Nodup) : (setM o).length = o.length := by
  obtain ⟨h1, h2, -⟩ := setM_ok o
  have := len_of_same h1 h h2
  simpa using this

theorem allW (st : List Nat) (c : Int) (a1 : Option Addr) (n1 c1 : Nat) (ds : List Int) (a2 : Option Addr) (n2 c2 : Nat) (ps : List Int) (w : World) (hp : Hp) (hon : On w hp) (hd : IntsIn hp a1 n1 ds) (hq : IntsIn hp a2 n2 ps) (hst : StepsIn hp st) :
    Calls Tryd.prog 5 #[.int .i64 c, .slice a1 n1 c1, .slice a2 n2 c2] w fun e w' => ∃ v h', e = .returned v ∧ (v = .bool true ∧ Sub hp h') ∧ On w' h' ∧ Keep w w' := by
  have hl1 := hd.len
  have hl2 := hq.len
  refine calls_of_Y (args := [.int .i64 c, .slice a1 n1 c1, .slice a2 n2 c2]) (Rp := fun v h' => v = .bool true ∧ Sub hp h') tys_ok mix Tryd.func5 rfl rfl hon ?_
  refine X_call (f := 1000) (C := fun r => Sub hp r) [] rfl rfl rfl rfl (fun r hr => awake_tr st r ⟨hst.len, hst.lt, fun i hi => Hp.cell_mono hr (hst.cell i hi)⟩) (fun r hr => hr.sub) ?_
  rintro v L' ⟨rfl, rfl⟩
  refine X_gF (f := 1000) rfl ⟨_, rfl, rfl⟩ rfl ?_
  refine X_g (f := 1000) rfl ⟨_, rfl, rfl⟩ (fun h1 => ?_) (fun h1 => ?_)
  · refine X_ret (f := 1000) rfl rfl Tryd.func5 rfl fun h' hs => ⟨rfl, hs.sub⟩
  have h1 : ¬ (500 : Int) < n1 := by simpa using h1
  refine X_if (f := 1000) rfl ⟨_, rfl, rfl⟩ (fun h2 => ?_) (fun h2 => ?_)
  · refine X_ret (f := 1000) rfl rfl Tryd.func5 rfl fun h' hs => ⟨rfl, hs.sub⟩
  have h2 : ¬ (100 : Int) < n2 := by simpa using h2
  refine X_call (f := 1000) (C := fun r => Sub hp r) [] rfl rfl rfl rfl (fun r hr => plan_tr st c a1 n1 c1 ds a2 n2 c2 ps r (hd.mono hr) (hq.mono hr) (by omega) (by omega) ⟨hst.len, hst.lt, fun i hi => Hp.cell_mono hr (hst.cell i hi)⟩) (fun r hr => hr.sub) ?_
  rintro v L' hp1
  cases hp1 with
  | bad hb =>
    refine X_ifT (f := 1000) rfl ⟨_, rfl, rfl⟩ rfl ?_
    refine X_gT (f := 1000) rfl ⟨_, rfl, rfl⟩ rfl ?_
    refine X_ret (f := 1000) rfl rfl Tryd.func5 rfl fun h' hs => ⟨rfl, hs.sub⟩
  | twice hk hnd =>
    refine X_ifT (f := 1000) rfl ⟨_, rfl, rfl⟩ rfl ?_
    refine X_gF (f := 1000) rfl ⟨_, rfl, rfl⟩ rfl ?_
    refine X_gT (f := 1000) rfl ⟨_, rfl, rfl⟩ rfl ?_
    refine X_ret (f := 1000) rfl rfl Tryd.func5 rfl fun h' hs => ⟨rfl, hs.sub⟩
  | fine hk hnd hpl hn =>
    rename_i o xss a3 n3 c3 vs
    subst hn
    obtain ⟨hperm, hsort, hcut⟩ := hpl
    have hol : o.length = n1 := by rw [hperm.length_eq, hl1]
    have hond : o.Nodup := hperm.nodup_iff.2 hnd
    refine Y.lists (i := 0) (j := 1) (by omega) rfl rfl fun R1 hR1 hL1 => ?_
    have hd1 := hd.mono hR1
    have hq1 := hq.mono hR1
    have hrp := hk.rt
    simp only [rightP, decide_eq_true_eq] at hrp
    refine X_ifF (f := 1000) rfl ⟨_, rfl, rfl⟩ rfl ?_
    refine X_mkmap (f := 1000) rfl fun mb => ?_
    refine X_asmap encI (i := 2) rfl ?_
    refine X_loop (f := 1000) [11, 12] [1, 2, 8, 10] [2] (fun m vs L => ∃ (k fr : Nat) (z : Int), k ≤ n2 ∧ m = n2 - k ∧ fr = toN z n1 ∧ 0 ≤ z ∧ incL z (ps.drop k) = some 100 ∧ xss.drop k = cuts o fr (ps.drop k) ∧ vs = [.int .i64 fr, .int .i64 k] ∧ L = [mapH encI mb (setM (o.take fr))]) rfl rfl rfl
      ⟨0, 0, 0, by omega, rfl, by simp [toN], by omega, hrp.2.2, hcut, rfl, rfl⟩ ?_
    rintro m vs L ⟨k, fr, z, hk2, rfl, hfr, hz, hinc, hxs, rfl, rfl⟩ ih
    refine X_g (f := 1000) rfl ⟨_, rfl, rfl⟩ (fun h3 => ?_) (fun h3 => ?_)
    · have hlt : k < n2 := by
        have : (k : Int) < (ps.length : Nat) := by simpa using h3
        omega
      refine X_ifT (f := 1000) rfl ⟨_, rfl, rfl⟩ (by simp; omega) ?_
      obtain ⟨b, oo, rfl, hxi, hcell⟩ := hq1.at hlt
      obtain ⟨b3, o3, rfl, ⟨va, vn, vc⟩, xs, hv, hx, hc3, hI⟩ := hL1.at (i := k) (by omega)
      have hI : IntsIn R1 va vn xs := hI
      have hdrop : ps.drop k = ps[k] :: ps.drop (k + 1) := List.drop_eq_getElem_cons hxi
      generalize ps[k] = p at hcell hdrop
      rw [hdrop] at hinc hxs
      simp only [incL] at hinc
      have hzp : ¬ p ≤ z := fun hh => by rw [if_pos hh] at hinc; cases hinc
      rw [if_neg hzp] at hinc
      rw [cuts_cons, hol] at hxs
      have hxk : xs = (o.take (toN p n1)).drop fr := by
        have : (xss.drop k)[0]? = some xs := by simpa using hx
        rw [hxs] at this; simpa using this.symm
      have hxs' : xss.drop (k + 1) = cuts o (toN p n1) (ps.drop (k + 1)) := by
        have : (xss.drop k).drop 1 = xss.drop (k + 1) := by rw [List.drop_drop]
        rw [← this, hxs]; rfl
      have hp100 := incL_le _ _ _ hinc
      have hm1 : z * (n1 : Int) ≤ p * n1 := mul_mono (by omega)
      have hm2 : p * (n1 : Int) ≤ 100 * n1 := mul_mono (by omega)
      have hm0 : 0 ≤ z * (n1 : Int) := Int.mul_nonneg hz (by omega)
      have hfrto : fr ≤ toN p n1 := by rw [hfr]; unfold toN; omega
      have hton : toN p n1 ≤ n1 := by unfold toN; omega
      have htoI : ((toN p n1 : Nat) : Int) = (p * (n1 : Int) + 99) / 100 := by unfold toN; omega
      have hxl : xs.length = toN p n1 - fr := by rw [hxk, List.length_drop, List.length_take]; omega
      have hvn : vn = toN p n1 - fr := by rw [← hI.len, hxl]
      have hnx : ∀ i, i < vn → ∀ (hi : i < xs.length), o.take (fr + (i + 1)) = o.take (fr + i) ++ [xs[i]] := by
        intro i hi hi2
        rw [show fr + (i + 1) = (fr + i) + 1 by omega, take_snoc (by omega)]
        congr 2
        subst hxk
        simp
      generalize toN p n1 = to at hxs' hfrto hton htoI hvn
      refine X_loop (f := 1000) [11, 13] [1, 2, 8, 10, 12] [0] (fun m vs L => ∃ (i : Nat), i ≤ vn ∧ m = vn - i ∧ vs = [.int .i64 ((fr + i : Nat) : Int), .int .i64 i] ∧ L = [mapH encI mb (setM (o.take (fr + i)))]) rfl rfl rfl
        ⟨0, by omega, rfl, rfl, rfl⟩ ?_
      rintro m vs L ⟨i, hi, rfl, rfl, rfl⟩ ih2
      refine X_idx (f := 1000) k rfl rfl rfl rfl ((by omega)) rfl rfl rfl rfl ?_
      refine X_loadR (f := 1000) rfl rfl (fun h hs => ldv_one rfl rfl rfl (Hp.cell_mono hs (by simpa using hc3))) ?_
      refine X_if (f := 1000) rfl ⟨_, rfl, rfl⟩ (fun h5 => ?_) (fun h5 => ?_)
      · have hlt2 : i < vn := by simpa using h5
        obtain ⟨d, q, rfl, hxi2, hd2⟩ := hI.at hlt2
        have hnx2 := hnx i hlt2 hxi2
        generalize xs[i] = y at hd2 hnx2
        refine X_idx (f := 1000) k rfl rfl rfl rfl ((by omega)) rfl rfl rfl rfl ?_
        refine X_loadR (f := 1000) rfl rfl (fun h hs => ldv_one rfl rfl rfl (Hp.cell_mono hs (by simpa using hc3))) ?_
        refine X_idx (f := 1000) i rfl rfl rfl rfl (hlt2) rfl rfl rfl rfl ?_
        refine X_loadR (f := 1000) rfl rfl (fun h hs => ldv_one rfl rfl rfl (Hp.cell_mono hs (by simpa using hd2))) ?_
        refine X_mapset (f := 1000) (i := 0) K3 y rfl rfl rfl rfl rfl rfl rfl rfl ?_
        refine X_ar (f := 1000) rfl rfl rfl (ar_add (by omega)) ?_
        refine X_ar (f := 1000) rfl rfl rfl (ar_add (by omega)) ?_
        refine X_again (f := 1000) [11, 13] [1, 2, 8, 10, 12] [0] rfl rfl rfl ?_
        refine ih2 (vn - (i + 1)) _ _ (by omega) ⟨i + 1, by omega, rfl, rfl, ?_⟩
        rw [hnx2, setM_snoc]; rfl
      have hin : i = vn := by
        have : ¬ (i < vn) := by simpa using h5
        omega
      subst hin
      have e1 : fr + i = to := by omega
      rw [e1]
      have hb1 : p * (n1 : Int) ≤ 50000 := by omega
      have hb0 : 0 ≤ p * (n1 : Int) := by omega
      refine X_ar (f := 1000) rfl rfl rfl (ar_mul (by omega)) ?_
      refine X_idx (f := 1000) k rfl rfl rfl rfl (hlt) rfl rfl rfl rfl ?_
      refine X_loadR (f := 1000) rfl rfl (fun h hs => ldv_one rfl rfl rfl (Hp.cell_mono hs (by simpa using hcell))) ?_
      refine X_ar (f := 1000) rfl rfl rfl (ar_mul (by omega)) ?_
      refine X_gF (f := 1000) rfl ⟨_, rfl, rfl⟩ (by simp; omega) ?_
      refine X_ar (f := 1000) rfl rfl rfl (ar_sub (by omega)) ?_
      refine X_ar (f := 1000) rfl rfl rfl (ar_mul (by omega)) ?_
      refine X_idx (f := 1000) k rfl rfl rfl rfl (hlt) rfl rfl rfl rfl ?_
      refine X_loadR (f := 1000) rfl rfl (fun h hs => ldv_one rfl rfl rfl (Hp.cell_mono hs (by simpa using hcell))) ?_
      refine X_ar (f := 1000) rfl rfl rfl (ar_mul (by omega)) ?_
      refine X_g (f := 1000) rfl ⟨_, rfl, rfl⟩ (fun h6 => ?_) (fun h6 => ?_)
      · have h6 : p * (n1 : Int) ≤ 100 * ((to : Int) - 1) := by simpa using h6
        have : ¬ 0 < to := by omega
        refine X_ifF (f := 1000) rfl ⟨_, rfl, rfl⟩ (by simp; omega) ?_
        refine X_ar (f := 1000) rfl rfl rfl (ar_add (by omega)) ?_
        refine X_again (f := 1000) [11, 12] [1, 2, 8, 10] [0] rfl rfl rfl ?_
        exact ih (n2 - (k + 1)) _ _ (by omega) ⟨k + 1, to, p, by omega, rfl, by unfold toN; omega, by omega, hinc, hxs', rfl, rfl⟩
      refine X_ar (f := 1000) rfl rfl rfl (ar_add (by omega)) ?_
      refine X_again (f := 1000) [11, 12] [1, 2, 8, 10] [0] rfl rfl rfl ?_
      exact ih (n2 - (k + 1)) _ _ (by omega) ⟨k + 1, to, p, by omega, rfl, by unfold toN; omega, by omega, hinc, hxs', rfl, rfl⟩
    have hkn : k = n2 := by
      have : ¬ (k : Int) < (ps.length : Nat) := by simpa using h3
      omega
    have hz100 : z = 100 := by
      rw [List.drop_eq_nil_of_le (by omega), incL] at hinc
      simpa using hinc
    have hfrn : fr = n1 := by rw [hfr, hz100]; unfold toN; omega
    have hto : o.take fr = o := List.take_of_length_le (by omega)
    rw [hto]
    refine X_loop (f := 1000) [14] [1, 2, 8, 10, 11] [0] (fun m vs L => ∃ (i : Nat), i ≤ n1 ∧ m = n1 - i ∧ vs = [.int .i64 i] ∧ L = [mapH encI mb (setM o)]) rfl rfl rfl ⟨0, by omega, rfl, rfl, rfl⟩ ?_
    rintro m vs L ⟨i, hi, rfl, rfl, rfl⟩ ih3
    refine X_if (f := 1000) rfl ⟨_, rfl, rfl⟩ (fun h7 => ?_) (fun h7 => ?_)
    · have hlt : i < n1 := by simpa using h7
      obtain ⟨b, oo, rfl, hxi, hcell⟩ := hd1.at hlt
      have hmem : ds[i] ∈ o := hperm.mem_iff.2 (List.getElem_mem hxi)
      generalize ds[i] = x at hcell hmem
      refine X_idx (f := 1000) i rfl rfl rfl rfl (hlt) rfl rfl rfl rfl ?_
      refine X_loadR (f := 1000) rfl rfl (fun h hs => ldv_one rfl rfl rfl (Hp.cell_mono hs (by simpa using hcell))) ?_
      refine X_lookLV (f := 1000) K3 x (.bool true) rfl rfl rfl rfl (i := 0) rfl rfl rfl rfl (by rw [setM_get, if_pos hmem]; rfl) ?_
      refine X_ifF (f := 1000) rfl ⟨_, rfl, rfl⟩ rfl ?_
      refine X_ar (f := 1000) rfl rfl rfl (ar_add (by omega)) ?_
      refine X_again (f := 1000) [14] [1, 2, 8, 10, 11] [0] rfl rfl rfl ?_
      exact ih3 (n1 - (i + 1)) _ _ (by omega) ⟨i + 1, by omega, rfl, rfl, rfl⟩
    refine X_gT (f := 1000) rfl ⟨_, rfl, rfl⟩ (by simp; omega) ?_
    refine X_gT (f := 1000) rfl ⟨_, rfl, rfl⟩ (by simp; omega) ?_
    refine X_maplen (f := 1000) (i := 0) rfl rfl rfl rfl rfl ?_
    have := setM_len hond
    refine X_ret (f := 1000) rfl rfl Tryd.func5 rfl fun h' hs => ⟨by simp [tupV, SV.den]; omega, hR1.trans hs.sub⟩
end Go.Proofs.YthabnmihfgoabaaDoor
namespace Go.Proofs.YthabnmihfgoabaaDoor
open Go Go.Eng
set_option maxRecDepth 100000

/-- how far the waves have been gone through -/
structure Cur (o ps : List Int) (xss : List (List Int)) (k fr : Nat) : Prop where
  ex : ∃ z : Int, fr = toN z o.length ∧ 0 ≤ z ∧ incL z (ps.drop k) = some 100 ∧ xss.drop k = cuts o fr (ps.drop k)
theorem Cur.init {o ps : List Int} {xss : List (List Int)} (h : rightP ps = true) (hc : xss = cuts o 0 ps) : Cur o ps xss 0 0 := by
  simp only [rightP, decide_eq_true_eq] at h
  exact ⟨0, by simp [toN], by omega, h.2.2, hc⟩
theorem Cur.step {o ps : List Int} {xss : List (List Int)} {k fr : Nat} (h : Cur o ps xss k fr) (hk : k < ps.length) :
    ∃ xs to, xss[k]? = some xs ∧ fr ≤ to ∧ to ≤ o.length ∧ xs.length = to - fr ∧ o.take to = o.take fr ++ xs ∧ Cur o ps xss (k + 1) to := by
  obtain ⟨z, hfr, hz, hinc, hxs⟩ := h.ex
  have hdrop : ps.drop k = ps[k] :: ps.drop (k + 1) := List.drop_eq_getElem_cons hk
  generalize ps[k] = p at hdrop
  rw [hdrop] at hinc hxs
  simp only [incL] at hinc
  have hzp : ¬ p ≤ z := fun hh => by rw [if_pos hh] at hinc; cases hinc
  rw [if_neg hzp] at hinc
  rw [cuts_cons] at hxs
  have hp100 := incL_le _ _ _ hinc
  have hm1 : z * (o.length : Int) ≤ p * o.length := mul_mono (by omega)
  have hm2 : p * (o.length : Int) ≤ 100 * o.length := mul_mono (by omega)
  have hm0 : 0 ≤ z * (o.length : Int) := Int.mul_nonneg hz (by omega)
  have hfrto : fr ≤ toN p o.length := by rw [hfr]; unfold toN; omega
  have hton : toN p o.length ≤ o.length := by unfold toN; omega
  refine ⟨(o.take (toN p o.length)).drop fr, toN p o.length, ?_, hfrto, hton, by rw [List.length_drop, List.length_take]; omega, ?_, ⟨p, rfl, by omega, hinc, ?_⟩⟩
  · have : (xss.drop k)[0]? = some ((o.take (toN p o.length)).drop fr) := by rw [hxs]; rfl
    simpa using this
  · have h1 := (List.take_append_drop fr (o.take (toN p o.length))).symm
    rw [List.take_take, Nat.min_eq_left hfrto] at h1
    exact h1
  · have : (xss.drop k).drop 1 = xss.drop (k + 1) := by rw [List.drop_drop]
    rw [← this, hxs]; rfl
theorem Cur.fin {o ps : List Int} {xss : List (List Int)} {k fr : Nat} (h : Cur o ps xss k fr) (hk : ps.length ≤ k) : fr = o.length := by
  obtain ⟨z, hfr, hz, hinc, hxs⟩ := h.ex
  rw [List.drop_eq_nil_of_le hk, incL] at hinc
  have : z = 100 := by simpa using hinc
  subst this
  rw [hfr]; unfold toN; omega

theorem iV_one (xs : List Int) : (xs.map iV).all Value.oneCell' = true := by
  rw [List.all_eq_true]; intro v hv
  obtain ⟨x, -, rfl⟩ := List.mem_map.1 hv
  rfl

theorem orderW (st : List Nat) (c : Int) (a1 : Option Addr) (n1 c1 : Nat) (ds : List Int) (a2 : Option Addr) (n2 c2 : Nat) (ps : List Int) (a3 : Option Addr) (n3 c3 : Nat) (qs : List Int) (w : World) (hp : Hp) (hon : On w hp)
    (hd : IntsIn hp a1 n1 ds) (hq : IntsIn hp a2 n2 ps) (hq' : IntsIn hp a3 n3 qs) (hst : StepsIn hp st) :
    Calls Tryd.prog 8 #[.int .i64 c, .slice a1 n1 c1, .agg #[.slice a2 n2 c2, .slice a3 n3 c3]] w fun e w' => ∃ v h', e = .returned v ∧ (v = .bool true ∧ Sub hp h') ∧ On w' h' ∧ Keep w w' := by
  have hl1 := hd.len
  have hl2 := hq.len
  have hl3 := hq'.len
  refine calls_of_Y (args := [.int .i64 c, .slice a1 n1 c1, .agg #[.slice a2 n2 c2, .slice a3 n3 c3]]) (Rp := fun v h' => v = .bool true ∧ Sub hp h') tys_ok mix Tryd.func8 rfl rfl hon ?_
  refine X_box (f := 1000) rfl rfl rfl fun b1 => ?_
  refine X_call (f := 1000) (C := fun r => Sub hp r) [] rfl rfl rfl rfl (fun r hr => awake_tr st r ⟨hst.len, hst.lt, fun i hi => Hp.cell_mono hr (hst.cell i hi)⟩) (fun r hr => hr.sub) ?_
  rintro v L' ⟨rfl, rfl⟩
  refine X_gF (f := 1000) rfl ⟨_, rfl, rfl⟩ rfl ?_
  refine X_g (f := 1000) rfl ⟨_, rfl, rfl⟩ (fun h1 => ?_) (fun h1 => ?_)
  · refine X_ret (f := 1000) rfl rfl Tryd.func8 rfl fun h' hs => ⟨rfl, hs.sub⟩
  have h1 : ¬ (300 : Int) < n1 := by simpa using h1
  refine X_idxA (f := 1000) 0 rfl rfl rfl rfl ((by omega)) rfl rfl rfl rfl ?_
  refine X_load (f := 1000) (i := 0) rfl rfl rfl rfl ?_
  refine X_g (f := 1000) rfl ⟨_, rfl, rfl⟩ (fun h2 => ?_) (fun h2 => ?_)
  · refine X_ret (f := 1000) rfl rfl Tryd.func8 rfl fun h' hs => ⟨rfl, hs.sub⟩
  have h2 : ¬ (100 : Int) < n2 := by simpa using h2
  refine X_idxA (f := 1000) 1 rfl rfl rfl rfl ((by omega)) rfl rfl rfl rfl ?_
  refine X_load (f := 1000) (i := 0) rfl rfl rfl rfl ?_
  refine X_if (f := 1000) rfl ⟨_, rfl, rfl⟩ (fun h3 => ?_) (fun h3 => ?_)
  · refine X_ret (f := 1000) rfl rfl Tryd.func8 rfl fun h' hs => ⟨rfl, hs.sub⟩
  have h3 : ¬ (100 : Int) < n3 := by simpa using h3
  refine X_idxA (f := 1000) 0 rfl rfl rfl rfl ((by omega)) rfl rfl rfl rfl ?_
  refine X_load (f := 1000) (i := 0) rfl rfl rfl rfl ?_
  refine X_call (f := 1000) (C := fun r => Sub hp r) [] rfl rfl rfl rfl (fun r hr => plan_tr st c a1 n1 c1 ds a2 n2 c2 ps r (hd.mono hr) (hq.mono hr) (by omega) (by omega) ⟨hst.len, hst.lt, fun i hi => Hp.cell_mono hr (hst.cell i hi)⟩) (fun r hr => hr.sub) ?_
  rintro v L' hp1
  cases hp1 with
  | bad hb =>
    refine X_idxA (f := 1000) 1 rfl rfl rfl rfl ((by omega)) rfl rfl rfl rfl ?_
    refine X_load (f := 1000) (i := 0) rfl rfl rfl rfl ?_
    refine X_call (f := 1000) (C := fun r => Sub hp r) [] rfl rfl rfl rfl (fun r hr => plan_tr st c a1 n1 c1 ds a3 n3 c3 qs r (hd.mono hr) (hq'.mono hr) (by omega) (by omega) ⟨hst.len, hst.lt, fun i hi => Hp.cell_mono hr (hst.cell i hi)⟩) (fun r hr => hr.sub) ?_
    rintro v L' hp2
    cases hp2 with
    | bad _ =>
      refine X_gT (f := 1000) rfl ⟨_, rfl, rfl⟩ rfl ?_
      refine X_ret (f := 1000) rfl rfl Tryd.func8 rfl fun h' hs => ⟨rfl, hs.sub⟩
    | twice _ _ =>
      refine X_gT (f := 1000) rfl ⟨_, rfl, rfl⟩ rfl ?_
      refine X_ret (f := 1000) rfl rfl Tryd.func8 rfl fun h' hs => ⟨rfl, hs.sub⟩
    | fine _ _ _ _ =>
      refine X_gT (f := 1000) rfl ⟨_, rfl, rfl⟩ rfl ?_
      refine X_ret (f := 1000) rfl rfl Tryd.func8 rfl fun h' hs => ⟨rfl, hs.sub⟩
  | twice hb hb2 =>
    refine X_idxA (f := 1000) 1 rfl rfl rfl rfl ((by omega)) rfl rfl rfl rfl ?_
    refine X_load (f := 1000) (i := 0) rfl rfl rfl rfl ?_
    refine X_call (f := 1000) (C := fun r => Sub hp r) [] rfl rfl rfl rfl (fun r hr => plan_tr st c a1 n1 c1 ds a3 n3 c3 qs r (hd.mono hr) (hq'.mono hr) (by omega) (by omega) ⟨hst.len, hst.lt, fun i hi => Hp.cell_mono hr (hst.cell i hi)⟩) (fun r hr => hr.sub) ?_
    rintro v L' hp2
    cases hp2 with
    | bad _ =>
      refine X_gT (f := 1000) rfl ⟨_, rfl, rfl⟩ rfl ?_
      refine X_ret (f := 1000) rfl rfl Tryd.func8 rfl fun h' hs => ⟨rfl, hs.sub⟩
    | twice _ _ =>
      refine X_gT (f := 1000) rfl ⟨_, rfl, rfl⟩ rfl ?_
      refine X_ret (f := 1000) rfl rfl Tryd.func8 rfl fun h' hs => ⟨rfl, hs.sub⟩
    | fine _ _ _ _ =>
      refine X_gT (f := 1000) rfl ⟨_, rfl, rfl⟩ rfl ?_
      refine X_ret (f := 1000) rfl rfl Tryd.func8 rfl fun h' hs => ⟨rfl, hs.sub⟩
  | fine hk hnd hpl hn =>
    rename_i o xss a4 n4 c4 vs
    subst hn
    refine Y.lists (i := 1) (j := 2) (by omega) rfl rfl fun R1 hR1 hL1 => ?_
    have hd1 := hd.mono hR1
    have hq1 := hq'.mono hR1
    have hst1 : StepsIn R1 st := ⟨hst.len, hst.lt, fun i hi => Hp.cell_mono hR1 (hst.cell i hi)⟩
    refine X_idxA (f := 1000) 1 rfl rfl rfl rfl ((by omega)) rfl rfl rfl rfl ?_
    refine X_load (f := 1000) (i := 0) rfl rfl rfl rfl ?_
    refine X_call (f := 1000) (C := fun r => Sub R1 r) [] rfl rfl rfl rfl (fun r hr => plan_tr st c a1 n1 c1 ds a3 n3 c3 qs r (hd1.mono hr) (hq1.mono hr) (by omega) (by omega) ⟨hst.len, hst.lt, fun i hi => Hp.cell_mono hr (hst1.cell i hi)⟩) (fun r hr => hr.sub) ?_
    rintro v L' hp2
    cases hp2 with
    | bad _ =>
      refine X_gF (f := 1000) rfl ⟨_, rfl, rfl⟩ rfl ?_
      refine X_ifT (f := 1000) rfl ⟨_, rfl, rfl⟩ rfl ?_
      refine X_ret (f := 1000) rfl rfl Tryd.func8 rfl fun h' hs => ⟨rfl, hR1.trans hs.sub⟩
    | twice _ _ =>
      refine X_gF (f := 1000) rfl ⟨_, rfl, rfl⟩ rfl ?_
      refine X_ifT (f := 1000) rfl ⟨_, rfl, rfl⟩ rfl ?_
      refine X_ret (f := 1000) rfl rfl Tryd.func8 rfl fun h' hs => ⟨rfl, hR1.trans hs.sub⟩
    | fine hk2 hnd2 hpl2 hn2 =>
      rename_i o2 yss a5 n5 c5 us
      subst hn2
      refine Y.lists (i := 3) (j := 4) (by omega) rfl rfl fun R2 hR2 hL2 => ?_
      have hL1' := hL1.mono hR2
      obtain ⟨hperm, hsort, hcut⟩ := hpl
      obtain ⟨hperm2, hsort2, hcut2⟩ := hpl2
      have ho : o = o2 := sorted_uniq (hperm.trans hperm2.symm) hsort hsort2
      subst ho
      have hol : o.length = n1 := by rw [hperm.length_eq, hl1]
      have cu1 := Cur.init hk.rt hcut
      have cu2 := Cur.init hk2.rt hcut2
      refine X_gF (f := 1000) rfl ⟨_, rfl, rfl⟩ rfl ?_
      refine X_ifF (f := 1000) rfl ⟨_, rfl, rfl⟩ rfl ?_
      refine Y.addE (ownS_nil 3 1) ?_
      refine Y.addE (ownS_nil 3 1) ?_
      refine X_loop (f := 1000) [12, 14] [8, 10, 13] [5, 6] (fun m vs L => ∃ (k fr cp : Nat) (a : Option Addr), k ≤ ps.length ∧ m = ps.length - k ∧ Cur o ps xss k fr ∧ vs = [.slice a fr cp, .int .i64 k] ∧ L = [ownS 3 1 a fr cp ((o.take fr).map iV), ownS 3 1 none 0 0 []]) rfl rfl rfl
        ⟨0, 0, 0, none, by omega, rfl, cu1, rfl, rfl⟩ ?_
      rintro m vs L ⟨k, fr, cp, a, hk3, rfl, cu, rfl, rfl⟩ ih
      refine X_if (f := 1000) rfl ⟨_, rfl, rfl⟩ (fun h4 => ?_) (fun h4 => ?_)
      · have hlt : k < ps.length := by simpa using h4
        obtain ⟨b3, o3, rfl, ⟨va, vn, vc⟩, xs, hv, hx, hc3, hI⟩ := hL1'.at (i := k) (by omega)
        have hI : IntsIn R2 va vn xs := hI
        obtain ⟨xs', to, hx', hfrto, hton, hlen, htk, cu'⟩ := cu.step hlt
        rw [hx] at hx'; cases hx'
        have hvn : vn = to - fr := by rw [← hI.len, hlen]
        refine X_idx (f := 1000) k rfl rfl rfl rfl ((by omega)) rfl rfl rfl rfl ?_
        refine X_loadR (f := 1000) rfl rfl (fun h hs => ldv_one rfl rfl rfl (Hp.cell_mono hs (by simpa using hc3))) ?_
        refine X_app (f := 1000) (i := 0) (m := vn) (xs.map iV) rfl rfl rfl rfl rfl rfl rfl rfl rfl (by simp [hlen, hvn]) (by omega) (iV_one xs) (by show _ * 8 ≤ _; omega) (by omega)
          (fun A h hs => hI.rd.mono hs.sub) fun a' c' => ?_
        refine X_ar (f := 1000) rfl rfl rfl (ar_add (by omega)) ?_
        refine X_again (f := 1000) [12, 14] [8, 10, 13] [0, 1] rfl rfl rfl ?_
        have e1 : fr + vn = to := by omega
        refine ih (ps.length - (k + 1)) _ _ (by omega) ⟨k + 1, to, c', a', by omega, rfl, cu', by rw [e1]; rfl, ?_⟩
        rw [e1, htk, List.map_append]; rfl
      have hkn : ps.length ≤ k := by
        have : ¬ (k < ps.length) := by simpa using h4
        omega
      have hfr := cu.fin hkn
      have hto : o.take fr = o := List.take_of_length_le (by omega)
      rw [hto]
      refine X_loop (f := 1000) [13, 15] [10, 12] [0, 1] (fun m vs L => ∃ (k fr2 cp2 : Nat) (a2 : Option Addr), k ≤ qs.length ∧ m = qs.length - k ∧ Cur o qs yss k fr2 ∧ vs = [.slice a2 fr2 cp2, .int .i64 k] ∧ L = [ownS 3 1 a fr cp (o.map iV), ownS 3 1 a2 fr2 cp2 ((o.take fr2).map iV)]) rfl rfl rfl
        ⟨0, 0, 0, none, by omega, rfl, cu2, rfl, rfl⟩ ?_
      rintro m vs L ⟨k2, fr2, cp2, a2', hk4, rfl, cu3, rfl, rfl⟩ ih2
      refine X_if (f := 1000) rfl ⟨_, rfl, rfl⟩ (fun h5 => ?_) (fun h5 => ?_)
      · have hlt : k2 < qs.length := by simpa using h5
        obtain ⟨b3, o3, rfl, ⟨va, vn, vc⟩, xs, hv, hx, hc3, hI⟩ := hL2.at (i := k2) (by omega)
        have hI : IntsIn R2 va vn xs := hI
        obtain ⟨xs', to, hx', hfrto, hton, hlen, htk, cu'⟩ := cu3.step hlt
        rw [hx] at hx'; cases hx'
        have hvn : vn = to - fr2 := by rw [← hI.len, hlen]
        refine X_idx (f := 1000) k2 rfl rfl rfl rfl ((by omega)) rfl rfl rfl rfl ?_
        refine X_loadR (f := 1000) rfl rfl (fun h hs => ldv_one rfl rfl rfl (Hp.cell_mono hs (by simpa using hc3))) ?_
        refine X_app (f := 1000) (i := 1) (m := vn) (xs.map iV) rfl rfl rfl rfl rfl rfl rfl rfl rfl (by simp [hlen, hvn]) (by omega) (iV_one xs) (by show _ * 8 ≤ _; omega) (by omega)
          (fun A h hs => hI.rd.mono hs.sub) fun a' c' => ?_
        refine X_ar (f := 1000) rfl rfl rfl (ar_add (by omega)) ?_
        refine X_again (f := 1000) [13, 15] [10, 12] [0, 1] rfl rfl rfl ?_
        have e1 : fr2 + vn = to := by omega
        refine ih2 (qs.length - (k2 + 1)) _ _ (by omega) ⟨k2 + 1, to, c', a', by omega, rfl, cu', by rw [e1]; rfl, ?_⟩
        rw [e1, htk, List.map_append]; rfl
      have hkn2 : qs.length ≤ k2 := by
        have : ¬ (k2 < qs.length) := by simpa using h5
        omega
      have hfr2 := cu3.fin hkn2
      have hto2 : o.take fr2 = o := List.take_of_length_le (by omega)
      rw [hto2]
      refine X_call (f := 1000) (C := fun r => IntsIn r a fr o ∧ IntsIn r a2' fr2 o) [] rfl rfl rfl rfl (fun r hr => sameInts_tr a fr cp o a2' fr2 cp2 o r hr.1 hr.2) (fun r hr => ⟨⟨by omega, hr.ownRd (i := 0) rfl, by omega⟩, ⟨by omega, hr.ownRd (i := 1) rfl, by omega⟩⟩) ?_
      rintro v L' ⟨rfl, rfl⟩
      refine X_ret (f := 1000) rfl rfl Tryd.func8 rfl fun h' hs => ⟨by simp [tupV, SV.den], hR1.trans (hR2.trans hs.sub)⟩
end Go.Proofs.YthabnmihfgoabaaDoor
namespace Go.Proofs.YthabnmihfgoabaaDoor
open Go Go.Eng
set_option maxRecDepth 100000

theorem less_eq {ds : List Int} (hn : ds.Nodup) {k : Nat} (hk : k < ds.length) : ds.take k ++ ds.drop (k + 1) = ds.filter (fun x => decide (x ≠ ds[k])) := by
  have hd : ds = ds.take k ++ ds[k] :: ds.drop (k + 1) := by rw [← List.drop_eq_getElem_cons hk, List.take_append_drop]
  generalize ds[k] = d at hd ⊢
  generalize ds.take k = A at hd ⊢
  generalize ds.drop (k + 1) = B at hd ⊢
  subst hd
  obtain ⟨h1, h2, h3⟩ := List.nodup_append.1 hn
  obtain ⟨h4, h5⟩ := List.nodup_cons.1 h2
  rw [List.filter_append, List.filter_cons, if_neg (by simp)]
  congr 1
  · exact (List.filter_eq_self.2 fun x hx => by have : x ≠ d := h3 x hx d (by simp); simp [this]).symm
  · exact (List.filter_eq_self.2 fun x hx => by have : x ≠ d := fun e => h4 (by rw [← e]; exact hx); simp [this]).symm
theorem cuts100 (o : List Int) : cuts o 0 [100] = [o] := by
  have : toN 100 o.length = o.length := by unfold toN; omega
  simp [cuts, this]

theorem lessW (st : List Nat) (c : Int) (a1 : Option Addr) (n1 c1 : Nat) (ds : List Int) (at' : Int) (w : World) (hp : Hp) (hon : On w hp) (hcap : n1 ≤ c1) (hd : IntsIn hp a1 n1 ds) (hst : StepsIn hp st) :
    Calls Tryd.prog 9 #[.int .i64 c, .slice a1 n1 c1, .int .i64 at'] w fun e w' => ∃ v h', e = .returned v ∧ (v = .bool true ∧ Sub hp h') ∧ On w' h' ∧ Keep w w' := by
  have hl1 := hd.len
  refine calls_of_Y (args := [.int .i64 c, .slice a1 n1 c1, .int .i64 at']) (Rp := fun v h' => v = .bool true ∧ Sub hp h') tys_ok mix Tryd.func9 rfl rfl hon ?_
  refine X_call (f := 1000) (C := fun r => Sub hp r) [] rfl rfl rfl rfl (fun r hr => awake_tr st r ⟨hst.len, hst.lt, fun i hi => Hp.cell_mono hr (hst.cell i hi)⟩) (fun r hr => hr.sub) ?_
  rintro v L' ⟨rfl, rfl⟩
  refine X_gF (f := 1000) rfl ⟨_, rfl, rfl⟩ rfl ?_
  refine X_g (f := 1000) rfl ⟨_, rfl, rfl⟩ (fun h0 => ?_) (fun h0 => ?_)
  · refine X_ret (f := 1000) rfl rfl Tryd.func9 rfl fun h' hs => ⟨rfl, hs.sub⟩
  have h0 : ¬ n1 = 0 := by
    intro hh; subst hh; simp at h0
  refine X_g (f := 1000) rfl ⟨_, rfl, rfl⟩ (fun h1 => ?_) (fun h1 => ?_)
  · refine X_ret (f := 1000) rfl rfl Tryd.func9 rfl fun h' hs => ⟨rfl, hs.sub⟩
  have h1 : ¬ (300 : Int) < n1 := by simpa using h1
  refine X_if (f := 1000) rfl ⟨_, rfl, rfl⟩ (fun h2 => ?_) (fun h2 => ?_)
  · refine X_ret (f := 1000) rfl rfl Tryd.func9 rfl fun h' hs => ⟨rfl, hs.sub⟩
  have h2 : ¬ at' < 0 := by simpa using h2
  refine X_mkslice (f := 1000) rfl rfl rfl rfl rfl rfl rfl fun b1 => ?_
  refine X_call (f := 1000) (C := fun r => IntsIn r (some ⟨b1, 0, none⟩) 1 [100] ∧ Sub hp r) [] rfl rfl rfl rfl
    (fun r hr => plan_tr st c a1 n1 c1 ds _ 1 1 [100] r (hd.mono hr.2) hr.1 (by omega) (by omega) ⟨hst.len, hst.lt, fun i hi => Hp.cell_mono hr.2 (hst.cell i hi)⟩)
    (fun r hr => ⟨⟨rfl, RdAt.of_block (hr.get (i := 0) rfl) ⟨[], rfl⟩, by omega⟩, hr.sub⟩) ?_
  rintro v L' hp1
  cases hp1 with
  | bad hb =>
    refine X_ifT (f := 1000) rfl ⟨_, rfl, rfl⟩ rfl ?_
    refine X_gT (f := 1000) rfl ⟨_, rfl, rfl⟩ rfl ?_
    refine X_ret (f := 1000) rfl rfl Tryd.func9 rfl fun h' hs => ⟨rfl, hs.sub⟩
  | twice hk hnd =>
    refine X_ifT (f := 1000) rfl ⟨_, rfl, rfl⟩ rfl ?_
    refine X_gF (f := 1000) rfl ⟨_, rfl, rfl⟩ rfl ?_
    refine X_ret (f := 1000) rfl rfl Tryd.func9 rfl fun h' hs => ⟨rfl, hs.sub⟩
  | fine hk hnd hpl hn =>
    rename_i o xss a3 n3 c3 vs
    have hn3 : n3 = 1 := hn
    subst hn3
    obtain ⟨hperm, hsort, hcut⟩ := hpl
    rw [cuts100] at hcut
    subst hcut
    have hol : o.length = n1 := by rw [hperm.length_eq, hl1]
    refine Y.lists (i := 1) (j := 2) (by omega) rfl rfl fun R1 hR1 hL1 => ?_
    have hd1 := hd.mono hR1
    have hst1 : StepsIn R1 st := ⟨hst.len, hst.lt, fun i hi => Hp.cell_mono hR1 (hst.cell i hi)⟩
    obtain ⟨b3, o3, rfl, ⟨va, vn, vc⟩, xs, hv, hx, hc3, hI⟩ := hL1.at (i := 0) (by omega)
    have hI : IntsIn R1 va vn xs := hI
    have hxo : o = xs := by simpa using hx
    subst hxo
    have hvn : vn = n1 := by rw [← hI.len, hol]
    subst hvn
    obtain ⟨kk, hkk⟩ : ∃ kk : Nat, at' % (vn : Int) = kk := ⟨(at' % (vn : Int)).toNat, by have := Int.emod_nonneg at' (b := (vn : Int)) (by omega); omega⟩
    have hklt : kk < vn := by have := Int.emod_lt_of_pos at' (b := (vn : Int)) (by omega); omega
    have hless := less_eq hnd (k := kk) (by omega)
    obtain ⟨bk, ok, rfl, hxk, hck⟩ := hd1.at hklt
    refine X_ifF (f := 1000) rfl ⟨_, rfl, rfl⟩ rfl ?_
    refine X_ar (f := 1000) rfl rfl rfl (show arI .rem .i64 _ _ = some ((kk : Nat) : Int) from by rw [ar_rem (by omega), hkk]) ?_
    refine X_draw (f := 1000) [] [1, 2, 3, 5, 6, 7, 8, 0, 4, 9, 10] rfl rfl rfl (by decide +kernel) ?_
    refine X_slice (f := 1000) rfl rfl rfl rfl rfl rfl rfl rfl (.inl rfl) (by omega) rfl ?_
    refine X_ar (f := 1000) rfl rfl rfl (show arI .add .i64 _ _ = some ((kk + 1 : Nat) : Int) from by rw [ar_add (by omega)]; rfl) ?_
    refine X_slice (f := 1000) rfl rfl rfl rfl rfl rfl rfl rfl (.inl rfl) (by omega) rfl ?_
    refine X_mkslice (f := 1000) rfl rfl rfl rfl rfl rfl rfl fun b4 => ?_
    refine Y.toOwn (i := 3) (n := 0) (cp := 0) 1 rfl [] (Nat.le_refl _) (Nat.zero_le _) rfl rfl ?_
    refine X_app (f := 1000) (i := 3) (n := 0) (m := kk) ((ds.take kk).map iV) rfl rfl rfl rfl rfl rfl rfl rfl rfl (by simp; omega) (by omega) (iV_one _) (by show _ * 8 ≤ _; omega) (by omega)
      (fun A h hs => ?_) fun a5 c5 => ?_
    · have := RdAt.part (fr := 0) (to := kk) (k := 1) (hd1.rd.mono hs.sub) (by simp [hl1]) (by omega) (by omega) hcap
      simpa [List.map_take] using this
    refine X_app (f := 1000) (i := 3) (n := 0 + kk) (m := vn - (kk + 1)) ((ds.drop (kk + 1)).map iV) rfl rfl rfl rfl rfl rfl rfl rfl rfl (by simp; omega) (by omega) (iV_one _) (by show _ * 8 ≤ _; omega) (by omega)
      (fun A h hs => ?_) fun a6 c6 => ?_
    · have := RdAt.part (fr := kk + 1) (to := vn) (k := 1) (hd1.rd.mono hs.sub) (by simp [hl1]) (by omega) (by omega) hcap
      rw [List.take_of_length_le (by simp; omega)] at this
      simpa [List.map_drop] using this
    refine Y.toRead (i := 3) rfl fun mm R2 hmm hR2 hmR => ?_
    have hI2 := hI.mono hR2
    have hd2 := hd1.mono hR2
    have hL1' := hL1.mono hR2
    have hst2 : StepsIn R2 st := ⟨hst.len, hst.lt, fun i hi => Hp.cell_mono hR2 (hst1.cell i hi)⟩
    have hck2 := Hp.cell_mono hR2 hck
    have hc32 := Hp.cell_mono hR2 hc3
    have hlI : IntsIn R2 a6 (0 + kk + (vn - (kk + 1))) (ds.take kk ++ ds.drop (kk + 1)) := by
      refine ⟨by simp; omega, ?_, by omega⟩
      have := (ownS_rd hmm).mono hmR
      simpa [List.map_append] using this
    rw [hless] at hlI
    have hless2 := hless
    generalize ds[kk] = d at hlI hck2 hless2
    refine X_mkslice (f := 1000) rfl rfl rfl rfl rfl rfl rfl fun b5 => ?_
    refine X_call (f := 1000) (C := fun r => IntsIn r (some ⟨b5, 0, none⟩) 1 [100] ∧ Sub R2 r) [] rfl rfl rfl rfl
      (fun r hr => plan_tr st c a6 _ c6 _ _ 1 1 [100] r (hlI.mono hr.2) hr.1 (by omega) (by omega) ⟨hst.len, hst.lt, fun i hi => Hp.cell_mono hr.2 (hst2.cell i hi)⟩)
      (fun r hr => ⟨⟨rfl, RdAt.of_block (hr.get (i := 4) rfl) ⟨[], rfl⟩, by omega⟩, hr.sub⟩) ?_
    rintro v L' hp2
    cases hp2 with
    | bad hb =>
      refine absurd ⟨hk.lo, hk.hi, hk.rt, ?_⟩ hb
      have := hk.odd
      rw [List.any_eq_false] at this ⊢
      exact fun x hx => this x (List.mem_filter.1 hx).1
    | twice _ h2 => exact absurd (hnd.filter _) h2
    | fine hk2 hnd2 hpl2 hn2 =>
      rename_i o2 yss a7 n7 c7 us
      have hn7 : n7 = 1 := hn2
      subst hn7
      obtain ⟨hperm2, hsort2, hcut2⟩ := hpl2
      rw [cuts100] at hcut2
      subst hcut2
      refine Y.lists (i := 5) (j := 6) (by omega) rfl rfl fun R3 hR3 hL3 => ?_
      obtain ⟨b8, o8, rfl, ⟨wa, wn, wc⟩, ys, hv2, hx2, hc8, hJ⟩ := hL3.at (i := 0) (by omega)
      have hJ : IntsIn R3 wa wn ys := hJ
      have hyo : o2 = ys := by simpa using hx2
      subst hyo
      have hI3 := hI2.mono hR3
      have hck3 := Hp.cell_mono hR3 hck2
      have hc33 := Hp.cell_mono hR3 hc32
      have hfin : o2 = o.filter (fun x => decide (x ≠ d)) := sorted_uniq (hperm2.trans (hperm.filter _).symm) hsort2 (hsort.filter _)
      refine X_gF (f := 1000) rfl ⟨_, rfl, rfl⟩ rfl ?_
      refine X_gF (f := 1000) rfl ⟨_, rfl, rfl⟩ rfl ?_
      refine X_ifF (f := 1000) rfl ⟨_, rfl, rfl⟩ rfl ?_
      refine Y.addE (ownS_nil 3 1) ?_
      refine X_loop (f := 1000) [14, 15] [1, 8, 10, 12] [7] (fun m vs L => ∃ (i k cp : Nat) (a : Option Addr), i ≤ vn ∧ m = vn - i ∧ k ≤ i ∧ vs = [.slice a k cp, .int .i64 i] ∧ L = [ownS 3 1 a k cp (((o.take i).filter (fun x => decide (x ≠ d))).map iV)]) rfl rfl rfl
        ⟨0, 0, 0, none, by omega, rfl, by omega, rfl, rfl⟩ ?_
      rintro m vs L ⟨i, k, cp, a, hi, rfl, hki, rfl, rfl⟩ ih
      refine X_idx (f := 1000) 0 rfl rfl rfl rfl ((by omega)) rfl rfl rfl rfl ?_
      refine X_loadR (f := 1000) rfl rfl (fun h hs => ldv_one rfl rfl rfl (Hp.cell_mono hs (by simpa using hc33))) ?_
      refine X_if (f := 1000) rfl ⟨_, rfl, rfl⟩ (fun h4 => ?_) (fun h4 => ?_)
      · have hlt : i < vn := by simpa using h4
        obtain ⟨b9, o9, rfl, hx9, hc9⟩ := hI3.at hlt
        have htk : o.take (i + 1) = o.take i ++ [o[i]] := take_snoc hx9
        generalize o[i] = y at hc9 htk
        refine X_draw (f := 1000) [] [0, 1, 3, 6, 7, 8, 2, 4, 5, 9, 10] rfl rfl rfl (by decide +kernel) ?_
        refine X_idx (f := 1000) 0 rfl rfl rfl rfl ((by omega)) rfl rfl rfl rfl ?_
        refine X_idx (f := 1000) kk rfl rfl rfl rfl (hklt) rfl rfl rfl rfl ?_
        refine X_loadR (f := 1000) rfl rfl (fun h hs => ldv_one rfl rfl rfl (Hp.cell_mono hs (by simpa using hc33))) ?_
        refine X_idx (f := 1000) i rfl rfl rfl rfl (hlt) rfl rfl rfl rfl ?_
        refine X_loadR (f := 1000) rfl rfl (fun h hs => ldv_one rfl rfl rfl (Hp.cell_mono hs (by simpa using hc9))) ?_
        refine X_loadR (f := 1000) rfl rfl (fun h hs => ldv_one rfl rfl rfl (Hp.cell_mono hs (by simpa using hck3))) ?_
        refine X_if (f := 1000) rfl ⟨_, rfl, rfl⟩ (fun h5 => ?_) (fun h5 => ?_)
        · have h5 : ¬ y = d := by simpa using h5
          refine X_idx (f := 1000) 0 rfl rfl rfl rfl ((by omega)) rfl rfl rfl rfl ?_
          refine X_loadR (f := 1000) rfl rfl (fun h hs => ldv_one rfl rfl rfl (Hp.cell_mono hs (by simpa using hc33))) ?_
          refine X_idx (f := 1000) i rfl rfl rfl rfl (hlt) rfl rfl rfl rfl ?_
          refine X_loadR (f := 1000) rfl rfl (fun h hs => ldv_one rfl rfl rfl (Hp.cell_mono hs (by simpa using hc9))) ?_
          refine X_mkslice (f := 1000) rfl rfl rfl rfl rfl rfl rfl fun b10 => ?_
          refine X_append (f := 1000) (i := 0) [iV y] rfl rfl rfl rfl rfl rfl rfl rfl rfl (by omega) rfl (by omega) rfl (by show _ * 8 ≤ _; omega) (by omega)
            (fun A h hs => RdAt.of_block (hs.get (i := 2) rfl) ⟨[], rfl⟩) fun a' c' => ?_
          refine X_ar (f := 1000) rfl rfl rfl (ar_add (by omega)) ?_
          refine X_again (f := 1000) [14, 15] [1, 8, 10, 12] [0] rfl rfl rfl ?_
          refine ih (vn - (i + 1)) _ _ (by omega) ⟨i + 1, k + 1, c', a', by omega, rfl, by omega, rfl, ?_⟩
          rw [htk, List.filter_append, List.map_append]
          simp only [List.filter_cons, h5, ne_eq, not_false_eq_true, decide_true, if_true, List.filter_nil]
          rfl
        have h5 : y = d := by simpa using h5
        refine X_ar (f := 1000) rfl rfl rfl (ar_add (by omega)) ?_
        refine X_again (f := 1000) [14, 15] [1, 8, 10, 12] [0] rfl rfl rfl ?_
        refine ih (vn - (i + 1)) _ _ (by omega) ⟨i + 1, k, cp, a, by omega, rfl, by omega, rfl, ?_⟩
        rw [htk, List.filter_append, h5]
        simp; rfl
      have hin : i = vn := by
        have : ¬ (i < vn) := by simpa using h4
        omega
      rw [List.take_of_length_le (by omega), ← hfin]
      refine Y.ownLen (i := 0) rfl fun hkl => ?_
      have hkl : o2.length = k := by simpa using hkl
      refine X_idx (f := 1000) 0 rfl rfl rfl rfl ((by omega)) rfl rfl rfl rfl ?_
      refine X_loadR (f := 1000) rfl rfl (fun h hs => ldv_one rfl rfl rfl (Hp.cell_mono hs (by simpa using hc8))) ?_
      refine X_call (f := 1000) (C := fun r => IntsIn r wa wn o2 ∧ IntsIn r a k o2) [] rfl rfl rfl rfl (fun r hr => sameInts_tr wa wn wc o2 a k cp o2 r hr.1 hr.2) (fun r hr => ⟨hJ.mono hr.sub, ⟨hkl, hr.ownRd (i := 0) rfl, by omega⟩⟩) ?_
      rintro v L' ⟨rfl, rfl⟩
      refine X_ret (f := 1000) rfl rfl Tryd.func9 rfl fun h' hs => ⟨by simp [tupV, SV.den], hR1.trans (hR2.trans (hR3.trans hs.sub))⟩
end Go.Proofs.YthabnmihfgoabaaDoor
