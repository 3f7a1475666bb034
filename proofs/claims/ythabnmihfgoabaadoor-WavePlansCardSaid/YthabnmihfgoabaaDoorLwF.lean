/-
  Lemmas for the walk: how the machine steps, and what each step needs; no condition.
-/
import Derived.Test.YthabnmihfgoabaaDoorLwE
import Derived.Test.YthabnmihfgoabaaDoorLwD
namespace Go.Proofs.YthabnmihfgoabaaDoor
open Go Go.Eng
set_option maxRecDepth 100000

theorem keyLt_trans {lot : Int → Nat} {x y z : Int} (h1 : keyLt lot x y) (h2 : keyLt lot y z) : keyLt lot x z := by unfold keyLt at *; omega
theorem keyLt_irr {lot : Int → Nat} {x : Int} : ¬ keyLt lot x x := by unfold keyLt; omega
theorem keyLt_of {lot : Int → Nat} {x y : Int} (h1 : ¬ keyLt lot x y) (h2 : x ≠ y) : keyLt lot y x := by
  by_cases h : keyLt lot y x
  · exact h
  · exact absurd (keyLt_tri lot x y h1 h) h2

theorem insert_ok {lot : Int → Nat} {d : Int} {o : List Int} {k : Nat} (hs : o.Pairwise (keyLt lot)) (hle : k ≤ o.length) (h1 : ∀ j (hj : j < o.length), j < k → keyLt lot o[j] d)
    (h2 : ∀ h : k < o.length, ¬ keyLt lot o[k] d ∧ o[k] ≠ d) :
    (o.take k ++ [d] ++ o.drop k).Pairwise (keyLt lot) ∧ d ∉ o ∧ List.Perm (o.take k ++ [d] ++ o.drop k) (d :: o) := by
  have ha : ∀ y ∈ o.take k, keyLt lot y d := by
    intro y hy
    obtain ⟨j, hj, rfl⟩ := List.mem_iff_getElem.1 hy
    rw [List.length_take] at hj
    rw [List.getElem_take]
    exact h1 j (by omega) (by omega)
  have hb : ∀ y ∈ o.drop k, keyLt lot d y := by
    intro y hy
    obtain ⟨j, hj, rfl⟩ := List.mem_iff_getElem.1 hy
    rw [List.length_drop] at hj
    rw [List.getElem_drop]
    have hk : k < o.length := by omega
    have h0 := keyLt_of (h2 hk).1 (h2 hk).2
    rcases Nat.eq_zero_or_pos j with rfl | hjp
    · exact h0
    · exact keyLt_trans h0 (List.pairwise_iff_getElem.1 hs k (k + j) hk (by omega) (by omega))
  have hsplit : o.take k ++ o.drop k = o := List.take_append_drop k o
  refine ⟨?_, ?_, ?_⟩
  · have hs' := hs
    rw [← hsplit] at hs'
    obtain ⟨p1, p2, p3⟩ := List.pairwise_append.1 hs'
    rw [List.append_assoc]
    refine List.pairwise_append.2 ⟨p1, List.pairwise_append.2 ⟨List.pairwise_singleton _ _, p2, fun y hy z hz => ?_⟩, fun y hy z hz => ?_⟩
    · simp at hy; subst hy; exact hb z hz
    · rcases List.mem_append.1 hz with hz | hz
      · simp at hz; subst hz; exact ha y hy
      · exact p3 y hy z hz
  · intro hd
    rw [← hsplit] at hd
    rcases List.mem_append.1 hd with hd | hd
    · exact keyLt_irr (ha d hd)
    · exact keyLt_irr (hb d hd)
  · have : List.Perm (o.take k ++ [d]) ([d] ++ o.take k) := List.perm_append_comm
    refine (this.append_right _).trans ?_
    rw [List.append_assoc, hsplit]; exact .refl _

theorem refPlan_tr (c : Int) (a1 : Option Addr) (n1 c1 : Nat) (ds : List Int) (a2 : Option Addr) (n2 c2 : Nat) (ps : List Int) (R : Hp)
    (hd : IntsIn R a1 n1 ds) (hp : IntsIn R a2 n2 ps) (hn : n1 ≤ 500) (hn2 : n2 ≤ 100) :
    Tr Tryd.prog 12 [.int .i64 c, .slice a1 n1 c1, .slice a2 n2 c2] R [] (PlanQ (refLot c) c ds ps) := by
  have hl1 := hd.len
  have hl2 := hp.len
  refine Tr.intro tys_ok mix Tryd.func12 rfl rfl rfl ?_
  refine X_call (f := 1000) (C := fun r => Sub R r) [] rfl rfl rfl rfl (fun r hr => refRight_tr a2 n2 c2 ps r (hp.mono hr)) (fun r hr => hr.sub) ?_
  rintro v L' ⟨rfl, rfl⟩
  refine X_g (f := 1000) rfl ⟨_, rfl, rfl⟩ (fun h1 => ?_) (fun h1 => ?_)
  · have h1 : c < 1 := by simpa using h1
    refine X_ret (f := 1000) rfl rfl Tryd.func12 rfl fun h' hs => ⟨_, .bad (fun h => by have := h.lo; omega), hs.pick0 []⟩
  refine X_g (f := 1000) rfl ⟨_, rfl, rfl⟩ (fun h2 => ?_) (fun h2 => ?_)
  · have h2 : 1073741824 < c := by simpa using h2
    refine X_ret (f := 1000) rfl rfl Tryd.func12 rfl fun h' hs => ⟨_, .bad (fun h => by have := h.hi; omega), hs.pick0 []⟩
  have h1 : ¬ c < 1 := by simpa using h1
  have h2 : ¬ 1073741824 < c := by simpa using h2
  refine X_if (f := 1000) rfl ⟨_, rfl, rfl⟩ (fun h3 => ?_) (fun h3 => ?_)
  · have h3 : rightP ps = false := by simpa using h3
    refine X_ret (f := 1000) rfl rfl Tryd.func12 rfl fun h' hs => ⟨_, .bad (fun h => by have := h.rt; rw [h3] at this; cases this), hs.pick0 []⟩
  have h3 : rightP ps = true := by simpa using h3
  refine X_loop (f := 1000) [9] [0, 1, 2] [] (fun m vs L => ∃ i : Nat, i ≤ n1 ∧ m = n1 - i ∧ (∀ j (hj : j < ds.length), j < i → oddD ds[j] = false) ∧ vs = [.int .i64 i] ∧ L = []) rfl rfl rfl ⟨0, by omega, rfl, fun j hj h => by omega, rfl, rfl⟩ ?_
  rintro m vs L ⟨i, hi, rfl, hodd, rfl, rfl⟩ ih
  refine X_if (f := 1000) rfl ⟨_, rfl, rfl⟩ (fun h4 => ?_) (fun h4 => ?_)
  · have hlt : i < n1 := by simpa using h4
    obtain ⟨b, o, rfl, hxi, hcell⟩ := hd.at hlt
    have bad : oddD ds[i] = true → ¬ PlanOk c ds ps := fun h hk => by
      have := List.any_eq_false.1 hk.odd _ (List.getElem_mem hxi)
      exact this h
    refine X_idx (f := 1000) i rfl rfl rfl rfl (hlt) rfl rfl rfl rfl ?_
    refine X_loadR (f := 1000) rfl rfl (fun h hs => ldv_one rfl rfl rfl (Hp.cell_mono hs (by simpa using hcell))) ?_
    refine X_g (f := 1000) rfl ⟨_, rfl, rfl⟩ (fun h5 => ?_) (fun h5 => ?_)
    · have h5 : ds[i] < 1 := by simpa using h5
      refine X_ret (f := 1000) rfl rfl Tryd.func12 rfl fun h' hs => ⟨_, .bad (bad (by unfold oddD; exact decide_eq_true (.inl h5))), hs.pick0 []⟩
    have h5 : ¬ ds[i] < 1 := by simpa using h5
    refine X_idx (f := 1000) i rfl rfl rfl rfl (hlt) rfl rfl rfl rfl ?_
    refine X_loadR (f := 1000) rfl rfl (fun h hs => ldv_one rfl rfl rfl (Hp.cell_mono hs (by simpa using hcell))) ?_
    refine X_if (f := 1000) rfl ⟨_, rfl, rfl⟩ (fun h6 => ?_) (fun h6 => ?_)
    · have h6 : 4096 < ds[i] := by simpa using h6
      refine X_ret (f := 1000) rfl rfl Tryd.func12 rfl fun h' hs => ⟨_, .bad (bad (by unfold oddD; exact decide_eq_true (.inr h6))), hs.pick0 []⟩
    have h6 : ¬ 4096 < ds[i] := by simpa using h6
    refine X_ar (f := 1000) rfl rfl rfl (ar_add (by omega)) ?_
    refine X_again (f := 1000) [9] [0, 1, 2] [] rfl rfl rfl ?_
    refine ih (n1 - (i + 1)) _ _ (by omega) ⟨i + 1, by omega, rfl, fun j hj hji => ?_, rfl, rfl⟩
    by_cases hjj : j = i
    · subst hjj; unfold oddD; exact decide_eq_false (by omega)
    · exact hodd j hj (by omega)
  have hin : i = n1 := by
    have : ¬ (i < n1) := by simpa using h4
    omega
  have hok : PlanOk c ds ps := ⟨by omega, by omega, h3, by
    rw [List.any_eq_false]
    intro x hx
    obtain ⟨j, hj, rfl⟩ := List.mem_iff_getElem.1 hx
    rw [hodd j hj (by omega)]; simp⟩
  have hdev : ∀ x ∈ ds, 1 ≤ x ∧ x ≤ 4096 := by
    intro x hx
    have := List.any_eq_false.1 hok.odd x hx
    simp only [oddD, decide_eq_true_eq] at this
    omega
  refine Y.addE (ownS_nil 3 1) ?_
  refine X_loop (f := 1000) [10, 11] [0, 1, 2] [0] (fun m vs L => ∃ (i cp : Nat) (a : Option Addr) (o : List Int), i ≤ n1 ∧ m = n1 - i ∧ o.Perm (ds.take i) ∧ o.Pairwise (keyLt (refLot c)) ∧ (ds.take i).Nodup ∧ vs = [.slice a i cp, .int .i64 i] ∧ L = [ownS 3 1 a i cp (o.map iV)]) rfl rfl rfl
    ⟨0, 0, none, [], by omega, rfl, by simp, List.Pairwise.nil, by simp, rfl, rfl⟩ ?_
  clear ih hodd hin h4 hi
  rintro m vs L ⟨i, cp, a, o, hi, rfl, hperm, hsort, hnod, rfl, rfl⟩ ih
  have hol : o.length = i := by rw [hperm.length_eq, List.length_take]; omega
  refine X_if (f := 1000) rfl ⟨_, rfl, rfl⟩ (fun h7 => ?_) (fun h7 => ?_)
  · have hlt : i < n1 := by simpa using h7
    obtain ⟨b, oo, rfl, hxi, hcell⟩ := hd.at hlt
    have htk : ds.take (i + 1) = ds.take i ++ [ds[i]] := take_snoc hxi
    have hxd := hdev _ (List.getElem_mem hxi)
    have hxmem : ds[i] ∈ o → ¬ ds.Nodup := by
      intro hm hnn
      have h9 := hperm.mem_iff.1 hm
      have h10 : (ds.take (i + 1)).Nodup := hnn.sublist (List.take_sublist _ _)
      rw [htk] at h10
      exact (List.nodup_append.1 h10).2.2 _ h9 _ (by simp) rfl
    generalize ds[i] = x at hcell htk hxd hxmem
    refine X_loop (f := 1000) [12] [0, 1, 2, 10, 11] [0] (fun m vs L => ∃ (at' : Nat), at' ≤ i ∧ m = i - at' ∧ (∀ j (hj : j < o.length), j < at' → keyLt (refLot c) o[j] x) ∧ vs = [.int .i64 at'] ∧ L = [ownS 3 1 a i cp (o.map iV)]) rfl rfl rfl
      ⟨0, by omega, rfl, fun j hj h => by omega, rfl, rfl⟩ ?_
    rintro m vs L ⟨at', hat, rfl, hbef, rfl, rfl⟩ ih2
    refine X_draw (f := 1000) [] [0, 1, 2, 3, 4, 5, 6, 7, 8, 10, 11, 12, 9, 13, 14, 15] rfl rfl rfl (by decide +kernel) ?_
    refine X_g (f := 1000) rfl ⟨_, rfl, rfl⟩ (fun h8 => ?_) (fun h8 => ?_)
    · have hal : at' < i := by simpa using h8
      refine Y.ownAt (i := 0) rfl (fun _ h0 _ => by omega) fun g ha _ _ => ?_
      subst ha
      have hao : at' < o.length := by omega
      have hrd : ∀ (h h2 : Hp) (L2 : List HA), L2[0]? = some (ownS 3 1 (some ⟨g, 0, none⟩) i cp (o.map iV)) → ∀ R, Sat R L2 h → Eng.Sub h h2 → h2.cell ⟨g, 0 + at' * 1, none⟩ = some (iV o[at']) := by
        intro h h2 L2 hL R hs hsub
        rcases (hs.ownRd hL).mono hsub with h0 | ⟨b2, o2, hb2, hc⟩
        · have : o = [] := by simpa using h0
          subst this; simp at hao
        · cases hb2
          have := hc at' (iV o[at']) (by simp [hao])
          rw [Nat.mul_one]; exact this
      have hmemo : o[at'] ∈ ds := List.mem_of_mem_take (hperm.mem_iff.1 (List.getElem_mem hao))
      have hyd := hdev _ hmemo
      have hbef2 : keyLt (refLot c) o[at'] x → ∀ j (hj : j < o.length), j < at' + 1 → keyLt (refLot c) o[j] x := by
        intro hk j hj hja
        by_cases hjj : j = at'
        · subst hjj; exact hk
        · exact hbef j hj (by omega)
      have hins0 : ¬ keyLt (refLot c) o[at'] x → o[at'] ≠ x → _ := fun hh1 hh2 => insert_ok (d := x) (k := at') hsort (by omega) hbef (fun _ => ⟨hh1, hh2⟩)
      have hmx : o[at'] = x → x ∈ o := fun hh => hh ▸ List.getElem_mem hao
      generalize o[at'] = y at hrd hyd hbef2 hins0 hmx
      refine X_idx (f := 1000) at' rfl rfl rfl rfl (hal) rfl rfl rfl rfl ?_
      refine X_idx (f := 1000) i rfl rfl rfl rfl (hlt) rfl rfl rfl rfl ?_
      refine X_loadG (f := 1000) rfl rfl (fun h h2 hs hsub => ldv_one rfl rfl rfl (hrd h h2 _ rfl _ hs hsub)) ?_
      refine X_loadR (f := 1000) rfl rfl (fun h hs => ldv_one rfl rfl rfl (Hp.cell_mono hs (by simpa using hcell))) ?_
      refine X_call (f := 1000) (C := fun _ => True) [] rfl rfl rfl rfl (fun r _ => before_tr c y x ⟨by omega, by omega⟩ ⟨by omega, by omega⟩ ⟨by omega, by omega⟩ r) (fun _ _ => trivial) ?_
      rintro v L' ⟨t, rfl, ht, rfl⟩
      refine X_if (f := 1000) rfl ⟨_, rfl, rfl⟩ (fun h9 => ?_) (fun h9 => ?_)
      · refine X_ar (f := 1000) rfl rfl rfl (ar_add (by omega)) ?_
        refine X_again (f := 1000) [12] [0, 1, 2, 10, 11] [0] rfl rfl rfl ?_
        exact ih2 (i - (at' + 1)) _ _ (by omega) ⟨at' + 1, by omega, rfl, hbef2 (ht.1 h9), rfl, rfl⟩
      have hnk : ¬ keyLt (refLot c) y x := fun hh => by rw [ht.2 hh] at h9; cases h9
      refine X_draw (f := 1000) [] [0, 1, 2, 3, 4, 5, 6, 7, 9, 10, 11, 8, 12, 13, 14] rfl rfl rfl (by decide +kernel) ?_
      refine X_gT (f := 1000) rfl ⟨_, rfl, rfl⟩ (by simp; omega) ?_
      refine X_idx (f := 1000) at' rfl rfl rfl rfl (hal) rfl rfl rfl rfl ?_
      refine X_idx (f := 1000) i rfl rfl rfl rfl (hlt) rfl rfl rfl rfl ?_
      refine X_loadG (f := 1000) rfl rfl (fun h h2 hs hsub => ldv_one rfl rfl rfl (hrd h h2 _ rfl _ hs hsub)) ?_
      refine X_loadR (f := 1000) rfl rfl (fun h hs => ldv_one rfl rfl rfl (Hp.cell_mono hs (by simpa using hcell))) ?_
      refine X_if (f := 1000) rfl ⟨_, rfl, rfl⟩ (fun h10 => ?_) (fun h10 => ?_)
      · have h10 : y = x := by simpa using h10
        refine X_ret (f := 1000) rfl rfl Tryd.func12 rfl fun h' hs => ⟨_, .twice hok (hxmem (hmx h10)), hs.pick0 []⟩
      have h10 : ¬ y = x := by simpa using h10
      have hins := hins0 hnk h10
      refine Y.ownLe (i := 0) rfl fun hlen0 hcap0 _ => ?_
      refine X_mkslice (f := 1000) rfl rfl rfl rfl rfl rfl rfl fun b4 => ?_
      refine Y.toOwn (i := 1) (n := 0) (cp := 0) 1 rfl [] (Nat.le_refl _) (Nat.zero_le _) rfl rfl ?_
      refine X_slice (f := 1000) rfl rfl rfl rfl rfl rfl rfl rfl (.inl rfl) (by omega) rfl ?_
      refine X_app (f := 1000) (i := 1) (n := 0) (m := at') ((o.take at').map iV) rfl rfl rfl rfl rfl rfl rfl rfl rfl (by simp; omega) (by omega) (iV_one _) (by show _ * 8 ≤ _; omega) (by omega)
        (fun A h hs => ?_) fun a5 c5 => ?_
      · have := RdAt.part (fr := 0) (to := at') (k := 1) (hs.ownRd (i := 1) rfl) (by simp [hol]) (by omega) (by omega) hcap0
        simpa [List.map_take] using this
      refine X_idx (f := 1000) i rfl rfl rfl rfl (hlt) rfl rfl rfl rfl ?_
      refine X_loadR (f := 1000) rfl rfl (fun h hs => ldv_one rfl rfl rfl (Hp.cell_mono hs (by simpa using hcell))) ?_
      refine X_mkslice (f := 1000) rfl rfl rfl rfl rfl rfl rfl fun b5 => ?_
      refine X_append (f := 1000) (i := 1) [iV x] rfl rfl rfl rfl rfl rfl rfl rfl rfl (by omega) rfl (by omega) rfl (by show _ * 8 ≤ _; omega) (by omega)
        (fun A h hs => RdAt.of_block (hs.get (i := 3) rfl) ⟨[], rfl⟩) fun a6 c6 => ?_
      refine X_slice (f := 1000) rfl rfl rfl rfl rfl rfl rfl rfl (.inl rfl) (by omega) rfl ?_
      refine X_app (f := 1000) (i := 1) (m := i - at') ((o.drop at').map iV) rfl rfl rfl rfl rfl rfl rfl rfl rfl (by simp; omega) (by omega) (iV_one _) (by show _ * 8 ≤ _; omega) (by omega)
        (fun A h hs => ?_) fun a7 c7 => ?_
      · have := RdAt.part (fr := at') (to := i) (k := 1) (hs.ownRd (i := 1) rfl) (by simp [hol]) (by omega) (by omega) hcap0
        rw [List.take_of_length_le (by simp; omega)] at this
        simpa [List.map_drop] using this
      refine X_ar (f := 1000) rfl rfl rfl (ar_add (by omega)) ?_
      refine X_again (f := 1000) [10, 11] [0, 1, 2] [1] rfl rfl rfl ?_
      refine ih (n1 - (i + 1)) _ _ (by omega) ⟨i + 1, c7, a7, o.take at' ++ [x] ++ o.drop at', by omega, rfl, ?_, hins.1, ?_, ?_, ?_⟩
      · rw [htk]
        exact (hins.2.2.trans (List.perm_append_comm (l₁ := [x]) (l₂ := o))).trans (hperm.append_right _)
      · rw [htk]
        refine List.nodup_append.2 ⟨hnod, by simp, fun y hy z hz => ?_⟩
        simp at hz; subst hz
        rintro rfl; exact hins.2.1 (hperm.mem_iff.2 hy)
      · have : 0 + at' + 1 + (i - at') = i + 1 := by omega
        show [Value.slice a7 (0 + at' + 1 + (i - at')) c7, Value.int .i64 ((i : Int) + 1)] = [Value.slice a7 (i + 1) c7, Value.int .i64 ((i + 1 : Nat) : Int)]
        rw [this]; rfl
      · have : 0 + at' + 1 + (i - at') = i + 1 := by omega
        rw [← this, List.map_append, List.map_append]; rfl
    have hal : at' = i := by
      have : ¬ at' < i := by simpa using h8
      omega
    have hins := insert_ok (d := x) (k := at') hsort (by omega) hbef (fun h => by omega)
    refine X_draw (f := 1000) [] [0, 1, 2, 3, 4, 5, 6, 7, 9, 10, 11, 8, 12, 13, 14] rfl rfl rfl (by decide +kernel) ?_
    refine X_gF (f := 1000) rfl ⟨_, rfl, rfl⟩ (by simp; omega) ?_
    refine Y.ownLe (i := 0) rfl fun hlen0 hcap0 _ => ?_
    refine X_mkslice (f := 1000) rfl rfl rfl rfl rfl rfl rfl fun b4 => ?_
    refine Y.toOwn (i := 1) (n := 0) (cp := 0) 1 rfl [] (Nat.le_refl _) (Nat.zero_le _) rfl rfl ?_
    refine X_slice (f := 1000) rfl rfl rfl rfl rfl rfl rfl rfl (.inl rfl) (by omega) rfl ?_
    refine X_app (f := 1000) (i := 1) (n := 0) (m := at') ((o.take at').map iV) rfl rfl rfl rfl rfl rfl rfl rfl rfl (by simp; omega) (by omega) (iV_one _) (by show _ * 8 ≤ _; omega) (by omega)
      (fun A h hs => ?_) fun a5 c5 => ?_
    · have := RdAt.part (fr := 0) (to := at') (k := 1) (hs.ownRd (i := 1) rfl) (by simp [hol]) (by omega) (by omega) hcap0
      simpa [List.map_take] using this
    refine X_idx (f := 1000) i rfl rfl rfl rfl (hlt) rfl rfl rfl rfl ?_
    refine X_loadR (f := 1000) rfl rfl (fun h hs => ldv_one rfl rfl rfl (Hp.cell_mono hs (by simpa using hcell))) ?_
    refine X_mkslice (f := 1000) rfl rfl rfl rfl rfl rfl rfl fun b5 => ?_
    refine X_append (f := 1000) (i := 1) [iV x] rfl rfl rfl rfl rfl rfl rfl rfl rfl (by omega) rfl (by omega) rfl (by show _ * 8 ≤ _; omega) (by omega)
      (fun A h hs => RdAt.of_block (hs.get (i := 3) rfl) ⟨[], rfl⟩) fun a6 c6 => ?_
    refine X_slice (f := 1000) rfl rfl rfl rfl rfl rfl rfl rfl (.inl rfl) (by omega) rfl ?_
    refine X_app (f := 1000) (i := 1) (m := i - at') ((o.drop at').map iV) rfl rfl rfl rfl rfl rfl rfl rfl rfl (by simp; omega) (by omega) (iV_one _) (by show _ * 8 ≤ _; omega) (by omega)
      (fun A h hs => ?_) fun a7 c7 => ?_
    · have := RdAt.part (fr := at') (to := i) (k := 1) (hs.ownRd (i := 1) rfl) (by simp [hol]) (by omega) (by omega) hcap0
      rw [List.take_of_length_le (by simp; omega)] at this
      simpa [List.map_drop] using this
    refine X_ar (f := 1000) rfl rfl rfl (ar_add (by omega)) ?_
    refine X_again (f := 1000) [10, 11] [0, 1, 2] [1] rfl rfl rfl ?_
    refine ih (n1 - (i + 1)) _ _ (by omega) ⟨i + 1, c7, a7, o.take at' ++ [x] ++ o.drop at', by omega, rfl, ?_, hins.1, ?_, ?_, ?_⟩
    · rw [htk]
      exact (hins.2.2.trans (List.perm_append_comm (l₁ := [x]) (l₂ := o))).trans (hperm.append_right _)
    · rw [htk]
      refine List.nodup_append.2 ⟨hnod, by simp, fun y hy z hz => ?_⟩
      simp at hz; subst hz
      rintro rfl; exact hins.2.1 (hperm.mem_iff.2 hy)
    · have : 0 + at' + 1 + (i - at') = i + 1 := by omega
      show [Value.slice a7 (0 + at' + 1 + (i - at')) c7, Value.int .i64 ((i : Int) + 1)] = [Value.slice a7 (i + 1) c7, Value.int .i64 ((i + 1 : Nat) : Int)]
      rw [this]; rfl
    · have : 0 + at' + 1 + (i - at') = i + 1 := by omega
      rw [← this, List.map_append, List.map_append]; rfl
  have hin : i = n1 := by
    have : ¬ (i < n1) := by simpa using h7
    omega
  rw [List.take_of_length_le (by omega)] at hperm hnod
  refine Y.toRead (i := 0) rfl fun mm R' hm hR' hmR' => ?_
  have hordI : IntsIn R' a n1 o := ⟨by omega, (ownS_rd hm).mono hmR', by omega⟩
  have hc3 := ownS_le hm
  have hpR := hp.mono hR'
  refine Y.addE (ownS_nil 22 1) ?_
  refine Y.addE (A := innersH [] []) ⟨rfl, fun j v xs h => by simp at h⟩ ?_
  have hrp := h3
  simp only [rightP, decide_eq_true_eq] at hrp
  refine X_loop (f := 1000) [14, 15, 16] [2, 10] [1, 2] (fun m vs L => ∃ (i fr k cp : Nat) (a : Option Addr) (z : Int) (ws : List (Option Addr × Nat × Nat)) (xss : List (List Int)), i ≤ n2 ∧ k = i ∧ m = n2 - i ∧ fr = toN z n1 ∧ 0 ≤ z ∧ incL z (ps.drop i) = some 100 ∧ cuts o 0 ps = xss ++ cuts o fr (ps.drop i) ∧ vs = [.slice a k cp, .int .i64 fr, .int .i64 i] ∧ L = [ownS 22 1 a k cp (ws.map slV), innersH ws xss]) rfl rfl rfl
    ⟨0, 0, 0, 0, none, 0, [], [], by omega, rfl, rfl, by simp [toN], by omega, hrp.2.2, rfl, rfl, rfl⟩ ?_
  rintro m vs L ⟨i2, fr, k, cp2, a3, z, ws, xss, hi2, rfl, rfl, hfr, hz, hinc, hcut, rfl, rfl⟩ ih2
  refine X_if (f := 1000) rfl ⟨_, rfl, rfl⟩ (fun h8 => ?_) (fun h8 => ?_)
  · have hlt : k < n2 := by simpa using h8
    obtain ⟨b, oo, rfl, hxi, hcell⟩ := hpR.at hlt
    have hdrop : ps.drop k = ps[k] :: ps.drop (k + 1) := List.drop_eq_getElem_cons hxi
    generalize ps[k] = p at hcell hdrop
    rw [hdrop] at hinc hcut
    simp only [incL] at hinc
    have hzp : ¬ p ≤ z := fun hh => by rw [if_pos hh] at hinc; cases hinc
    rw [if_neg hzp] at hinc
    have hp100 := incL_le _ _ _ hinc
    have hm1 : z * (n1 : Int) ≤ p * n1 := mul_mono (by omega)
    have hm2 : p * (n1 : Int) ≤ 100 * n1 := mul_mono (by omega)
    have hm0 : 0 ≤ z * (n1 : Int) := Int.mul_nonneg hz (by omega)
    have hto : (p * (n1 : Int) + 99) / 100 = ((toN p n1 : Nat) : Int) := by unfold toN; omega
    have hfrto : fr ≤ toN p n1 := by rw [hfr]; unfold toN; omega
    have hton : toN p n1 ≤ n1 := by unfold toN; omega
    have hol2 : o.length = n1 := by omega
    subst hin
    refine X_idx (f := 1000) k rfl rfl rfl rfl (hlt) rfl rfl rfl rfl ?_
    refine X_loadR (f := 1000) rfl rfl (fun h hs => ldv_one rfl rfl rfl (Hp.cell_mono hs (by simpa using hcell))) ?_
    refine X_ar (f := 1000) rfl rfl rfl (ar_mul (by omega)) ?_
    refine X_ar (f := 1000) rfl rfl rfl (ar_add (by omega)) ?_
    refine X_ar (f := 1000) rfl rfl rfl (show arI .quo .i64 _ _ = some ((toN p i : Nat) : Int) from by rw [ar_quo (by omega), hto]) ?_
    refine X_mkslice (f := 1000) rfl rfl rfl rfl rfl rfl rfl fun b4 => ?_
    refine Y.toOwn (i := 2) (n := 0) (cp := 0) 1 rfl [] (Nat.le_refl _) (Nat.zero_le _) rfl rfl ?_
    refine X_slice (f := 1000) rfl rfl rfl rfl rfl rfl rfl rfl (.inl rfl) (by omega) rfl ?_
    refine X_app (f := 1000) (i := 2) (n := 0) (m := toN p i - fr) (((o.take (toN p i)).drop fr).map iV) rfl rfl rfl rfl rfl rfl rfl rfl rfl (by simp; omega) (by omega) (iV_one _) (by show _ * 8 ≤ _; omega) (by omega)
      (fun A h hs => ?_) fun a5 c5 => ?_
    · have := RdAt.part (fr := fr) (to := toN p i) (k := 1) (hordI.rd.mono hs.sub) (by simp [hol]) hfrto hton hc3
      simpa [List.map_take, List.map_drop] using this
    refine X_mkslice (f := 1000) rfl rfl rfl rfl rfl rfl rfl fun b5 => ?_
    refine X_append (f := 1000) (i := 0) [.slice a5 (0 + (toN p i - fr)) c5] rfl rfl rfl rfl rfl rfl rfl rfl rfl (by omega) rfl (by omega) rfl (by show _ * 24 ≤ _; omega) (by omega)
      (fun A h hs => RdAt.of_block (hs.get (i := 4) rfl) ⟨[], rfl⟩) fun a' c' => ?_
    refine Y.join (i := 1) (j := 2) (C := innersH (ws ++ [(a5, 0 + (toN p i - fr), c5)]) (xss ++ [(o.take (toN p i)).drop fr])) (by omega) rfl rfl ?_ ?_
    · rintro m1 m2 m hA hB hdj hs1 hs2 hmm
      exact innersH_snoc hA hB hs1 hs2
    refine X_ar (f := 1000) rfl rfl rfl (ar_add (by omega)) ?_
    refine X_again (f := 1000) [14, 15, 16] [2, 10] [0, 1] rfl rfl rfl ?_
    refine ih2 (n2 - (k + 1)) _ _ (by omega) ⟨k + 1, toN p i, k + 1, c', a', p, ws ++ [(a5, 0 + (toN p i - fr), c5)], xss ++ [(o.take (toN p i)).drop fr], by omega, rfl, rfl, rfl, by omega, hinc, ?_, rfl, ?_⟩
    · rw [hcut, List.append_assoc]; simp [cuts, hol2]
    · rw [List.map_append]; rfl
  have hin2 : k = n2 := by
    have : ¬ (k < n2) := by simpa using h8
    omega
  rw [List.drop_eq_nil_of_le (by omega), cuts, List.append_nil] at hcut
  have hsort2 : o.Pairwise (fun x y => ¬ keyLt (refLot c) y x) := hsort.imp fun {x y} h h' => keyLt_irr (keyLt_trans h h')
  refine X_ret (f := 1000) rfl rfl Tryd.func12 rfl fun h' hs => ⟨_, PlanQ.fine hok hnod (o := o) (xss := xss) ⟨hperm, hsort2, hcut.symm⟩ (by omega), (hs.pick0 [0, 1]).low hR'⟩
end Go.Proofs.YthabnmihfgoabaaDoor
namespace Go.Proofs.YthabnmihfgoabaaDoor
open Go Go.Eng
set_option maxRecDepth 100000

/-! ### The table's sum is the plain one -/
theorem two_xor (a b : Nat) : 2 * (a ^^^ b) = (2 * a) ^^^ (2 * b) := by
  have := Nat.shiftLeft_xor_distrib (a := a) (b := b) (i := 1)
  simp only [Nat.shiftLeft_eq, Nat.pow_one] at this
  rw [Nat.mul_comm 2, Nat.mul_comm 2, Nat.mul_comm 2]; exact this
theorem crcBit_eq {s : Nat} (h : s < 16777216) : crcBit s = (2 * s) ^^^ (if s.testBit 23 then 25578747 else 0) := by
  have ht : s.testBit 23 = decide (2 * s ≥ 16777216) := by
    rw [Nat.testBit_eq_decide_div_mod_eq]
    congr 1
    exact propext ⟨fun h => by omega, fun h => by omega⟩
  unfold crcBit
  rw [ht]
  by_cases h2 : 2 * s ≥ 16777216
  · rw [if_pos h2, if_pos (decide_eq_true h2)]
  · rw [if_neg h2, if_neg (by simpa using h2), Nat.xor_zero]
theorem xor_lt24 {a b : Nat} (ha : a < 16777216) (hb : b < 16777216) : a ^^^ b < 16777216 := Nat.xor_lt_two_pow (n := 24) ha hb
theorem crcBit_xor {a b : Nat} (ha : a < 16777216) (hb : b < 16777216) : crcBit (a ^^^ b) = crcBit a ^^^ crcBit b := by
  rw [crcBit_eq (xor_lt24 ha hb), crcBit_eq ha, crcBit_eq hb, two_xor, Nat.testBit_xor]
  generalize 2 * a = x
  generalize 2 * b = y
  generalize (25578747 : Nat) = p
  cases a.testBit 23 <;> cases b.testBit 23
  · simp
  · simp [Nat.xor_assoc]
  · simp only [Bool.xor_false, if_true, Bool.false_eq_true, if_false, Nat.xor_zero]
    rw [Nat.xor_assoc, Nat.xor_comm y p, ← Nat.xor_assoc]
  · simp only [Bool.xor_self, if_true, Bool.false_eq_true, if_false, Nat.xor_zero]
    rw [Nat.xor_assoc x p, Nat.xor_comm y p, ← Nat.xor_assoc p p y, Nat.xor_self, Nat.zero_xor]
theorem bits8_xor {a b : Nat} (ha : a < 16777216) (hb : b < 16777216) : ∀ k, bits8 (a ^^^ b) k = bits8 a k ^^^ bits8 b k
  | 0 => by simp [bits8]
  | k + 1 => by rw [bits8_succ, bits8_xor ha hb k, crcBit_xor (bits8_lt ha k) (bits8_lt hb k), ← bits8_succ, ← bits8_succ]
theorem bits8_low {x : Nat} (h : x < 1048576) : bits8 x 4 = x * 16 := by
  have e : ∀ y, y < 8388608 → crcBit y = 2 * y := fun y hy => by unfold crcBit; rw [if_neg (by omega)]
  rw [bits8_succ, bits8_succ, bits8_succ, bits8_succ, bits8, e x (by omega), e (2 * x) (by omega), e (2 * (2 * x)) (by omega), e (2 * (2 * (2 * x))) (by omega)]
  omega
theorem bits8_high : ∀ h, h < 16 → bits8 (h * 1048576) 4 = stepsL.getD h 0 := by decide
theorem split20 (s : Nat) : s = (s / 1048576 * 1048576) ^^^ (s % 1048576) := by
  apply Nat.eq_of_testBit_eq
  intro i
  have e1 : (s / 1048576 * 1048576).testBit i = (decide (20 ≤ i) && s.testBit i) := by
    rw [show s / 1048576 * 1048576 = (s >>> 20) <<< 20 by simp [Nat.shiftLeft_eq, Nat.shiftRight_eq_div_pow]]
    rw [Nat.testBit_shiftLeft, Nat.testBit_shiftRight]
    by_cases hi : 20 ≤ i
    · simp [hi]
    · simp [hi]
  have e2 : (s % 1048576).testBit i = (decide (i < 20) && s.testBit i) := by
    rw [show (1048576 : Nat) = 2 ^ 20 by rfl, Nat.testBit_mod_two_pow]
  rw [Nat.testBit_xor, e1, e2]
  by_cases hi : 20 ≤ i
  · have : ¬ i < 20 := by omega
    simp [hi, this]
  · have : i < 20 := by omega
    simp [hi, this]
theorem step_bits {s : Nat} (h : s < 16777216) : crcStep stepsL s = bits8 s 4 := by
  have hh : s / 1048576 < 16 := by omega
  have h1 : bits8 s 4 = bits8 (s / 1048576 * 1048576) 4 ^^^ bits8 (s % 1048576) 4 := by
    conv => lhs; rw [split20 s]
    exact bits8_xor (by omega) (by omega) 4
  rw [h1, bits8_high _ hh, bits8_low (by omega)]
  unfold crcStep
  have h2 : (s * 2 ^ 4) &&& 16777215 = s % 1048576 * 16 := by
    rw [show (16777215 : Nat) = 2 ^ 24 - 1 by rfl, Nat.and_two_pow_sub_one_eq_mod]
    omega
  rw [h2, show (2 : Nat) ^ 20 = 1048576 by rfl, Nat.xor_comm]
theorem bits8_add (s : Nat) (j : Nat) : ∀ k, bits8 s (j + k) = bits8 (bits8 s j) k
  | 0 => by simp [bits8]
  | k + 1 => by rw [← Nat.add_assoc, bits8_succ, bits8_succ, bits8_add s j k]
theorem bits8_8 (t : Nat) : bits8 t 8 = bits8 (bits8 t 4) 4 := by
  have := bits8_add t 4 4
  simpa only [Nat.reduceAdd] using this
theorem crcL_cons (st : List Nat) (s b : Nat) (r : List Nat) : crcL st s (b :: r) = crcL st (crcStep st (crcStep st (s ^^^ (b * 2 ^ 16)))) r := by unfold crcL; rw [List.foldl_cons, crcByte]
theorem sums_eq : ∀ (bs : List Nat) (s : Nat), s < 16777216 → (∀ b ∈ bs, b < 256) → crcL stepsL s bs = refL s bs := by
  intro bs
  induction bs with
  | nil => intro s _ _; unfold crcL refL; rw [List.foldl_nil, List.foldl_nil]
  | cons b r ih =>
    intro s hs hb
    have hb0 := hb b (by simp)
    have hx : s ^^^ (b * 65536) < 16777216 := xor_lt24 hs (by omega)
    rw [refL_cons, bits8_8, ← step_bits (bits8_lt hx 4), ← step_bits hx]
    have hlt : crcStep stepsL (crcStep stepsL (s ^^^ (b * 65536))) < 16777216 := crcStep_lt (by decide) _
    rw [← ih _ hlt fun b hb' => hb b (by simp [hb']), crcL_cons]
theorem lots_eq (c d : Int) : lotN stepsL c d = refLot c d := by
  unfold lotN refLot
  rw [show 11994318 &&& 16777215 = 11994318 by decide]
  exact sums_eq _ _ (by omega) fun b hb => by rcases List.mem_append.1 hb with h | h; exact bsOf_lt _ _ h; exact bsOf_lt _ _ h

theorem plans (c : Int) (a1 : Option Addr) (n1 c1 : Nat) (ds : List Int) (a2 : Option Addr) (n2 c2 : Nat) (ps : List Int) (w : World) (hp : Hp) (hon : On w hp) (hd : IntsIn hp a1 n1 ds) (hq : IntsIn hp a2 n2 ps) (hst : StepsIn hp stepsL) :
    Calls Tryd.prog 3 #[.int .i64 c, .slice a1 n1 c1, .slice a2 n2 c2] w fun e w' => ∃ v h', e = .returned v ∧ (v = .bool true ∧ Sub hp h') ∧ On w' h' ∧ Keep w w' := by
  have hl1 := hd.len
  have hlot : lotN stepsL c = refLot c := funext (lots_eq c)
  refine calls_of_Y (args := [.int .i64 c, .slice a1 n1 c1, .slice a2 n2 c2]) (Rp := fun v h' => v = .bool true ∧ Sub hp h') tys_ok mix Tryd.func3 rfl rfl hon ?_
  refine X_call (f := 1000) (C := fun r => Sub hp r) [] rfl rfl rfl rfl (fun r hr => awake_tr stepsL r ⟨hst.len, hst.lt, fun i hi => Hp.cell_mono hr (hst.cell i hi)⟩) (fun r hr => hr.sub) ?_
  rintro v L' ⟨rfl, rfl⟩
  refine X_gF (f := 1000) rfl ⟨_, rfl, rfl⟩ rfl ?_
  refine X_g (f := 1000) rfl ⟨_, rfl, rfl⟩ (fun h1 => ?_) (fun h1 => ?_)
  · refine X_ret (f := 1000) rfl rfl Tryd.func3 rfl fun h' hs => ⟨rfl, hs.sub⟩
  have h1 : ¬ (500 : Int) < n1 := by simpa using h1
  refine X_if (f := 1000) rfl ⟨_, rfl, rfl⟩ (fun h2 => ?_) (fun h2 => ?_)
  · refine X_ret (f := 1000) rfl rfl Tryd.func3 rfl fun h' hs => ⟨rfl, hs.sub⟩
  have h2 : ¬ (100 : Int) < n2 := by simpa using h2
  refine X_call (f := 1000) (C := fun r => Sub hp r) [] rfl rfl rfl rfl (fun r hr => plan_tr stepsL c a1 n1 c1 ds a2 n2 c2 ps r (hd.mono hr) (hq.mono hr) (by omega) (by omega) ⟨hst.len, hst.lt, fun i hi => Hp.cell_mono hr (hst.cell i hi)⟩) (fun r hr => hr.sub) ?_
  rw [hlot]
  rintro v L' hp1
  cases hp1 with
  | bad hb =>
    refine X_call (f := 1000) (C := fun r => Sub hp r) [] rfl rfl rfl rfl (fun r hr => refPlan_tr c a1 n1 c1 ds a2 n2 c2 ps r (hd.mono hr) (hq.mono hr) (by omega) (by omega)) (fun r hr => hr.sub) ?_
    rintro v L' hp2
    cases hp2 with
    | bad hb2 =>
      refine X_call (f := 1000) (C := fun _ => True) [] rfl rfl rfl rfl (fun r _ => same_tr none 0 0 [] [] none 0 0 [] [] r ⟨rfl, rfl, Nat.zero_le _, .inl rfl, fun j v xs h _ => by simp at h⟩ ⟨rfl, rfl, Nat.zero_le _, .inl rfl, fun j v xs h _ => by simp at h⟩) (fun _ _ => trivial) ?_
      rintro v L' ⟨rfl, rfl⟩
      refine X_gT (f := 1000) rfl ⟨_, rfl, rfl⟩ rfl ?_
      refine X_gT (f := 1000) rfl ⟨_, rfl, rfl⟩ rfl ?_
      refine X_call (f := 1000) (C := fun r => Sub hp r) [] rfl rfl rfl rfl (fun r hr => right_tr a2 n2 c2 ps r (hq.mono hr)) (fun r hr => hr.sub) ?_
      rintro v L' ⟨rfl, rfl⟩
      refine X_call (f := 1000) (C := fun r => Sub hp r) [] rfl rfl rfl rfl (fun r hr => refRight_tr a2 n2 c2 ps r (hq.mono hr)) (fun r hr => hr.sub) ?_
      rintro v L' ⟨rfl, rfl⟩
      refine X_eqB (f := 1000) rfl rfl rfl rfl rfl rfl rfl ?_
      refine X_ret (f := 1000) rfl rfl Tryd.func3 rfl fun h' hs => ⟨by simp [tupV, SV.den], hs.sub⟩
    | twice h _ => exact absurd h hb
    | fine h _ _ _ => exact absurd h hb
  | twice hk hnd =>
    refine X_call (f := 1000) (C := fun r => Sub hp r) [] rfl rfl rfl rfl (fun r hr => refPlan_tr c a1 n1 c1 ds a2 n2 c2 ps r (hd.mono hr) (hq.mono hr) (by omega) (by omega)) (fun r hr => hr.sub) ?_
    rintro v L' hp2
    cases hp2 with
    | bad hb2 => exact absurd hk hb2
    | twice h _ =>
      refine X_call (f := 1000) (C := fun _ => True) [] rfl rfl rfl rfl (fun r _ => same_tr none 0 0 [] [] none 0 0 [] [] r ⟨rfl, rfl, Nat.zero_le _, .inl rfl, fun j v xs h _ => by simp at h⟩ ⟨rfl, rfl, Nat.zero_le _, .inl rfl, fun j v xs h _ => by simp at h⟩) (fun _ _ => trivial) ?_
      rintro v L' ⟨rfl, rfl⟩
      refine X_gT (f := 1000) rfl ⟨_, rfl, rfl⟩ rfl ?_
      refine X_gT (f := 1000) rfl ⟨_, rfl, rfl⟩ rfl ?_
      refine X_call (f := 1000) (C := fun r => Sub hp r) [] rfl rfl rfl rfl (fun r hr => right_tr a2 n2 c2 ps r (hq.mono hr)) (fun r hr => hr.sub) ?_
      rintro v L' ⟨rfl, rfl⟩
      refine X_call (f := 1000) (C := fun r => Sub hp r) [] rfl rfl rfl rfl (fun r hr => refRight_tr a2 n2 c2 ps r (hq.mono hr)) (fun r hr => hr.sub) ?_
      rintro v L' ⟨rfl, rfl⟩
      refine X_eqB (f := 1000) rfl rfl rfl rfl rfl rfl rfl ?_
      refine X_ret (f := 1000) rfl rfl Tryd.func3 rfl fun h' hs => ⟨by simp [tupV, SV.den], hs.sub⟩
    | fine h h2 _ _ => exact absurd h2 hnd
  | fine hk hnd hpl hn =>
    rename_i o xss a3 n3 c3 vs
    refine Y.lists (i := 0) (j := 1) (by omega) rfl rfl fun R1 hR1 hL1 => ?_
    have hd1 := hd.mono hR1
    have hq1 := hq.mono hR1
    refine X_call (f := 1000) (C := fun r => Sub R1 r) [] rfl rfl rfl rfl (fun r hr => refPlan_tr c a1 n1 c1 ds a2 n2 c2 ps r (hd1.mono hr) (hq1.mono hr) (by omega) (by omega)) (fun r hr => hr.sub) ?_
    rintro v L' hp2
    cases hp2 with
    | bad hb2 => exact absurd hk hb2
    | twice h h2 => exact absurd hnd h2
    | fine h h2 hpl2 hn2 =>
      rename_i o2 xss2 a4 n4 c4 vs2
      refine Y.lists (i := 2) (j := 3) (by omega) rfl rfl fun R2 hR2 hL2 => ?_
      have hL1' := hL1.mono hR2
      have hq2 := hq1.mono hR2
      have hxx : xss = xss2 := cuts_perm hpl hpl2 (.refl _)
      refine X_call (f := 1000) (C := fun r => Sub R2 r) [] rfl rfl rfl rfl (fun r hr => same_tr _ _ c3 _ _ _ _ c4 _ _ r (hL1'.mono hr) (hL2.mono hr)) (fun r hr => hr.sub) ?_
      rintro v L' ⟨rfl, rfl⟩
      rw [decide_eq_true hxx]
      refine X_gT (f := 1000) rfl ⟨_, rfl, rfl⟩ rfl ?_
      refine X_gT (f := 1000) rfl ⟨_, rfl, rfl⟩ rfl ?_
      refine X_call (f := 1000) (C := fun r => Sub R2 r) [] rfl rfl rfl rfl (fun r hr => right_tr a2 n2 c2 ps r (hq2.mono hr)) (fun r hr => hr.sub) ?_
      rintro v L' ⟨rfl, rfl⟩
      refine X_call (f := 1000) (C := fun r => Sub R2 r) [] rfl rfl rfl rfl (fun r hr => refRight_tr a2 n2 c2 ps r (hq2.mono hr)) (fun r hr => hr.sub) ?_
      rintro v L' ⟨rfl, rfl⟩
      refine X_eqB (f := 1000) rfl rfl rfl rfl rfl rfl rfl ?_
      refine X_ret (f := 1000) rfl rfl Tryd.func3 rfl fun h' hs => ⟨by simp [tupV, SV.den], hR1.trans (hR2.trans hs.sub)⟩
end Go.Proofs.YthabnmihfgoabaaDoor
