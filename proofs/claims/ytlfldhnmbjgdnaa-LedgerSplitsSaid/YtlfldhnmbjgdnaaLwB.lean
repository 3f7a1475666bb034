/-
  Lemmas for the walk: how the machine steps, and what each step needs; no condition.
-/
import Derived.Test.YtlfldhnmbjgdnaaLwA
import Derived.Test.YtlfldhnmbjgdnaaEngC
namespace Go.Proofs.Ytlfldhnmbjgdnaa
open Go Go.Eng
set_option maxRecDepth 100000

theorem split_count {E : List Ent} {xs : List Int} {p : Int → Bool} {g1 b1 g2 b2 g b : Int} (h1 : CountOk E (xs.filter p) g1 b1) (h2 : CountOk E (xs.filter fun x => !p x) g2 b2) (h : CountOk E xs g b) : g1 + g2 = g ∧ b1 + b2 = b := by
  constructor
  · obtain ⟨w1, n1, m1, rfl⟩ := h1.good
    obtain ⟨w2, n2, m2, rfl⟩ := h2.good
    obtain ⟨w, n, m, rfl⟩ := h.good
    have hnd : (w1 ++ w2).Nodup := by
      refine List.nodup_append.2 ⟨n1, n2, fun x hx y hy => ?_⟩
      rintro rfl
      have h3 := ((m1 x).1 hx).1
      have h4 := ((m2 x).1 hy).1
      simp only [List.mem_filter] at h3 h4
      simp [h3.2] at h4
    have := len_of_same hnd n fun x => by
      rw [List.mem_append, m1, m2, m]
      simp only [List.mem_filter]
      constructor
      · rintro (⟨⟨h3, -⟩, h4⟩ | ⟨⟨h3, -⟩, h4⟩) <;> exact ⟨h3, h4⟩
      · rintro ⟨h3, h4⟩
        cases hp : p x
        · right; exact ⟨⟨h3, by simp⟩, h4⟩
        · left; exact ⟨⟨h3, rfl⟩, h4⟩
    rw [List.length_append] at this
    omega
  · have e1 := h1.bad
    have e2 := h2.bad
    have e := h.bad
    have : ∀ E : List Ent, (E.filter fun e => decide (e.d ∈ xs.filter p) && decide (e.o ≠ 1)).length + (E.filter fun e => decide (e.d ∈ xs.filter fun x => !p x) && decide (e.o ≠ 1)).length = (E.filter fun e => decide (e.d ∈ xs) && decide (e.o ≠ 1)).length := by
      intro E
      induction E with
      | nil => rfl
      | cons e r ih =>
        simp only [List.filter_cons]
        by_cases ho : e.o = 1
        · simp only [ho, ne_eq, not_true_eq_false, decide_false, Bool.and_false, Bool.false_eq_true, if_false] at ih ⊢; exact ih
        · by_cases hm : e.d ∈ xs
          · cases hp : p e.d
            · simp only [List.mem_filter, hm, hp, ho] at ih ⊢; simp [ho] at ih ⊢; omega
            · simp only [List.mem_filter, hm, hp, ho] at ih ⊢; simp [ho] at ih ⊢; omega
          · simp only [List.mem_filter, hm, ho] at ih ⊢; simp at ih ⊢; omega
    have := this E
    omega

theorem ar_and1 (x : Int) : ∃ z, arI .and .i64 x 1 = some z := ⟨_, rfl⟩
def oddB (x : Int) : Bool := decide (arI .and .i64 x 1 = some 1)

/-- what the call of LedgerSplits does -/
theorem splits (a : Option Addr) (n cap : Nat) (es : List Ent) (a2 : Option Addr) (n2 cap2 : Nat) (xs : List Int) (w : World) (h : Hp) (hon : On w h) (he : EntsAt h a n es) (hx : IntsAt h a2 n2 xs) :
    Calls Try.prog 4 #[.slice a n cap, .slice a2 n2 cap2] w fun e w' => ∃ v h', e = .returned v ∧ (v = .bool true ∧ Sub h h') ∧ On w' h' ∧ Keep w w' := by
  refine calls_of_Y (args := [.slice a n cap, .slice a2 n2 cap2]) (Rp := fun v h' => v = .bool true ∧ Sub h h') tys_ok mix Try.func4 rfl rfl hon ?_
  refine X_call (f := 1000) (C := fun _ => True) [] rfl rfl rfl rfl (fun r _ => awake_tr r) (fun _ _ => trivial) ?_
  rintro x L' ⟨rfl, rfl⟩
  refine X_call (f := 1000) (C := fun _ => True) [] rfl rfl rfl rfl (fun r _ => new_tr r) (fun _ _ => trivial) ?_
  rintro x L' ⟨p, mb, rfl, rfl⟩
  refine X_gF (f := 1000) rfl ⟨_, rfl, rfl⟩ rfl ?_
  refine X_if (f := 1000) rfl ⟨_, rfl, rfl⟩ (fun h1 => ?_) (fun h1 => ?_)
  · refine X_gT (f := 1000) rfl ⟨_, rfl, rfl⟩ rfl ?_
    refine X_ret (f := 1000) rfl rfl Try.func4 rfl fun h' hs => ⟨by simp [tupV, SV.den], hs.sub⟩
  · have hn2 : n2 ≤ 100 := by
      have : ¬ ((n2 : Int) > 100) := by simpa using h1
      omega
    refine X_loop (f := 1000) [7] [0, 1, 6] [0, 1] (fun m vs L => ∃ (i : Nat) (E : List Ent), i ≤ n ∧ i ≤ 150 ∧ m = 150 - i ∧ E.length ≤ i ∧ vs = [.int .i64 i] ∧ L = ledH p mb E)
      rfl rfl rfl ⟨0, [], by omega, by omega, rfl, by simp, rfl, rfl⟩ ?_
    rintro m vs L ⟨i, E, hi, hi2, rfl, hE, rfl, rfl⟩ ih
    refine X_g (f := 1000) rfl ⟨_, rfl, rfl⟩ (fun h2 => X_if (f := 1000) rfl ⟨_, rfl, rfl⟩ (fun h3 => ?body) (fun h3 => ?e2)) (fun h2 => ?e1)
    case body =>
      have hlt : i < n := by simpa using h2
      have hlt2 : i < 150 := by
        have : (i : Int) < 150 := by simpa using h3
        omega
      have hie : i < es.length := by rw [he.len]; exact hlt
      rcases he.rd with h0 | ⟨bb, o, rfl, hcell⟩
      · have h5 := flat_get es i hie 0 _ rfl; rw [h0] at h5; simp at h5
      have hce : ∀ j v, (es[i]).cells[j]? = some v → h.cell ⟨bb, o + i * 4 + j, none⟩ = some v := fun j v hj => by
        have := hcell _ _ (flat_get es i hie j v hj); rw [Nat.add_assoc]; exact this
      generalize es[i] = e at hce
      refine X_idx (f := 1000) i rfl rfl rfl rfl hlt rfl rfl rfl rfl ?_
      refine X_loadR (f := 1000) rfl rfl (fun h2 hs => ldv_agg (cl := e.cells) rfl rfl rfl rfl fun j v hj => Hp.cell_mono hs (hce j v hj)) ?_
      refine X_call (f := 1000) (C := fun _ => True) [0, 1] rfl rfl rfl rfl (fun r _ => record_tr p mb E e r) (fun _ _ => trivial) ?_
      rintro x L' ⟨-, rfl⟩
      have hrl := recE_len E e
      refine X_ar (f := 1000) rfl rfl rfl (ar_add (by omega)) ?_
      refine X_again (f := 1000) [7] [0, 1, 6] [0, 1] rfl rfl rfl ?_
      exact ih (150 - (i + 1)) _ _ (by omega) ⟨i + 1, recE E e, by omega, by omega, rfl, by omega, rfl, rfl⟩
    all_goals
      refine Y.addE (ownS_nil 3 1) ?_
      refine Y.addE (ownS_nil 3 1) ?_
      refine X_loop (f := 1000) [8, 9, 10] [1, 6] [0, 1, 2, 3] (fun m vs L => ∃ (i n3 n4 c3 c4 : Nat) (a3 a4 : Option Addr) (os ev : List Int), i ≤ n2 ∧ m = n2 - i ∧ n3 ≤ i ∧ n4 ≤ i ∧ os.length = n3 ∧ ev.length = n4 ∧ os = (xs.take i).filter oddB ∧ ev = ((xs.take i).filter fun x => !oddB x) ∧
          vs = [.slice a3 n3 c3, .slice a4 n4 c4, .int .i64 i] ∧ L = ledH p mb E ++ [ownS 3 1 a3 n3 c3 (os.map intV), ownS 3 1 a4 n4 c4 (ev.map intV)])
        rfl rfl rfl ⟨0, 0, 0, 0, 0, none, none, [], [], by omega, rfl, by omega, by omega, rfl, rfl, by simp, by simp, rfl, rfl⟩ ?_
      rintro m vs L ⟨i2, n3, n4, c3, c4, a3, a4, os, ev, hi3, rfl, hn3, hn4, ho, hv, hos, hev, rfl, rfl⟩ ih2
      refine X_if (f := 1000) rfl ⟨_, rfl, rfl⟩ (fun h4 => ?_) (fun h4 => ?_)
      · have hlt : i2 < n2 := by simpa using h4
        have hix : i2 < xs.length := by rw [hx.len]; exact hlt
        rcases hx.rd with h0 | ⟨bb, o, rfl, hcell⟩
        · have : (xs.map intV)[i2]? = some (intV xs[i2]) := by rw [List.getElem?_map, List.getElem?_eq_getElem hix]; rfl
          rw [h0] at this; simp at this
        have hce : h.cell ⟨bb, o + i2, none⟩ = some (intV xs[i2]) := hcell _ _ (by rw [List.getElem?_map, List.getElem?_eq_getElem hix]; rfl)
        have htk : xs.take (i2 + 1) = xs.take i2 ++ [xs[i2]] := by rw [List.take_add_one, List.getElem?_eq_getElem hix]; rfl
        generalize xs[i2] = e at hce htk
        obtain ⟨z, hz⟩ := ar_and1 e
        refine X_idx (f := 1000) i2 rfl rfl rfl rfl hlt rfl rfl rfl rfl ?_
        refine X_loadR (f := 1000) rfl rfl (fun h2 hs => ldv_one rfl rfl rfl (Hp.cell_mono hs (by simpa using hce))) ?_
        refine X_ar (f := 1000) rfl rfl rfl hz ?_
        have hodd : oddB e = decide (z = 1) := by simp [oddB, hz]
        refine X_if (f := 1000) rfl ⟨_, rfl, rfl⟩ (fun h5 => ?_) (fun h5 => ?_)
        · refine X_idx (f := 1000) i2 rfl rfl rfl rfl hlt rfl rfl rfl rfl ?_
          refine X_loadR (f := 1000) rfl rfl (fun h2 hs => ldv_one rfl rfl rfl (Hp.cell_mono hs (by simpa using hce))) ?_
          refine X_mkslice (f := 1000) rfl rfl rfl rfl rfl rfl rfl fun b1 => ?_
          refine X_append (f := 1000) (i := 2) [intV e] rfl rfl rfl rfl rfl rfl rfl rfl rfl (by omega) rfl (by omega) rfl (by show _ * 8 ≤ _; omega) (by omega)
            (fun A h hs => RdAt.of_block (hs.get (i := 5) rfl) ⟨[], rfl⟩) fun a' c' => ?_
          refine X_ar (f := 1000) rfl rfl rfl (ar_add (by omega)) ?_
          refine X_again (f := 1000) [8, 9, 10] [1, 6] [0, 1, 2, 3] rfl rfl rfl ?_
          refine ih2 (n2 - (i2 + 1)) _ _ (by omega) ⟨i2 + 1, n3 + 1, n4, c', c4, a', a4, os ++ [e], ev, by omega, rfl, by omega, by omega, by simp [ho], hv, ?_, ?_, rfl, ?_⟩
          · rw [htk, List.filter_append, hos]; simp [hodd, h5]
          · rw [htk, List.filter_append, hev]; simp [hodd, h5]
          · rw [List.map_append]; rfl
        · refine X_idx (f := 1000) i2 rfl rfl rfl rfl hlt rfl rfl rfl rfl ?_
          refine X_loadR (f := 1000) rfl rfl (fun h2 hs => ldv_one rfl rfl rfl (Hp.cell_mono hs (by simpa using hce))) ?_
          refine X_mkslice (f := 1000) rfl rfl rfl rfl rfl rfl rfl fun b1 => ?_
          refine X_append (f := 1000) (i := 3) [intV e] rfl rfl rfl rfl rfl rfl rfl rfl rfl (by omega) rfl (by omega) rfl (by show _ * 8 ≤ _; omega) (by omega)
            (fun A h hs => RdAt.of_block (hs.get (i := 5) rfl) ⟨[], rfl⟩) fun a' c' => ?_
          refine X_ar (f := 1000) rfl rfl rfl (ar_add (by omega)) ?_
          refine X_again (f := 1000) [8, 9, 10] [1, 6] [0, 1, 2, 3] rfl rfl rfl ?_
          refine ih2 (n2 - (i2 + 1)) _ _ (by omega) ⟨i2 + 1, n3, n4 + 1, c3, c', a3, a', os, ev ++ [e], by omega, rfl, by omega, by omega, ho, by simp [hv], ?_, ?_, rfl, ?_⟩
          · rw [htk, List.filter_append, hos]; simp [hodd, h5]
          · rw [htk, List.filter_append, hev]; simp [hodd, h5]
          · rw [List.map_append]; rfl
      · have hie : i2 = n2 := by
          have : ¬ (i2 < n2) := by simpa using h4
          omega
        have htk : xs.take i2 = xs := List.take_of_length_le (by rw [hx.len]; omega)
        rw [htk] at hos hev
        refine X_call (f := 1000) (C := fun r => IntsAt r a3 n3 os) [0, 1] rfl rfl rfl rfl (fun r hr => counts_tr p mb E _ _ _ _ r hr (by omega)) (fun r hr => ⟨ho, hr.ownRd (i := 2) rfl, by omega⟩) ?_
        rintro x L' ⟨⟨g1, k1, rfl, hc1⟩, rfl⟩
        refine X_call (f := 1000) (C := fun r => IntsAt r a4 n4 ev) [0, 1] rfl rfl rfl rfl (fun r hr => counts_tr p mb E _ _ _ _ r hr (by omega)) (fun r hr => ⟨hv, hr.ownRd (i := 3) rfl, by omega⟩) ?_
        rintro x L' ⟨⟨g2, k2, rfl, hc2⟩, rfl⟩
        refine X_call (f := 1000) (C := fun r => IntsAt r a2 n2 xs) [0, 1] rfl rfl rfl rfl (fun r hr => counts_tr p mb E _ _ _ _ r hr (by omega)) (fun r hr => ⟨hx.len, hx.rd.mono hr.sub, hx.small⟩) ?_
        rintro x L' ⟨⟨g3, k3, rfl, hc3⟩, rfl⟩
        subst hos hev
        have hsum := split_count hc1 hc2 hc3
        have hb1 := hc1.bnd
        have hb2 := hc2.bnd
        refine X_ar (f := 1000) rfl rfl rfl (ar_add (by omega)) ?_
        refine X_gT (f := 1000) rfl ⟨_, rfl, rfl⟩ (by simp; omega) ?_
        refine X_ar (f := 1000) rfl rfl rfl (ar_add (by omega)) ?_
        refine X_ret (f := 1000) rfl rfl Try.func4 rfl fun h' hs => ⟨?_, hs.sub⟩
        simp [tupV, SV.den]; omega
end Go.Proofs.Ytlfldhnmbjgdnaa
