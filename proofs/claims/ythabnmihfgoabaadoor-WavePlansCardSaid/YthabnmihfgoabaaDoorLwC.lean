/-
  Lemmas for the walk: how the machine steps, and what each step needs; no condition.
-/
import Derived.Test.YthabnmihfgoabaaDoorLwB
import Derived.Test.YthabnmihfgoabaaDoorEngD
namespace Go.Proofs.YthabnmihfgoabaaDoor
open Go Go.Eng
set_option maxRecDepth 100000

def crcBit (s : Nat) : Nat := if 2 * s ≥ 16777216 then (2 * s) ^^^ 25578747 else 2 * s
def bits8 (s : Nat) : Nat → Nat
  | 0 => s
  | k + 1 => crcBit (bits8 s k)
def refL (s : Nat) (bs : List Nat) : Nat := bs.foldl (fun s b => bits8 (s ^^^ (b * 65536)) 8) s

theorem crcBit_lt {s : Nat} (h : s < 16777216) : crcBit s < 16777216 := by
  unfold crcBit
  split
  · rename_i h2
    have e : (2 * s) ^^^ 25578747 < 2 ^ 25 := Nat.xor_lt_two_pow (by omega) (by omega)
    have t : ((2 * s) ^^^ 25578747).testBit 24 = false := by
      rw [Nat.testBit_xor]
      have h3 : (2 * s).testBit 24 = true := by
        rw [Nat.testBit_eq_decide_div_mod_eq]
        simp only [decide_eq_true_eq]; omega
      rw [h3]; decide
    have := Nat.testBit_eq_decide_div_mod_eq (x := (2 * s) ^^^ 25578747) (i := 24)
    rw [t] at this
    have := of_decide_eq_false this.symm
    generalize (2 * s) ^^^ 25578747 = z at *
    omega
  · omega
theorem bits8_lt {s : Nat} (h : s < 16777216) : ∀ k, bits8 s k < 16777216
  | 0 => h
  | k + 1 => crcBit_lt (bits8_lt h k)

theorem refL_cons (s b : Nat) (r : List Nat) : refL s (b :: r) = refL (bits8 (s ^^^ (b * 65536)) 8) r := by unfold refL; rw [List.foldl_cons]
theorem bits8_succ (s k : Nat) : bits8 s (k + 1) = crcBit (bits8 s k) := by rw [bits8]

abbrev u8V (b : Nat) : Value := .int .u8 (b : Int)

theorem refAdd_tr (s0 : Nat) (hs0 : s0 < 4294967296) (a : Option Addr) (n cap : Nat) (bs : List Nat) (R : Hp) (hlen : bs.length = n) (hb : ∀ b ∈ bs, b < 256) (hrd : RdAt R a (bs.map u8V)) (hn : n ≤ 1000000) :
    Tr Tryd.prog 53 [.int .u32 (s0 : Int), .slice a n cap] R [] fun v L' => v = .int .u32 (refL (s0 % 16777216) bs : Nat) ∧ L' = [] := by
  refine Tr.intro tys_ok mix Tryd.func53 rfl rfl rfl ?_
  refine X_ar (f := 1000) rfl rfl rfl (ar_remN (b := 16777216) (by omega)) ?_
  refine X_loop (f := 1000) [5, 6] [1] [] (fun m vs L => ∃ (i s : Nat), i ≤ n ∧ m = n - i ∧ s < 16777216 ∧ refL (s0 % 16777216) bs = refL s (bs.drop i) ∧ vs = [.int .u32 (s : Int), .int .i64 i] ∧ L = [])
    rfl rfl rfl ⟨0, s0 % 16777216, by omega, rfl, by omega, rfl, rfl, rfl⟩ ?_
  rintro m vs L ⟨i, s, hi, rfl, hs, hz, rfl, rfl⟩ ih
  refine X_if (f := 1000) rfl ⟨_, rfl, rfl⟩ (fun h3 => ?_) (fun h3 => ?_)
  · have hlt : i < n := by simpa using h3
    have hxi : i < bs.length := by omega
    have hc : (bs.map u8V)[i]? = some (.int .u8 (bs[i] : Nat)) := by simp [hxi]
    rcases hrd with h0 | ⟨bb, o, rfl, hr⟩
    · rw [h0] at hc; simp at hc
    have hcell := hr _ _ hc
    have hdrop : bs.drop i = bs[i] :: bs.drop (i + 1) := List.drop_eq_getElem_cons hxi
    have hb2 := hb _ (List.getElem_mem hxi)
    generalize bs[i] = b at hcell hdrop hb2
    refine X_idx (f := 1000) i rfl rfl rfl rfl (hlt) rfl rfl rfl rfl ?_
    refine X_loadR (f := 1000) rfl rfl (fun h hs => ldv_one rfl rfl rfl (Hp.cell_mono hs (by simpa using hcell))) ?_
    refine X_cv (f := 1000) rfl rfl rfl rfl rfl (u32_wrap (by omega)) ?_
    refine X_ar (f := 1000) rfl rfl rfl (ar_mulN (b := 65536) (by omega)) ?_
    refine X_ar (f := 1000) rfl rfl rfl (ar_xorN (by omega) (by omega)) ?_
    have hx1 : s ^^^ (b * 65536) < 16777216 := Nat.xor_lt_two_pow (n := 24) hs (by omega)
    generalize hs1 : s ^^^ (b * 65536) = s1 at hx1
    refine X_loop (f := 1000) [5, 7] [1, 6] [] (fun m vs L => ∃ (j s2 : Nat), j ≤ 8 ∧ m = 8 - j ∧ s2 = bits8 s1 j ∧ vs = [.int .u32 (s2 : Int), .int .i64 j] ∧ L = [])
      rfl rfl rfl ⟨0, s1, by omega, rfl, by rw [bits8], rfl, rfl⟩ ?_
    rintro m vs L ⟨j, s2, hj, rfl, hs2, rfl, rfl⟩ ih2
    refine X_if (f := 1000) rfl ⟨_, rfl, rfl⟩ (fun h4 => ?_) (fun h4 => ?_)
    · have hj2 : j < 8 := by
        have : (j : Int) < 8 := by simpa using h4
        omega
      have hlt2 := bits8_lt hx1 j
      rw [← hs2] at hlt2
      refine X_ar (f := 1000) rfl rfl rfl (ar_mulN (a := 2) (by omega)) ?_
      refine X_if (f := 1000) rfl ⟨_, rfl, rfl⟩ (fun h5 => ?_) (fun h5 => ?_)
      · have h5 : 2 * s2 ≥ 16777216 := by
          have : ((16777216 : Nat) : Int) ≤ ((2 * s2 : Nat) : Int) := by simpa using h5
          omega
        refine X_ar (f := 1000) rfl rfl rfl (ar_xorN (b := 25578747) (by omega) (by omega)) ?_
        refine X_ar (f := 1000) rfl rfl rfl (ar_add (by omega)) ?_
        refine X_again (f := 1000) [5, 7] [1, 6] [] rfl rfl rfl ?_
        refine ih2 (8 - (j + 1)) _ _ (by omega) ⟨j + 1, _, by omega, rfl, by rw [bits8_succ, ← hs2, crcBit, if_pos h5], rfl, rfl⟩
      · have h5 : ¬ 2 * s2 ≥ 16777216 := by
          have : ¬ ((16777216 : Nat) : Int) ≤ ((2 * s2 : Nat) : Int) := by simpa using h5
          omega
        refine X_ar (f := 1000) rfl rfl rfl (ar_add (by omega)) ?_
        refine X_again (f := 1000) [5, 7] [1, 6] [] rfl rfl rfl ?_
        refine ih2 (8 - (j + 1)) _ _ (by omega) ⟨j + 1, _, by omega, rfl, by rw [bits8_succ, ← hs2, crcBit, if_neg h5], rfl, rfl⟩
    · have hj2 : j = 8 := by
        have : ¬ (j : Int) < 8 := by simpa using h4
        omega
      have h8 := bits8_lt hx1 j
      rw [← hs2] at h8
      refine X_ar (f := 1000) rfl rfl rfl (ar_add (by omega)) ?_
      refine X_again (f := 1000) [5, 6] [1] [] rfl rfl rfl ?_
      exact ih (n - (i + 1)) _ _ (by omega) ⟨i + 1, s2, by omega, rfl, h8, by rw [hz, hdrop, refL_cons, hs1, hs2, hj2], rfl, rfl⟩
  · have hin : i = n := by
      have : ¬ (i < n) := by simpa using h3
      omega
    refine X_ret (f := 1000) rfl rfl Tryd.func53 rfl fun h' hs => ⟨_, ⟨by rw [hz, List.drop_eq_nil_of_le (by omega)]; rfl, rfl⟩, hs.pick0 []⟩

theorem refSum_tr (a : Option Addr) (n cap : Nat) (bs : List Nat) (R : Hp) (hlen : bs.length = n) (hb : ∀ b ∈ bs, b < 256) (hrd : RdAt R a (bs.map u8V)) (hn : n ≤ 1000000) :
    Tr Tryd.prog 47 [.slice a n cap] R [] fun v L' => v = .int .u32 (refL 11994318 bs : Nat) ∧ L' = [] := by
  refine Tr.intro tys_ok mix Tryd.func47 rfl rfl rfl ?_
  refine X_call (f := 1000) (C := fun r => Sub R r) [] rfl rfl rfl rfl (fun r hr => refAdd_tr 11994318 (by omega) a n cap bs r hlen hb (hrd.mono hr) hn) (fun r hr => hr.sub) ?_
  rintro v L' ⟨rfl, rfl⟩
  refine X_ret (f := 1000) rfl rfl Tryd.func47 rfl fun h' hs => ⟨_, ⟨rfl, rfl⟩, hs.pick0 []⟩

def refLot (c d : Int) : Nat := refL 11994318 (bsOf c ++ bsOf d)

theorem byteN_mod (n : Int) : byteN (n % 256) = byteN n := by unfold byteN; rw [u8_wrap, u8_wrap]; omega

theorem lot_tr (c d : Int) (hc : 0 ≤ c) (hd : 0 ≤ d) (R : Hp) (hc2 : c ≤ 9223372036854775807) (hd2 : d ≤ 9223372036854775807) : Tr Tryd.prog 36 [.int .i64 c, .int .i64 d] R [] fun v L' => v = .int .u32 (refLot c d : Nat) ∧ L' = [] := by
  refine Tr.intro tys_ok mix Tryd.func36 rfl rfl rfl ?_
  refine X_mkslice (f := 1000) rfl rfl rfl rfl rfl rfl rfl fun b5 => ?_
  refine Y.addE (ownS_nil 5 1) ?_
  refine X_loop (f := 1000) [6, 7] [5] [0, 1] (fun m vs L => ∃ (i cp : Nat) (a : Option Addr), i ≤ 2 ∧ m = 2 - i ∧ vs = [.slice a (4 * i) cp, .int .i64 i] ∧ L = [.pt b5 (.cells #[.int .i64 c, .int .i64 d] 3 (0, 0)), ownS 5 1 a (4 * i) cp (((bsOf c ++ bsOf d).take (4 * i)).map u8V)])
    rfl rfl rfl ⟨0, 0, none, by omega, rfl, rfl, rfl⟩ ?_
  rintro m vs L ⟨i, cp, a, hi, rfl, rfl, rfl⟩ ih
  refine X_if (f := 1000) rfl ⟨_, rfl, rfl⟩ (fun h1 => ?_) (fun h1 => ?_)
  · have hi2 : i = 0 ∨ i = 1 := by
      have : (i : Int) < 2 := by simpa using h1
      omega
    have hx : ∀ k, k < 4 → (bsOf c ++ bsOf d).take (4 * i + (k + 1)) = (bsOf c ++ bsOf d).take (4 * i + k) ++ [byteN ((if i = 0 then c else d) / 256 ^ k)] := by
      intro k hk
      have hk4 : k = 0 ∨ k = 1 ∨ k = 2 ∨ k = 3 := by omega
      rcases hi2 with rfl | rfl <;> rcases hk4 with rfl | rfl | rfl | rfl <;> simp [bsOf, shr, Int.fdiv_eq_ediv_of_nonneg]
    have hx0 : 0 ≤ (if i = 0 then c else d) := by split <;> assumption
    have hx9 : (if i = 0 then c else d) ≤ 9223372036854775807 := by split <;> assumption
    refine X_idx (f := 1000) i rfl rfl rfl rfl ((by show i < 2; omega)) rfl rfl rfl rfl ?_
    refine X_load (f := 1000) (i := 0) (v := .int .i64 (if i = 0 then c else d)) rfl rfl rfl (by rcases hi2 with rfl | rfl <;> rfl) ?_
    generalize (if i = 0 then c else d) = x at hx hx0 hx9
    refine X_loop (f := 1000) [6, 8, 9] [5, 7] [0, 1] (fun m vs L => ∃ (k cp : Nat) (a : Option Addr), k ≤ 4 ∧ m = 4 - k ∧ vs = [.slice a (4 * i + k) cp, .int .i64 (x / 256 ^ k), .int .i64 k] ∧ L = [.pt b5 (.cells #[.int .i64 c, .int .i64 d] 3 (0, 0)), ownS 5 1 a (4 * i + k) cp (((bsOf c ++ bsOf d).take (4 * i + k)).map u8V)])
      rfl rfl rfl ⟨0, cp, a, by omega, rfl, by simp [SV.den], rfl⟩ ?_
    rintro m vs L ⟨k, cp, a, hk, rfl, rfl, rfl⟩ ih2
    have hp : (0 : Int) < 256 ^ k := Int.pow_pos (by omega)
    have hq0 : 0 ≤ x / 256 ^ k := Int.ediv_nonneg hx0 (by omega)
    have hq9 : x / 256 ^ k ≤ x := Int.ediv_le_self _ hx0
    have hnx : x / 256 ^ (k + 1) = x / 256 ^ k / 256 := by rw [Int.pow_succ, Int.ediv_ediv_of_nonneg (by omega)]
    refine X_if (f := 1000) rfl ⟨_, rfl, rfl⟩ (fun h2 => ?_) (fun h2 => ?_)
    · have hk2 : k < 4 := by
        have : (k : Int) < 4 := by simpa using h2
        omega
      have hxk := hx k hk2
      generalize x / 256 ^ k = y at hq0 hq9 hnx hxk
      refine X_ar (f := 1000) rfl rfl rfl (ar_rem (by omega)) ?_
      refine X_cv (f := 1000) rfl rfl rfl rfl rfl rfl ?_
      refine X_mkslice (f := 1000) rfl rfl rfl rfl rfl rfl rfl fun b6 => ?_
      refine X_append (f := 1000) (i := 1) [u8V (byteN y)] rfl rfl rfl rfl rfl rfl rfl rfl rfl (by omega) rfl (by omega) rfl (by show _ * 1 ≤ _; omega) (by omega)
        (fun A h hs => RdAt.of_block (hs.get (i := 3) rfl) ⟨[], ?_⟩) fun a' c' => ?_
      · have : (u8V (byteN y)) = .int .u8 (IntKind.u8.wrap (y % 256)) := by rw [← byteN_mod, u8V, byteN_val]
        rw [this]; rfl
      refine X_ar (f := 1000) rfl rfl rfl (ar_quo (by omega)) ?_
      refine X_ar (f := 1000) rfl rfl rfl (ar_add (by omega)) ?_
      refine X_again (f := 1000) [6, 8, 9] [5, 7] [0, 1] rfl rfl rfl ?_
      refine ih2 (4 - (k + 1)) _ _ (by omega) ⟨k + 1, c', a', by omega, rfl, by rw [hnx]; rfl, ?_⟩
      rw [hxk, List.map_append]; rfl
    · have hk2 : k = 4 := by
        have : ¬ (k : Int) < 4 := by simpa using h2
        omega
      subst hk2
      refine X_ar (f := 1000) rfl rfl rfl (ar_add (by omega)) ?_
      refine X_again (f := 1000) [6, 7] [5] [0, 1] rfl rfl rfl ?_
      exact ih (2 - (i + 1)) _ _ (by omega) ⟨i + 1, cp, a, by omega, rfl, rfl, rfl⟩
  · have hi2 : i = 2 := by
      have : ¬ (i : Int) < 2 := by simpa using h1
      omega
    subst hi2
    refine X_call (f := 1000) (C := fun r => RdAt r a ((bsOf c ++ bsOf d).map u8V)) [] rfl rfl rfl rfl (fun r hr => refSum_tr a _ cp (bsOf c ++ bsOf d) r rfl (fun b hb => by rcases List.mem_append.1 hb with h | h; exact bsOf_lt _ _ h; exact bsOf_lt _ _ h) hr (by omega)) (fun r hr => hr.ownRd (i := 1) rfl) ?_
    rintro v L' ⟨rfl, rfl⟩
    refine X_ret (f := 1000) rfl rfl Tryd.func36 rfl fun h' hs => ⟨_, ⟨rfl, rfl⟩, hs.pick0 []⟩

theorem before_tr (c a b : Int) (hc : 0 ≤ c ∧ c ≤ 9223372036854775807) (ha : 0 ≤ a ∧ a ≤ 9223372036854775807) (hb : 0 ≤ b ∧ b ≤ 9223372036854775807) (R : Hp) :
    Tr Tryd.prog 29 [.int .i64 c, .int .i64 a, .int .i64 b] R [] fun v L' => ∃ t : Bool, v = .bool t ∧ (t = true ↔ keyLt (refLot c) a b) ∧ L' = [] := by
  refine Tr.intro tys_ok mix Tryd.func29 rfl rfl rfl ?_
  refine X_call (f := 1000) (C := fun _ => True) [] rfl rfl rfl rfl (fun r _ => lot_tr c a hc.1 ha.1 r hc.2 ha.2) (fun _ _ => trivial) ?_
  rintro v L' ⟨rfl, rfl⟩
  refine X_call (f := 1000) (C := fun _ => True) [] rfl rfl rfl rfl (fun r _ => lot_tr c b hc.1 hb.1 r hc.2 hb.2) (fun _ _ => trivial) ?_
  rintro v L' ⟨rfl, rfl⟩
  unfold keyLt
  generalize refLot c a = x
  generalize refLot c b = y
  refine X_g (f := 1000) rfl ⟨_, rfl, rfl⟩ (fun h1 => ?_) (fun h1 => ?_)
  · have h1 : (x : Int) < y := by simpa using h1
    refine X_ret (f := 1000) rfl rfl Tryd.func29 rfl fun h' hs => ⟨_, ⟨true, rfl, ⟨fun _ => .inl (by omega), fun _ => rfl⟩, rfl⟩, hs.pick0 []⟩
  · have h1 : ¬ (x : Int) < y := by simpa using h1
    refine X_g (f := 1000) rfl ⟨_, rfl, rfl⟩ (fun h2 => ?_) (fun h2 => ?_)
    · have h2 : (x : Int) = y := by simpa using h2
      refine X_ret (f := 1000) rfl rfl Tryd.func29 rfl fun h' hs => ⟨_, ⟨decide (a < b), rfl, by simp; omega, rfl⟩, hs.pick0 []⟩
    · have h2 : ¬ (x : Int) = y := by simpa using h2
      refine X_ret (f := 1000) rfl rfl Tryd.func29 rfl fun h' hs => ⟨_, ⟨false, rfl, by simp; omega, rfl⟩, hs.pick0 []⟩
end Go.Proofs.YthabnmihfgoabaaDoor
namespace Go.Proofs.YthabnmihfgoabaaDoor
open Go Go.Eng
set_option maxRecDepth 100000

theorem refRight_tr (a : Option Addr) (n cap : Nat) (xs : List Int) (R : Hp) (hx : IntsIn R a n xs) : Tr Tryd.prog 15 [.slice a n cap] R [] fun v L' => v = .bool (rightP xs) ∧ L' = [] := by
  have hl := hx.len
  refine Tr.intro tys_ok mix Tryd.func15 rfl rfl rfl ?_
  refine X_g (f := 1000) rfl ⟨_, rfl, rfl⟩ (fun h1 => ?_) (fun h1 => ?_)
  · have h1 : (n : Int) < 1 := by simpa using h1
    refine X_ret (f := 1000) rfl rfl Tryd.func15 rfl fun h' hs => ⟨_, ⟨by simp [tupV, rightP, SV.den, hl]; omega, rfl⟩, hs.pick0 []⟩
  have h1 : ¬ (n : Int) < 1 := by simpa using h1
  refine X_g (f := 1000) rfl ⟨_, rfl, rfl⟩ (fun h2 => ?_) (fun h2 => ?_)
  · have h2 : (8 : Int) < n := by simpa using h2
    refine X_ret (f := 1000) rfl rfl Tryd.func15 rfl fun h' hs => ⟨_, ⟨by simp [tupV, rightP, SV.den, hl]; omega, rfl⟩, hs.pick0 []⟩
  have h2 : ¬ (8 : Int) < n := by simpa using h2
  refine X_ar (f := 1000) rfl rfl rfl (ar_sub (by omega)) ?_
  obtain ⟨b, o, rfl, hxi, hcell⟩ := hx.at (i := n - 1) (by omega)
  refine X_idx (f := 1000) (n - 1) rfl rfl rfl (by omega) ((by omega)) rfl rfl rfl rfl ?_
  refine X_loadR (f := 1000) rfl rfl (fun h hs => ldv_one rfl rfl rfl (Hp.cell_mono hs (by simpa using hcell))) ?_
  have key : ∀ (xs : List Int) (z : Int) (h : 0 < xs.length), incL z xs = some 100 → xs[xs.length - 1]'(by omega) = 100 := by
    intro xs
    induction xs with
    | nil => intro z h; simp at h
    | cons x r ih =>
      intro z h hi
      simp only [incL] at hi
      split at hi
      · cases hi
      · cases r with
        | nil => simp only [incL, Option.some.injEq] at hi; simpa using hi
        | cons y r => have := ih x (by simp) hi; simpa using this
  have hlast : xs[n - 1] = xs[xs.length - 1]'(by omega) := by congr 1; omega
  refine X_if (f := 1000) rfl ⟨_, rfl, rfl⟩ (fun h3 => ?_) (fun h3 => ?_)
  · have h3 : xs[n - 1] ≠ 100 := by simpa using h3
    refine X_ret (f := 1000) rfl rfl Tryd.func15 rfl fun h' hs => ⟨_, ⟨?_, rfl⟩, hs.pick0 []⟩
    have : rightP xs = false := by
      simp only [rightP, decide_eq_false_iff_not]
      rintro ⟨_, _, h⟩
      exact h3 (by rw [hlast]; exact key xs 0 (by omega) h)
    rw [this]; rfl
  have h3 : xs[n - 1] = 100 := by simpa using h3
  refine X_loop (f := 1000) [3] [0] [] (fun m vs L => ∃ (i : Nat) (z : Int), i ≤ n ∧ m = n - i ∧ incL 0 xs = incL z (xs.drop i) ∧ (i = 0 → z = 0) ∧ (∀ (h : 0 < i) (h2 : i - 1 < xs.length), z = xs[i - 1]) ∧ (0 < i → 1 ≤ z) ∧ vs = [.int .i64 i] ∧ L = [])
    rfl rfl rfl ⟨0, 0, by omega, rfl, rfl, fun _ => rfl, fun h => absurd h (by omega), fun h => absurd h (by omega), rfl, rfl⟩ ?_
  rintro m vs L ⟨i, z, hi, rfl, hz, hz0, hzi, hz1, rfl, rfl⟩ ih
  refine X_if (f := 1000) rfl ⟨_, rfl, rfl⟩ (fun h4 => ?_) (fun h4 => ?_)
  · have hlt : i < n := by simpa using h4
    obtain ⟨b', o', hb', hxi2, hcell2⟩ := hx.at hlt
    cases hb'
    have hdrop : xs.drop i = xs[i] :: xs.drop (i + 1) := List.drop_eq_getElem_cons hxi2
    have hnext : ∀ (h : 0 < i + 1) (h2 : i + 1 - 1 < xs.length), xs[i] = xs[i + 1 - 1] := fun _ _ => rfl
    have no : xs[i] ≤ z → rightP xs = false := by
      intro hh
      simp only [rightP, decide_eq_false_iff_not]
      rintro ⟨_, _, h⟩
      rw [hz, hdrop] at h
      simp [incL, hh] at h
    have hzn : ¬ xs[i] ≤ z → incL 0 xs = incL xs[i] (xs.drop (i + 1)) := by
      intro hh
      rw [hz, hdrop, incL, if_neg hh]
    refine X_draw (f := 1000) [] [0, 1, 2, 3, 4, 5, 6, 7, 8, 9, 10, 11, 13, 14, 15, 16, 12, 17, 18, 19, 20] rfl rfl rfl (by decide +kernel) ?_
    refine X_idx (f := 1000) i rfl rfl rfl rfl (hlt) rfl rfl rfl rfl ?_
    refine X_loadR (f := 1000) rfl rfl (fun h hs => ldv_one rfl rfl rfl (Hp.cell_mono hs (by simpa using hcell2))) ?_
    refine X_g (f := 1000) rfl ⟨_, rfl, rfl⟩ (fun h5 => ?_) (fun h5 => ?_)
    · have h5 : xs[i] < 1 := by simpa using h5
      have hle : xs[i] ≤ z := by
        rcases Nat.eq_zero_or_pos i with h0 | h0
        · have := hz0 h0; omega
        · have := hz1 h0; omega
      refine X_ret (f := 1000) rfl rfl Tryd.func15 rfl fun h' hs => ⟨_, ⟨by rw [no hle]; rfl, rfl⟩, hs.pick0 []⟩
    have h5 : ¬ xs[i] < 1 := by simpa using h5
    refine X_g (f := 1000) rfl ⟨_, rfl, rfl⟩ (fun h6 => ?_) (fun h6 => ?_)
    · have h6 : 0 < i := by
        have : (0 : Int) < i := by simpa using h6
        omega
      obtain ⟨b'', o'', hb'', hxi3, hcell3⟩ := hx.at (i := i - 1) (by omega)
      cases hb''
      have hzz := hzi h6 hxi3
      rw [← hzz] at hcell3
      refine X_idx (f := 1000) i rfl rfl rfl rfl (hlt) rfl rfl rfl rfl ?_
      refine X_ar (f := 1000) rfl rfl rfl (ar_sub (by omega)) ?_
      refine X_idx (f := 1000) (i - 1) rfl rfl rfl (by omega) ((by omega)) rfl rfl rfl rfl ?_
      refine X_loadR (f := 1000) rfl rfl (fun h hs => ldv_one rfl rfl rfl (Hp.cell_mono hs (by simpa using hcell2))) ?_
      refine X_loadR (f := 1000) rfl rfl (fun h hs => ldv_one rfl rfl rfl (Hp.cell_mono hs (by simpa using hcell3))) ?_
      refine X_if (f := 1000) rfl ⟨_, rfl, rfl⟩ (fun h7 => ?_) (fun h7 => ?_)
      · have h7 : xs[i] ≤ z := by simpa using h7
        refine X_ret (f := 1000) rfl rfl Tryd.func15 rfl fun h' hs => ⟨_, ⟨by rw [no h7]; rfl, rfl⟩, hs.pick0 []⟩
      have h7 : ¬ xs[i] ≤ z := by simpa using h7
      refine X_ar (f := 1000) rfl rfl rfl (ar_add (by omega)) ?_
      refine X_again (f := 1000) [3] [0] [] rfl rfl rfl ?_
      exact ih (n - (i + 1)) _ _ (by omega) ⟨i + 1, xs[i], by omega, rfl, hzn h7, fun h => absurd h (by omega), hnext, fun _ => by omega, rfl, rfl⟩
    have h6 : i = 0 := by
      have : ¬ (0 : Int) < i := by simpa using h6
      omega
    have hz00 := hz0 h6
    refine X_ar (f := 1000) rfl rfl rfl (ar_add (by omega)) ?_
    refine X_again (f := 1000) [3] [0] [] rfl rfl rfl ?_
    exact ih (n - (i + 1)) _ _ (by omega) ⟨i + 1, xs[i], by omega, rfl, hzn (by omega), fun h => absurd h (by omega), hnext, fun _ => by omega, rfl, rfl⟩
  have hin : i = n := by
    have : ¬ (i < n) := by simpa using h4
    omega
  have hzl : z = 100 := by
    subst hin
    rw [hzi (by omega) hxi, h3]
  refine X_ret (f := 1000) rfl rfl Tryd.func15 rfl fun h' hs => ⟨_, ⟨?_, rfl⟩, hs.pick0 []⟩
  have : rightP xs = true := by
    simp only [rightP, decide_eq_true_eq]
    refine ⟨by omega, by omega, ?_⟩
    rw [hz, List.drop_eq_nil_of_le (by omega), hzl]; rfl
  rw [this]; rfl
end Go.Proofs.YthabnmihfgoabaaDoor
namespace Go.Proofs.YthabnmihfgoabaaDoor
open Go Go.Eng
set_option maxRecDepth 100000

theorem awake_tr (st : List Nat) (R : Hp) (hst : StepsIn R st) : Tr Tryd.prog 10 [] R [] fun v L' => v = .bool true ∧ L' = [] := by
  refine Tr.intro tys_ok mix Tryd.func10 rfl rfl rfl ?_
  refine X_call (f := 1000) (C := fun _ => True) [] rfl rfl rfl rfl (fun r _ => judge_tr 10 8 1 80 10 r) (fun _ _ => trivial) ?_
  rintro v L' ⟨rfl, rfl⟩
  rw [show judgeV 10 8 1 80 10 = (1, 0) from by decide]
  refine X_mkslice (f := 1000) rfl rfl rfl rfl rfl rfl rfl fun b1 => ?_
  refine X_mkslice (f := 1000) rfl rfl rfl rfl rfl rfl rfl fun b2 => ?_
  refine X_call (f := 1000) (C := fun r => IntsIn r (some ⟨b1, 0, none⟩) 3 [1, 2, 3] ∧ IntsIn r (some ⟨b2, 0, none⟩) 2 [10, 100] ∧ Sub R r) [] rfl rfl rfl rfl
    (fun r hr => plan_tr st 1 _ 3 3 [1, 2, 3] _ 2 2 [10, 100] r hr.1 hr.2.1 (by omega) (by omega) ⟨hst.len, hst.lt, fun i hi => Hp.cell_mono hr.2.2 (hst.cell i hi)⟩)
    (fun r hr => ⟨⟨rfl, RdAt.of_block (hr.get (i := 0) rfl) ⟨[], rfl⟩, by omega⟩, ⟨rfl, RdAt.of_block (hr.get (i := 1) rfl) ⟨[], rfl⟩, by omega⟩, hr.sub⟩) ?_
  rintro v L' hq
  cases hq with
  | bad h => exact absurd ⟨by decide, by decide, by decide, by decide⟩ h
  | twice h h2 => exact absurd (by decide) h2
  | fine h h2 hp hn =>
    rename_i o xss a n cp vs
    obtain ⟨hperm, hsort, hcut⟩ := hp
    have hol : o.length = 3 := hperm.length_eq
    have hn2 : n = 2 := hn
    subst hn2
    refine Y.lists (i := 2) (j := 3) (by omega) rfl rfl fun R' hR' hL => ?_
    obtain ⟨b, off, rfl, v, xs, hv, hxs, hcell, hI⟩ := hL.at (i := 0) (by omega)
    have hxl : v.2.1 = 1 := by
      have h1 := hI.len
      rw [hcut] at hxs
      simp only [cuts, List.getElem?_cons_zero, Option.some.injEq] at hxs
      rw [← h1, ← hxs, hol]
      simp [toN, hol]
    refine X_gT (f := 1000) rfl ⟨_, rfl, rfl⟩ rfl ?_
    refine X_gT (f := 1000) rfl ⟨_, rfl, rfl⟩ rfl ?_
    refine X_gT (f := 1000) rfl ⟨_, rfl, rfl⟩ rfl ?_
    refine X_gT (f := 1000) rfl ⟨_, rfl, rfl⟩ rfl ?_
    refine X_idx (f := 1000) 0 rfl rfl rfl rfl ((by omega)) rfl rfl rfl rfl ?_
    refine X_loadR (f := 1000) rfl rfl (fun h hs => ldv_one rfl rfl rfl (Hp.cell_mono hs (by simpa using hcell))) ?_
    refine X_ret (f := 1000) rfl rfl Tryd.func10 rfl fun h' hs => ⟨_, ⟨by simp [tupV, SV.den, hxl], rfl⟩, (hs.pick0 []).low hR'⟩
end Go.Proofs.YthabnmihfgoabaaDoor
