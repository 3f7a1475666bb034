/-
  Lemmas for the walk: how the machine steps, and what each step needs; no condition.
-/
import Derived.Test.YthabnmihfgoabaaDoorEngB
import Derived.Laws.StructEq
import Derived.Laws.AppendOwn
import Derived.ProofKit
import Derived.Deep.Slices
namespace Go.Eng
open Go

def cellsAt (T : TT) (t : Nat) (cl : List Value) (off : Nat) : Option Value :=
  match tget T t with
  | some i => if i.known then (if i.agg then forceL ((cl.drop off).take i.size) (fun l => if Nat.beq l.length i.size then some (.agg l.toArray) else none) else cl[off]?) else none
  | none => none

theorem add_none (b o n : Nat) : (⟨b, o, none⟩ : Addr).add n = ⟨b, o + n, none⟩ := by
  unfold Addr.add; split
  · subst_vars; rfl
  · rfl

theorem ldCells_of {h : Hp} {b off : Nat} {cs : Array Value} {t fr} (hb : h b = some (.cells cs t fr)) : ∀ (n i : Nat), off + i + n ≤ cs.size →
    ldCells h ⟨b, off, none⟩ i n = some ((cs.toList.drop (off + i)).take n) := by
  intro n
  induction n with
  | zero => intro i _; simp [ldCells]
  | succ n ih =>
    intro i hle
    have hlt : off + i < cs.size := by omega
    simp only [ldCells, add_none, Hp.cell, hb]
    rw [Array.getElem?_eq_getElem hlt]
    simp only [Option.isSome_none, Bool.false_eq_true, if_false]
    rw [ih (i + 1) (by omega)]
    have hd : cs.toList.drop (off + i) = cs[off + i] :: cs.toList.drop (off + i + 1) := by
      rw [List.drop_eq_getElem_cons (by simpa using hlt)]; rfl
    rw [hd]; simp [Nat.add_assoc]

theorem ldv_of {T : TT} {h : Hp} {b off t : Nat} {cs : Array Value} {ty fr v} (hb : h b = some (.cells cs ty fr)) (hv : cellsAt T t cs.toList off = some v) : ldv T h t ⟨b, off, none⟩ = some v := by
  unfold cellsAt at hv
  unfold ldv
  cases ht : tget T t with
  | none => rw [ht] at hv; cases hv
  | some i =>
    rw [ht] at hv; simp only at hv ⊢
    cases hk : i.known with
    | false => rw [hk] at hv; simp at hv
    | true =>
      rw [hk] at hv; simp only [if_true] at hv ⊢
      cases ha : i.agg with
      | true =>
        rw [ha] at hv; simp only [if_true, forceL_eq] at hv ⊢
        split at hv
        · rename_i hlen
          simp only [Option.some.injEq] at hv; subst hv
          have hl : ((cs.toList.drop off).take i.size).length = i.size := Nat.eq_of_beq_eq_true hlen
          rw [List.length_take, List.length_drop, Array.length_toList] at hl
          by_cases hz : i.size = 0
          · simp [hz, ldCells]
          · rw [ldCells_of hb i.size 0 (by omega)]; simp
        · cases hv
      | false =>
        rw [ha] at hv; simp only [Bool.false_eq_true, if_false] at hv ⊢
        simp only [Hp.cell, hb, Option.isSome_none, Bool.false_eq_true, if_false]
        simpa using hv

def frOk (fr : Nat × Nat) (off n : Nat) : Bool := Nat.ble fr.2 off || Nat.ble (off + n) fr.1

def stAt (T : TT) (t : Nat) (cl : List Value) (off : Nat) (v : Value) : Option (List Value) :=
  match tget T t with
  | some i => forceL v.cells.toList fun vc => if Nat.beq vc.length i.size && Nat.ble (off + i.size) cl.length && vc.all one then forceL (splice cl off vc) some else none
  | none => none

theorem stCells_of {b off : Nat} {t fr} : ∀ (vc : List Value) (i : Nat) (A B : List Value) (h : Hp), h b = some (.cells (A ++ B).toArray t fr) → A.length = off + i → vc.length ≤ B.length →
    (vc.all one = true) → frOk fr (off + i) vc.length = true → ∃ h', stCells h ⟨b, off, none⟩ i vc = some h' ∧ h' = (if vc = [] then h else upd h b (.cells (A ++ vc ++ B.drop vc.length).toArray t fr)) := by
  intro vc
  induction vc with
  | nil => intro i A B h _ _ _ _ _; exact ⟨h, rfl, by simp⟩
  | cons v r ih =>
    intro i A B h hb hA hle hone hfr
    cases B with
    | nil => simp at hle
    | cons x B =>
      simp only [List.all_cons, Bool.and_eq_true] at hone
      obtain ⟨lo, hi⟩ := fr
      have hfr' : hi ≤ off + i ∨ off + i + (r.length + 1) ≤ lo := by
        simpa [frOk, Bool.or_eq_true, Nat.ble_eq] using hfr
      have hfz : h.frozen ⟨b, off + i, none⟩ = false := by
        simp only [Hp.frozen, hb]; simp; omega
      have hcell : h.cell ⟨b, off + i, none⟩ = some x := by
        simp only [Hp.cell, hb]; simp [← hA]
      have hset : setc h ⟨b, off + i, none⟩ v = upd h b (.cells ((A ++ [v]) ++ B).toArray t (lo, hi)) := by
        simp only [setc, hb]; simp [← hA]
      simp only [stCells, add_none, hcell, hfz, hone.1, Bool.not_false, Bool.and_self, if_true, hset]
      obtain ⟨h', hh, he⟩ := ih (i + 1) (A ++ [v]) B (upd h b (.cells ((A ++ [v]) ++ B).toArray t (lo, hi))) (by simp [upd]) (by simp [hA]; omega) (by simpa using hle) hone.2
        (by simp only [frOk, Bool.or_eq_true, Nat.ble_eq]; omega)
      refine ⟨h', hh, ?_⟩
      rw [he]
      simp only [reduceCtorEq, if_false, List.length_cons, List.drop_succ_cons]
      split
      · rename_i hr; subst hr; simp
      · funext y; simp only [upd]; by_cases hy : y = b <;> simp [hy]

theorem stv_of {T : TT} {h : Hp} {b off t : Nat} {cs : Array Value} {ty fr v cl'} (hb : h b = some (.cells cs ty fr)) (hs : stAt T t cs.toList off v = some cl') (hf : frOk fr off v.cells.toList.length = true) :
    ∃ h', stv T h t ⟨b, off, none⟩ v = some h' ∧ h' = (if v.cells.toList = [] then h else upd h b (.cells cl'.toArray ty fr)) := by
  unfold stAt at hs
  unfold stv
  cases ht : tget T t with
  | none => rw [ht] at hs; cases hs
  | some i =>
    rw [ht] at hs; simp only [forceL_eq] at hs ⊢
    split at hs
    · rename_i hc
      simp only [Option.some.injEq] at hs; subst hs
      simp only [Bool.and_eq_true] at hc
      obtain ⟨⟨h1, h2⟩, h3⟩ := hc
      have h1' : v.cells.size = i.size := by simpa using Nat.eq_of_beq_eq_true h1
      have h2' : off + i.size ≤ cs.size := by simpa using Nat.le_of_ble_eq_true h2
      rw [if_pos h1']
      have hsp : cs = (cs.toList.take off ++ cs.toList.drop off).toArray := by simp
      rw [hsp] at hb
      obtain ⟨h', hh, he⟩ := stCells_of (off := off) v.cells.toList 0 (cs.toList.take off) (cs.toList.drop off) h hb (by simp; omega) (by simp; omega) h3 (by simpa using hf)
      refine ⟨h', hh, ?_⟩
      rw [he]
      simp [splice]
    · cases hs

section
variable {c : Cx} {R : Hp} {L : List HA} {l l' : List XO} {k k' : List Item} {pe pe' : PE} {f : Nat}

theorem Y.of_adv {st} (ha : adv c.n c.T f l k pe = st) (H : YS c R L st) : Y c R l k pe L := adv_sound f l k pe (by rw [ha]; exact H)

theorem YS.read {o g} (H : ∀ D e h, Ext pe e → Sat R (marksH D :: L) h → ∃ v, Rd c.P e o h v ∧ aops c.P l (fun e h => Run c.P c.fn c.ro c.n k D e h c.R) (put e o.dst v) h) : YS c R L (.op ⟨o, g, .read⟩ l k pe) :=
  fun D e h hE hs => H D e h hE hs
theorem YS.new {o g} (H : ∀ D e h, Ext pe e → Sat R (marksH D :: L) h → ∃ ob fv, New c.P e o ob fv ∧ ∀ b, h b = none → aops c.P l (fun e h => Run c.P c.fn c.ro c.n k D e h c.R) (put e o.dst (fv b)) (upd h b ob)) : YS c R L (.op ⟨o, g, .new⟩ l k pe) :=
  fun D e h hE hs => H D e h hE hs
theorem YS.other {o g} (H : ∀ D e h, Ext pe e → Sat R (marksH D :: L) h → Oth c.P e o (fun v h' => aops c.P l (fun e h => Run c.P c.fn c.ro c.n k D e h c.R) (put e o.dst v) h') h) : YS c R L (.op ⟨o, g, .other⟩ l k pe) :=
  fun D e h hE hs => H D e h hE hs
theorem YS.pure {o g} (H : ∀ D e h, Ext pe e → Sat R (marksH D :: L) h → ∃ v, Pur c.P e o v ∧ aops c.P l (fun e h => Run c.P c.fn c.ro c.n k D e h c.R) (put e o.dst v) h) : YS c R L (.op ⟨o, g, .pure⟩ l k pe) :=
  fun D e h hE hs => H D e h hE hs

theorem idx1 {A : HA} {i : Nat} {x : HA} (h : L[i]? = some x) : (A :: L)[i + 1]? = some x := by simpa using h

/-- THE NAME FOR THE STATE BEFORE A STOP: the walk's reckoning made, to look at. -/
theorem X_see {st} (ha : adv c.n c.T f l k pe = st) (H : YS c R L st) : Y c R l k pe L := Y.of_adv ha H

theorem X_load {d : Option Nat} {t : Nat} {a ty ps af gd g} {b off : Nat} {cs : Array Value} {elt : Nat} {fr : Nat × Nat} {i : Nat} {v : Value} (ha : adv c.n c.T f l k pe = .op ⟨⟨d, .load t a, ty, ps, af, gd⟩, g, .read⟩ l' k' pe')
    (hx : opv pe' a = some (.v (.pointer (some ⟨b, off, none⟩)))) (hi : L[i]? = some (.pt b (.cells cs elt fr))) (hv : cellsAt c.T t cs.toList off = some v)
    (H : Y c R l' k' (pput pe' d (.v v)) L) : Y c R l k pe L := by
  refine Y.of_adv ha (YS.read fun D e h hE hs => ?_)
  have hb := hs.get (idx1 hi)
  refine ⟨v, fun w h2 hsub hon => ?_, H D _ h hE.put hs⟩
  have := run_loadVar c.hT hon (ldv_of (T := c.T) (hsub b _ hb) hv)
  simp [execOp, opv_sound hE hx, SV.den, Instr.loadAt, Instr.sureAddr, this]

/-- a load from what stays -/
theorem X_loadR {d t a ty ps af gd g ad v} (ha : adv c.n c.T f l k pe = .op ⟨⟨d, .load t a, ty, ps, af, gd⟩, g, .read⟩ l' k' pe')
    (hx : opv pe' a = some (.v (.pointer (some ad)))) (hv : ∀ h, Sub R h → ldv c.T h t ad = some v)
    (H : Y c R l' k' (pput pe' d (.v v)) L) : Y c R l k pe L := by
  refine Y.of_adv ha (YS.read fun D e h hE hs => ?_)
  refine ⟨v, fun w h2 hsub hon => ?_, H D _ h hE.put hs⟩
  have := run_loadVar c.hT hon (hv h2 (hs.sub.trans hsub))
  simp [execOp, opv_sound hE hx, SV.den, Instr.loadAt, Instr.sureAddr, this]

/-- a load, the value being known of the whole memory -/
theorem X_loadG {d t a ty ps af gd g ad v} (ha : adv c.n c.T f l k pe = .op ⟨⟨d, .load t a, ty, ps, af, gd⟩, g, .read⟩ l' k' pe')
    (hx : opv pe' a = some (.v (.pointer (some ad)))) (hv : ∀ h h2, Sat R L h → Sub h h2 → ldv c.T h2 t ad = some v)
    (H : Y c R l' k' (pput pe' d (.v v)) L) : Y c R l k pe L := by
  refine Y.of_adv ha (YS.read fun D e h hE hs => ?_)
  have hs' : Sat R L h := by
    obtain ⟨hf, m, ⟨ma, mb, ha, hb, dab, hmab⟩, d, sR, sm⟩ := hs
    have dd := (disj_or hmab).1 d
    have ss := (sub_or hmab dab).1 sm
    exact ⟨hf, mb, hb, dd.2, sR, ss.2⟩
  refine ⟨v, fun w h2 hsub hon => ?_, H D _ h hE.put hs⟩
  have := run_loadVar c.hT hon (hv h h2 hs' hsub)
  simp [execOp, opv_sound hE hx, SV.den, Instr.loadAt, Instr.sureAddr, this]

theorem X_store {d : Option Nat} {t : Nat} {a x ty ps af gd g} {b off : Nat} {cs : Array Value} {elt : Nat} {fr : Nat × Nat} {i : Nat} {s : SV} {cl' : List Value} (ha : adv c.n c.T f l k pe = .op ⟨⟨d, .store t a x, ty, ps, af, gd⟩, g, .other⟩ l' k' pe')
    (hx : opv pe' a = some (.v (.pointer (some ⟨b, off, none⟩)))) (hv : opv pe' x = some s) (hi : L[i]? = some (.pt b (.cells cs elt fr)))
    (hs : stAt c.T t cs.toList off s.den = some cl') (hf : frOk fr off s.den.cells.toList.length = true)
    (H : Y c R l' k' (pput pe' d (.v undef)) (L.set i (.pt b (.cells cl'.toArray elt fr)))) : Y c R l k pe L := by
  refine Y.of_adv ha (YS.other fun D e h hE hsat => ?_)
  have hb := hsat.get (idx1 hi)
  obtain ⟨h', hst, he⟩ := stv_of (T := c.T) hb hs hf
  intro w hon
  obtain ⟨w', hr, hon', hk⟩ := run_storeVar c.hT hon hst
  have hrun : (execOp (evalE e) ⟨d, .store t a x, ty, ps, af, gd⟩).run c.P w = .ok .skip w' := by
    simp [execOp, opv_sound hE hx, opv_sound hE hv, SV.den, Instr.storeAt, Instr.sureAddr] at hr ⊢
    simp [hr]
  rw [hrun]
  refine ⟨h', hon', hk, H D _ h' (hE.put (s := .v undef)) ?_⟩
  have hset := hsat.set (idx1 hi) (.cells cl'.toArray elt fr)
  split at he
  · -- nothing is stored
    rename_i hnil
    have hcl : cl' = cs.toList := by
      unfold stAt at hs
      cases ht : tget c.T t with
      | none => rw [ht] at hs; cases hs
      | some i =>
        rw [ht] at hs; simp only [forceL_eq, hnil] at hs
        split at hs
        · simp only [Option.some.injEq, splice] at hs; rw [← hs]; simp
        · cases hs
    rw [he]
    have : upd h b (.cells cl'.toArray elt fr) = h := by
      funext y; simp only [upd]; split
      · subst_vars; rw [hb]
      · rfl
    rw [this] at hset
    exact hset
  · rw [he]; exact hset

theorem Y.new {d : Option Nat} {o : Oper} {g ob} {fv : Nat → Value} (hd : o.dst = d) (ha : adv c.n c.T f l k pe = .op ⟨o, g, .new⟩ l' k' pe')
    (hn : ∀ e, Ext pe' e → New c.P e o ob fv) (H : ∀ b, Y c R l' k' (pput pe' d (.v (fv b))) (L ++ [.pt b ob])) : Y c R l k pe L := by
  refine Y.of_adv ha (YS.new fun D e h hE hsat => ?_)
  subst hd
  exact ⟨ob, fv, hn e hE, fun b hb => H b D _ _ (hE.put (s := .v (fv b))) (hsat.push hb ob)⟩

theorem run_newRow {P : Program} {w : World} {t : Nat} {cells : Array Value} : (newRow t cells).run P w = .ok ⟨w.heap.size, 0, none⟩ { w with heap := w.heap.push (.cells cells t) } := rfl

theorem X_box {d t x ty ps af gd g s cl} (ha : adv c.n c.T f l k pe = .op ⟨⟨d, .box t x, ty, ps, af, gd⟩, g, .new⟩ l' k' pe')
    (hx : opv pe' x = some s) (hc : forceL s.den.cells.toList some = some cl)
    (H : ∀ b, Y c R l' k' (pput pe' d (.v (.pointer (some ⟨b, 0, none⟩)))) (L ++ [.pt b (.cells cl.toArray t (0, 0))])) : Y c R l k pe L := by
  refine Y.new (d := d) rfl ha (fun e hE w => ?_) H
  rw [forceL_eq] at hc; simp only [Option.some.injEq] at hc
  simp only [execOp, opv_sound hE hx, Instr.box, newVar, Sem.run_bind, run_newRow]
  subst hc
  simp [Result.andThen]

theorem run_zero {P : Program} {T : TT} {w : World} {t i} (hT : TOk P T) (ht : tget T t = some i) : ∃ z, (zeroValue t).run P w = .ok z w ∧ z.cells = i.zero.toArray := by
  obtain ⟨x, hx, _, _, z, hz, hzz⟩ := (tget_ok hT ht).info
  exact ⟨z, by simp [zeroValue, typeInfo, hx, hz], by rw [← hzz]⟩

theorem X_alloc {d t ty ps af gd g i} (ha : adv c.n c.T f l k pe = .op ⟨⟨d, .alloc t, ty, ps, af, gd⟩, g, .new⟩ l' k' pe')
    (ht : tget c.T t = some i)
    (H : ∀ b, Y c R l' k' (pput pe' d (.v (.pointer (some ⟨b, 0, none⟩)))) (L ++ [.pt b (.cells i.zero.toArray t (0, 0))])) : Y c R l k pe L := by
  refine Y.new (d := d) rfl ha (fun e hE w => ?_) H
  obtain ⟨z, hz, hzc⟩ := run_zero (w := w) c.hT ht
  simp only [execOp, Instr.alloc, newVar, Sem.run_bind, hz, run_newRow, Result.andThen, hzc]
  rfl

theorem X_mkmap {d t ty ps af gd g} (ha : adv c.n c.T f l k pe = .op ⟨⟨d, .makeMap t none, ty, ps, af, gd⟩, g, .new⟩ l' k' pe')
    (H : ∀ b, Y c R l' k' (pput pe' d (.v (.map (some b)))) (L ++ [.pt b (.map #[] 0)])) : Y c R l k pe L := by
  refine Y.new (d := d) rfl ha (fun e hE w => ?_) H
  simp [execOp, Instr.makeMap, newObj, Sem.run, bind, Sem.bind, pure]

theorem X_mkslice {d t len pts ty ps af gd g i el vs j cl} (ha : adv c.n c.T f l k pe = .op ⟨⟨d, .buildSlice t len pts, ty, ps, af, gd⟩, g, .new⟩ l' k' pe')
    (ht : tget c.T t = some i) (htd : i.td = .slice el) (hel : tget c.T el = some j) (hvs : mapPV pe' pts.toList = some vs) (hsm : Nat.ble (len * j.size) (2 ^ 24) = true)
    (hcl : (fillL (fun x => some (x * j.size, j.size)) ((List.range (len * j.size)).map fun x => j.zero.toArray[x % j.zero.toArray.size]!) vs).bind (fun l => forceL l some) = some cl)
    (H : ∀ b, Y c R l' k' (pput pe' d (.v (.slice (some ⟨b, 0, none⟩) len len))) (L ++ [.pt b (.cells cl.toArray el (0, 0))])) : Y c R l k pe L := by
  refine Y.new (d := d) (fv := fun b => .slice (some ⟨b, 0, none⟩) len len) rfl ha (fun e hE w => ?_) H
  have hp := mapPV_sound hE hvs
  obtain ⟨dd, hdd, hfit⟩ := run_underlying' (w := w) c.hT ht
  rw [htd] at hfit
  simp only [TD.fits] at hfit
  subst hfit
  obtain ⟨z, hzr, hzc⟩ := run_zero (w := w) c.hT hel
  have hle : len * j.size ≤ 2 ^ 24 := Nat.le_of_ble_eq_true hsm
  have hcl' : fillL (fun x => some (x * j.size, j.size)) ((List.range (len * j.size)).map fun x => j.zero.toArray[x % j.zero.toArray.size]!) vs = some cl := by
    cases hf : fillL (fun x => some (x * j.size, j.size)) ((List.range (len * j.size)).map fun x => j.zero.toArray[x % j.zero.toArray.size]!) vs with
    | none => rw [hf] at hcl; cases hcl
    | some r => rw [hf] at hcl; simpa [forceL_eq] using hcl
  have hfill : ∀ (zz : Array Value), (len * j.size ≠ 0 → zz = j.zero.toArray) →
      Instr.fill (fun i => some (i * j.size, j.size)) ((Array.range (len * j.size)).map (zz[· % zz.size]!)) vs = some cl.toArray := by
    intro zz hzz
    have harr : ((Array.range (len * j.size)).map (zz[· % zz.size]!)) = ((List.range (len * j.size)).map fun x => j.zero.toArray[x % j.zero.toArray.size]!).toArray := by
      by_cases h0 : len * j.size = 0
      · rw [h0]; simp
      · rw [hzz h0]
        apply Array.ext'
        simp
    rw [harr]
    exact fill_of _ _ (fun _ => rfl) _ _ _ hcl'
  have hpts : (pts.map fun x => (x.1, evalE e x.2)).toList = vs := by rw [← hp]; simp
  simp only [execOp, Instr.buildSlice, Sem.run_bind, hdd, run_sizeOf' c.hT hel, Result.andThen]
  rw [if_neg (by omega)]
  by_cases h0 : len * j.size = 0
  · have := hfill #[] (fun h => absurd h0 h)
    simp only [h0, if_true] at this ⊢
    simp only [hpts, this, Sem.run_pure, Sem.run_bind, Result.andThen, run_newRow]
  · rw [if_neg h0]
    have := hfill z.cells (fun _ => hzc)
    simp only [Sem.run_bind, hzr, Result.andThen, Sem.run_pure, hpts, this, run_newRow]
end
end Go.Eng
namespace Go.Eng
open Go

def ovr (pe : PE) (o : Operand) (s : SV) : PE := match o with | .tmp t => (t, s) :: pe | _ => pe

def arI (op : BinOp) (k : IntKind) (a b : Int) : Option Int :=
  match op with
  | .add => some (k.wrap (a + b))
  | .sub => some (k.wrap (a - b))
  | .mul => some (k.wrap (a * b))
  | .quo => if b = 0 then none else some (k.wrap (a.tdiv b))
  | .rem => if b = 0 then none else some (a.tmod b)
  | .and => some (k.wrap (BitVec.ofInt k.bits a &&& BitVec.ofInt k.bits b).toNat)
  | .or => some (k.wrap (BitVec.ofInt k.bits a ||| BitVec.ofInt k.bits b).toNat)
  | .xor => some (k.wrap (BitVec.ofInt k.bits a ^^^ BitVec.ofInt k.bits b).toNat)
  | .andNot => some (k.wrap (BitVec.ofInt k.bits a &&& ~~~BitVec.ofInt k.bits b).toNat)
  | _ => none

def shI (op : BinOp) (k : IntKind) (a b : Int) : Option Int :=
  match op with
  | .shl => if b < 0 then none else some (k.wrap (a * 2 ^ min b.toNat k.bits))
  | .shr => if b < 0 then none else some (a.fdiv (2 ^ min b.toNat k.bits))
  | _ => none

theorem ar_add {a b : Int} (h : -9223372036854775808 ≤ a + b ∧ a + b ≤ 9223372036854775807) : arI .add .i64 a b = some (a + b) := by
  simp only [arI, IntWalk.i64_in _ h]
theorem ar_sub {a b : Int} (h : -9223372036854775808 ≤ a - b ∧ a - b ≤ 9223372036854775807) : arI .sub .i64 a b = some (a - b) := by
  simp only [arI, IntWalk.i64_in _ h]
theorem ar_mul {a b : Int} (h : -9223372036854775808 ≤ a * b ∧ a * b ≤ 9223372036854775807) : arI .mul .i64 a b = some (a * b) := by
  simp only [arI, IntWalk.i64_in _ h]
theorem ar_quo {a b : Int} (h : 0 ≤ a ∧ a ≤ 9223372036854775807 ∧ 1 ≤ b) : arI .quo .i64 a b = some (a / b) := by
  simp only [arI, IntWalk.i64_quo _ _ h]; rw [if_neg (by omega)]
theorem ar_rem {a b : Int} (h : 0 ≤ a ∧ 1 ≤ b) : arI .rem .i64 a b = some (a % b) := by
  simp only [arI]; rw [if_neg (by omega), Int.tmod_eq_emod_of_nonneg h.1]

section
variable {P : Program} {w : World}
theorem run_ar {op k a b z} (hz : arI op k a b = some z) (t : TypeId) : (binOp op t (.int k a) (.int k b)).run P w = .ok (.int k z) w := by
  cases op <;> simp only [arI, Option.some.injEq, reduceCtorEq] at hz <;> first
    | (subst hz; simp [binOp, Op.intArith]; done)
    | (subst hz; simp [binOp, Op.intBits]; done)
    | (split at hz
       · cases hz
       · rename_i hb; simp only [Option.some.injEq] at hz; subst hz; simp [binOp, Op.intDiv, hb])
theorem run_sh {op k k' a b z} (hz : shI op k a b = some z) (t : TypeId) : (binOp op t (.int k a) (.int k' b)).run P w = .ok (.int k z) w := by
  cases op <;> simp only [shI, reduceCtorEq] at hz <;>
    (split at hz
     · cases hz
     · rename_i hb; simp only [Option.some.injEq] at hz; subst hz; simp [binOp, Op.shift, hb])
theorem run_guardInt {op t x y k k' a b} : (eqGuard op t x y (.int k a) (.int k' b)).run P w = .ok () w := by
  unfold eqGuard; cases op <;> simp
end

section
variable {c : Cx} {R : Hp} {L : List HA} {l l' : List XO} {k k' : List Item} {pe pe' : PE} {f : Nat}

theorem Ext.ovr {e : Env} {o : Operand} {s s' : SV} (h : Ext pe e) (ho : opv pe o = some s') (hd : s.den = s'.den) : Ext (ovr pe o s) e := by
  cases o with
  | tmp t =>
    intro t' u hu
    simp only [Eng.ovr, pget] at hu
    split at hu
    · rename_i hk; cases hu
      have : t = t' := Nat.eq_of_beq_eq_true hk
      subst this
      rw [hd]; exact h _ _ ho
    · exact h _ _ hu
  | _ => exact h

theorem X_if {b : Bool} {o x y} (ha : adv c.n c.T f l k pe = .cond b o x y k' pe') (ho : ∃ s, opv pe' o = some s ∧ s.den = .bool b)
    (H1 : b = true → Y c R [] (.code x :: k') (ovr pe' o .tt) L) (H2 : b = false → Y c R [] (.code y :: k') (ovr pe' o .ff) L) : Y c R l k pe L := by
  refine Y.of_adv ha ?_
  obtain ⟨s, ho, hs⟩ := ho
  intro D e h hE hsat
  have hev : evalE e o = .bool b := by rw [opv_sound hE ho, hs]
  cases b with
  | true => exact Run.cond hev (H1 rfl D e h (hE.ovr ho (by rw [hs]; rfl)) hsat)
  | false => exact Run.cond hev (H2 rfl D e h (hE.ovr ho (by rw [hs]; rfl)) hsat)

theorem X_ifT {b : Bool} {o x y} (ha : adv c.n c.T f l k pe = .cond b o x y k' pe') (ho : ∃ s, opv pe' o = some s ∧ s.den = .bool b) (hb : b = true)
    (H1 : Y c R [] (.code x :: k') (ovr pe' o .tt) L) : Y c R l k pe L := X_if ha ho (fun _ => H1) (fun h => by rw [hb] at h; cases h)
theorem X_ifF {b : Bool} {o x y} (ha : adv c.n c.T f l k pe = .cond b o x y k' pe') (ho : ∃ s, opv pe' o = some s ∧ s.den = .bool b) (hb : b = false)
    (H1 : Y c R [] (.code y :: k') (ovr pe' o .ff) L) : Y c R l k pe L := X_if ha ho (fun h => by rw [hb] at h; cases h) (fun _ => H1)

theorem X_g {s : Nat} {b want : Bool} {x} (ha : adv c.n c.T f l k pe = .guard s b want x l' k' pe') (ho : ∃ u, pget pe' s = some u ∧ u.den = .bool b)
    (H1 : b = true → Y c R (x :: l') k' ((s, .tt) :: pe') L) (H2 : b = false → Y c R (x :: l') k' ((s, .ff) :: pe') L) : Y c R l k pe L := by
  refine Y.of_adv ha ?_
  obtain ⟨u, ho, hs⟩ := ho
  intro D e h hE hsat
  have ov : ∀ v : SV, v.den = u.den → Ext ((s, v) :: pe') e := by
    intro v hv t w hw
    simp only [pget] at hw
    split at hw
    · rename_i hk; cases hw
      have : s = t := Nat.eq_of_beq_eq_true hk
      subst this
      rw [hv]; exact hE _ _ ho
    · exact hE _ _ hw
  cases b with
  | true => exact H1 rfl D e h (ov .tt (by rw [hs]; rfl)) hsat
  | false => exact H2 rfl D e h (ov .ff (by rw [hs]; rfl)) hsat
theorem X_gT {s : Nat} {b want : Bool} {x} (ha : adv c.n c.T f l k pe = .guard s b want x l' k' pe') (ho : ∃ u, pget pe' s = some u ∧ u.den = .bool b) (hb : b = true)
    (H1 : Y c R (x :: l') k' ((s, .tt) :: pe') L) : Y c R l k pe L := X_g ha ho (fun _ => H1) (fun h => by rw [hb] at h; cases h)
theorem X_gF {s : Nat} {b want : Bool} {x} (ha : adv c.n c.T f l k pe = .guard s b want x l' k' pe') (ho : ∃ u, pget pe' s = some u ∧ u.den = .bool b) (hb : b = false)
    (H1 : Y c R (x :: l') k' ((s, .ff) :: pe') L) : Y c R l k pe L := X_g ha ho (fun h => by rw [hb] at h; cases h) (fun _ => H1)

theorem X_ar {d op t x y yt ty ps af gd g kd a b z} (ha : adv c.n c.T f l k pe = .op ⟨⟨d, .binOp op t x y yt, ty, ps, af, gd⟩, g, .pure⟩ l' k' pe')
    (hx : opv pe' x = some (.v (.int kd a))) (hy : opv pe' y = some (.v (.int kd b))) (hz : arI op kd a b = some z)
    (H : Y c R l' k' (pput pe' d (.v (.int kd z))) L) : Y c R l k pe L := by
  refine Y.of_adv ha (YS.pure fun D e h hE hs => ⟨.int kd z, fun w => ?_, H D _ h hE.put hs⟩)
  simp only [execOp, opv_sound hE hx, opv_sound hE hy, SV.den, Sem.run_bind, run_guardInt, run_ar hz, Result.andThen]
  rfl

theorem X_sh {d op t x y yt ty ps af gd g kd kd' a b z} (ha : adv c.n c.T f l k pe = .op ⟨⟨d, .binOp op t x y yt, ty, ps, af, gd⟩, g, .pure⟩ l' k' pe')
    (hx : opv pe' x = some (.v (.int kd a))) (hy : opv pe' y = some (.v (.int kd' b))) (hz : shI op kd a b = some z)
    (H : Y c R l' k' (pput pe' d (.v (.int kd z))) L) : Y c R l k pe L := by
  refine Y.of_adv ha (YS.pure fun D e h hE hs => ⟨.int kd z, fun w => ?_, H D _ h hE.put hs⟩)
  simp only [execOp, opv_sound hE hx, opv_sound hE hy, SV.den, Sem.run_bind, run_guardInt, run_sh hz, Result.andThen]
  rfl

/-- a number of one kind as one of another -/
theorem X_cv {d s t x ty ps af gd g kd kd' a z i j} (ha : adv c.n c.T f l k pe = .op ⟨⟨d, .convert s t x, ty, ps, af, gd⟩, g, .read⟩ l' k' pe')
    (hx : opv pe' x = some (.v (.int kd a))) (hs : tget c.T s = some j) (ht : tget c.T t = some i) (htd : i.td = .int kd') (hz : kd'.wrap a = z)
    (H : Y c R l' k' (pput pe' d (.v (.int kd' z))) L) : Y c R l k pe L := by
  refine Y.of_adv ha (YS.read fun D e h hE hsat => ⟨.int kd' z, fun w h2 _ _ => ?_, H D _ h hE.put hsat⟩)
  obtain ⟨d1, hd1, _⟩ := run_underlying' (w := w) c.hT hs
  obtain ⟨d2, hd2, hfit⟩ := run_underlying' (w := w) c.hT ht
  rw [htd] at hfit
  simp only [TD.fits] at hfit
  subst hfit
  simp only [execOp, opv_sound hE hx, SV.den, Sem.run_bind, convert, hd1, hd2, Result.andThen]
  subst hz
  cases d1 <;> simp [Conv.intToInt]

theorem X_call {d fo as ats ty ps af gd g} {gf : FuncId} {first captured : Array Value} {vs : List Value} {Q : Value → List HA → Prop} {C : Hp → Prop} (idx : List Nat)
    (ha : adv c.n c.T f l k pe = .op ⟨⟨d, .call ⟨.value fo, as, ats⟩, ty, ps, af, gd⟩, g, .other⟩ l' k' pe')
    (hf : opv pe' fo = some (.v (.func (.func gf) first captured))) (hvs : mapV pe' as.toList = some vs) (hidx : idxB idx L.length = true)
    (hT : ∀ r, C r → Tr c.P gf (first.toList ++ (vs ++ captured.toList)) r (pickI idx L) Q) (hC : ∀ r, Sat R (dropI idx L) r → C r)
    (H : ∀ v L', Q v L' → Y c R l' k' (pput pe' d (.v v)) (fillI idx L' (dropI idx L))) : Y c R l k pe L := by
  refine Y.of_adv ha (YS.other fun D e h hE hs => ?_)
  obtain ⟨r, hr1, hr2, hr3⟩ := hs.frame hidx
  obtain ⟨⟨F, hF, hn, hbd⟩, hent⟩ := hT r (hC r hr1)
  have hargs := mapV_sound hE hvs
  intro w hon
  have hrun : (execOp (evalE e) ⟨d, .call ⟨.value fo, as, ats⟩, ty, ps, af, gd⟩).run c.P w = .ok (.enter gf (first.toList ++ (vs ++ captured.toList)).toArray) w := by
    have hmap : as.map (evalE e) = vs.toArray := by apply Array.ext'; simpa using hargs
    have harr : first ++ vs.toArray ++ captured = (first.toList ++ (vs ++ captured.toList)).toArray := by
      apply Array.ext'; simp
    simp only [execOp, resolve, opv_sound hE hf, SV.den, Deferred.ofValue, hmap, Sem.run_bind, Sem.run_pure, Result.andThen, invoke, callFunc, program, Sem.run]
    rw [show c.P.funcs[gf]? = some F from hF]
    simp only [hn, hbd, Bool.false_eq_true, if_false, harr]
    rfl
  rw [hrun]
  refine ⟨h, hon, .refl w, (hent h hr2).mono fun v h' ⟨L', hQ, hS⟩ => ?_⟩
  exact H v L' hQ D _ h' hE.put (hr3 L' h' hS)

def resV (pe : PE) : List ResultVar → Option (List Value)
  | [] => some []
  | .tmp t :: r => match pget pe t with
    | some s => match resV pe r with
      | some l => some (s.den :: l)
      | none => none
    | none => none
  | .cell _ _ :: _ => none
def tupV : List Value → Value
  | [v] => v
  | vs => .tuple vs.toArray

theorem run_results_tmp {P : Program} {w : World} {F : Func} {n : Nat} {e : Env} {tm : Array Value} {vs} (hE : Ext pe e) (hS : Sim n e tm) (hr : resV pe F.results.toList = some vs) :
    (results F tm).run P w = .ok (tupV vs) w := by
  have key : ∀ (rs : List ResultVar) (vs : List Value), resV pe rs = some vs →
      (rs.mapM (m := Sem) fun | .tmp t => pure (tm.getD t undef) | .cell a t => do loadVar t (← asAddr (tm.getD a undef))).run P w = .ok vs w := by
    intro rs
    induction rs with
    | nil => intro vs h; simp only [resV, Option.some.injEq] at h; subst h; rfl
    | cons r rs ih =>
      intro vs h
      cases r with
      | cell a t => cases h
      | tmp t =>
        simp only [resV] at h
        cases hg : pget pe t with
        | none => rw [hg] at h; cases h
        | some s =>
          rw [hg] at h; simp only at h
          cases hl : resV pe rs with
          | none => rw [hl] at h; cases h
          | some l =>
            rw [hl] at h; simp only [Option.some.injEq] at h; subst h
            have h0 : tm.getD t undef = s.den := by rw [hS.val]; exact hE t s hg
            simp only [List.mapM_cons, Sem.run_bind, Sem.run_pure, ih l hl, h0, Result.andThen]
  have := key F.results.toList vs hr
  unfold results
  rw [Sem.run_bind, Array.mapM_eq_mapM_toList, Sem.run_map]
  erw [this]
  simp only [Result.andThen, Sem.run_pure]
  match vs with
  | [] => rfl
  | [v] => rfl
  | v :: u :: r => rfl

def unw (D : List Nat) (h : Hp) : Hp := fun b => if b ∈ D then some (.deferred none) else h b

theorem steps_unwind {P : Program} {cs : List Frame} : ∀ (D : List Nat) (fr : Frame) (w : World) (h : Hp), fr.mode = .returning → fr.defers = marks D → On w h → D.Nodup → (∀ b ∈ D, h b = some (.deferred (some []))) →
    ∃ w', Steps P (lone fr cs w) (lone { fr with defers := [] } cs w') ∧ On w' (unw D h) ∧ Keep w w' := by
  intro D
  induction D with
  | nil =>
    intro fr w h hm hd hon _ _
    refine ⟨w, ?_, ?_, .refl w⟩
    · have : { fr with defers := [] } = fr := by cases fr; simp only [marks, List.map_nil] at hd; subst hd; rfl
      rw [this]; exact .refl _ _
    · have : unw [] h = h := by funext b; simp [unw]
      rw [this]; exact hon
  | cons r D ih =>
    intro fr w h hm hd hon hnd hall
    obtain ⟨hn1, hn2⟩ := List.nodup_cons.1 hnd
    have hr := hall r (by simp)
    have hst := st_unwind (P := P) (cs := cs) (w := w) (fr := fr) (r := r) (ds := marks D) (ds' := []) hm (by rw [hd]; rfl) (by rw [hon]; exact hr)
    obtain ⟨w', h1, h2, h3⟩ := ih { fr with defers := marks D } (putO w r (.deferred none)) (upd h r (.deferred none)) hm rfl (hon.set hr) hn2 (by
      intro b hb
      have hne : b ≠ r := by rintro rfl; exact hn1 hb
      simp only [upd]; rw [if_neg hne]; exact hall b (by simp [hb]))
    refine ⟨w', .head hst h1, ?_, (Keep.set w r _).trans h3⟩
    have : unw D (upd h r (.deferred none)) = unw (r :: D) h := by
      funext b; simp only [unw, upd, List.mem_cons]
      by_cases h1 : b ∈ D <;> by_cases h2 : b = r <;> simp [h1, h2]
    rw [← this]; exact h2

theorem Sat.unw {D : List Nat} {h : Hp} (s : Sat R (marksH D :: L) h) : D.Nodup ∧ (∀ b ∈ D, h b = some (.deferred (some []))) ∧ Sat R L (unw D h) := by
  obtain ⟨hf, m, ⟨ma, mb, ha, hb, dab, hmab⟩, d, sR, sm⟩ := s
  obtain ⟨hnd, hma⟩ : D.Nodup ∧ ∀ b, ma b = if b ∈ D then some (.deferred (some [])) else none := ha
  have dd := (disj_or hmab).1 d
  have ss := (sub_or hmab dab).1 sm
  have hin : ∀ b, b ∈ D → ma b = some (.deferred (some [])) := fun b hb => by rw [hma, if_pos hb]
  have keep : ∀ x : Hp, Sub x h → Disj x ma → Sub x (Eng.unw D h) := by
    intro x sx dx b o hbo
    simp only [Eng.unw]
    by_cases hbD : b ∈ D
    · rcases dx b with hh | hh
      · rw [hh] at hbo; cases hbo
      · rw [hin b hbD] at hh; cases hh
    · rw [if_neg hbD]; exact sx b o hbo
  refine ⟨hnd, fun b hb => ss.1 b _ (hin b hb), ?_, mb, hb, dd.2, keep R sR dd.1, keep mb ss.2 dab.symm⟩
  obtain ⟨N, hN⟩ := hf
  refine ⟨N, fun b hb => ?_⟩
  have hbn := hN b hb
  simp only [Eng.unw]
  by_cases hbD : b ∈ D
  · have := ss.1 b _ (hin b hbD); rw [hbn] at this; cases this
  · rw [if_neg hbD]; exact hbn

theorem Run.ret_fn {F : Func} {D : List Nat} {e : Env} {h : Hp} {vs : List Value} (hro : c.ro = none) (hF : c.P.funcs[c.fn]? = some F) (hr : resV pe F.results.toList = some vs) (hE : Ext pe e)
    (hs : Sat R (marksH D :: L) h) (hpost : ∀ h, Sat R L h → c.R (tupV vs) h) {todo : List Item} (ht : todo = [] ∨ ∃ k, todo = .code .ret :: k) : Run c.P c.fn c.ro c.n todo D e h c.R := by
  intro tm w cs hsim hon _
  obtain ⟨h1, h2, h3⟩ := hs.unw
  rw [hro]
  have hst : step c.P (lone (mk c.fn none tm todo (marks D)) cs w) = .next (lone { mk c.fn none tm todo (marks D) with mode := .returning } cs w) := by
    rcases ht with rfl | ⟨k, rfl⟩
    · exact st_end
    · exact st_ret
  obtain ⟨w', hs', hon', hk⟩ := steps_unwind (P := c.P) (cs := cs) D { mk c.fn none tm todo (marks D) with mode := .returning } w h rfl rfl hon h1 h2
  refine ⟨tupV vs, w', _, hon', hpost _ h3, hk, ?_⟩
  refine ⟨_, .head hst hs', rfl, rfl, rfl, rfl, F, hF, ?_⟩
  exact run_results_tmp hE hsim hr

theorem X_ret {F : Func} {vs : List Value} (ha : adv c.n c.T f l k pe = .ret k' pe') (hro : c.ro = none) (hF : c.P.funcs[c.fn]? = some F) (hr : resV pe' F.results.toList = some vs)
    (hpost : ∀ h, Sat R L h → c.R (tupV vs) h) : Y c R l k pe L :=
  Y.of_adv ha fun D e h hE hs => Run.ret_fn hro hF hr hE hs hpost (.inr ⟨_, rfl⟩)
theorem X_fin {F : Func} {vs : List Value} (ha : adv c.n c.T f l k pe = .fin pe') (hro : c.ro = none) (hF : c.P.funcs[c.fn]? = some F) (hr : resV pe' F.results.toList = some vs)
    (hpost : ∀ h, Sat R L h → c.R (tupV vs) h) : Y c R l k pe L :=
  Y.of_adv ha fun D e h hE hs => Run.ret_fn hro hF hr hE hs hpost (.inl rfl)

def pgets (pe : PE) : List Nat → Option (List Value)
  | [] => some []
  | t :: r => match pget pe t with
    | some s => match pgets pe r with
      | some l => some (s.den :: l)
      | none => none
    | none => none
def zipV : List Nat → List Value → PE
  | t :: ts, v :: vs => (t, .v v) :: zipV ts vs
  | _, _ => []

theorem pget_append {q : PE} {t : Nat} : ∀ {p : PE}, pget (p ++ q) t = (match pget p t with | some s => some s | none => pget q t) := by
  intro p
  induction p with
  | nil => rfl
  | cons x p ih =>
    obtain ⟨t0, s0⟩ := x
    simp only [List.cons_append, pget]
    split
    · rfl
    · exact ih

theorem Ext.append {p q : PE} {e : Env} (h1 : Ext p e) (h2 : Ext q e) : Ext (p ++ q) e := by
  intro t s hs
  rw [pget_append] at hs
  split at hs
  · rename_i s' hp; cases hs; exact h1 t _ hp
  · exact h2 t s hs

theorem Ext.zip {e : Env} (hE : Ext pe e) : ∀ {ts vs}, pgets pe ts = some vs → Ext (zipV ts vs) e := by
  intro ts
  induction ts with
  | nil => intro vs h t s hs; simp [zipV, pget] at hs
  | cons t0 ts ih =>
    intro vs h
    simp only [pgets] at h
    cases hg : pget pe t0 with
    | none => rw [hg] at h; cases h
    | some s0 =>
      rw [hg] at h; simp only at h
      cases hl : pgets pe ts with
      | none => rw [hl] at h; cases h
      | some l =>
        rw [hl] at h; simp only [Option.some.injEq] at h; subst h
        intro t s hs
        simp only [zipV, pget] at hs
        split at hs
        · rename_i hk; cases hs
          have : t0 = t := Nat.eq_of_beq_eq_true hk
          subst this; exact hE t0 s0 hg
        · exact ih hl t s hs

/-- less is known, less is held -/
theorem Y.weak {pe0 : PE} {idx : List Nat} (hE : ∀ e, Ext pe e → Ext pe0 e) (H : Y c R l k pe0 (pickI idx L)) : Y c R l k pe L :=
  fun D e h hx hs => H D e h (hE e hx) (hs.pick idx)

theorem X_loop {b : Code} (ms ks idx : List Nat) (I : Nat → List Value → List HA → Prop) {m : Nat} {vs kv : List Value}
    (ha : adv c.n c.T f l k pe = .loop b k' pe') (hv : pgets pe' ms = some vs) (hk : pgets pe' ks = some kv) (h0 : I m vs (pickI idx L))
    (round : ∀ m vs L, I m vs L → (∀ m' vs' L', m' < m → I m' vs' L' → Y c R [] (.inLoop b :: k') (zipV ms vs' ++ zipV ks kv) L') → Y c R [] (.code b :: .inLoop b :: k') (zipV ms vs ++ zipV ks kv) L) :
    Y c R l k pe L := by
  refine Y.of_adv ha fun D e h hE hs => ?_
  show Run _ _ _ _ _ _ _ _ _
  refine Run.inv (fun m D e h => ∃ vs L, I m vs L ∧ Ext (zipV ms vs ++ zipV ks kv) e ∧ Sat R (marksH D :: L) h) (m := m) ⟨vs, _, h0, (hE.zip hv).append (hE.zip hk), hs.pick idx⟩ ?_
  rintro m D e h ⟨vs, L, hI, hx, hs⟩ ih
  have ih' : ∀ m' vs' L', m' < m → I m' vs' L' → Y c R [] (.inLoop b :: k') (zipV ms vs' ++ zipV ks kv) L' :=
    fun m' vs' L' hm hI' D' e' h' hx' hs' => ih m' D' e' h' hm ⟨vs', L', hI', hx', hs'⟩
  exact round m vs L hI ih' D e h hx hs

theorem X_again {b : Code} (ms ks idx : List Nat) {vs kv : List Value} (ha : adv c.n c.T f l k pe = .inLoop b k' pe') (hv : pgets pe' ms = some vs) (hk : pgets pe' ks = some kv)
    (H : Y c R [] (.inLoop b :: k') (zipV ms vs ++ zipV ks kv) (pickI idx L)) : Y c R l k pe L :=
  Y.of_adv ha (Y.weak (pe0 := zipV ms vs ++ zipV ks kv) (fun e hE => (hE.zip hv).append (hE.zip hk)) H)

end

/-! ### A function, from its walk -/
def argsPE : Nat → List Value → PE
  | _, [] => []
  | i, v :: r => (i, .v v) :: argsPE (i + 1) r

theorem argsPE_get {e : Env} : ∀ (i : Nat) (vs : List Value), (∀ j v, vs[j]? = some v → e (i + j) = v) → Ext (argsPE i vs) e := by
  intro i vs
  induction vs generalizing i with
  | nil => intro _ t s h; simp [argsPE, pget] at h
  | cons v r ih =>
    intro hall t s h
    simp only [argsPE, pget] at h
    split at h
    · rename_i hk; cases h
      have : i = t := Nat.eq_of_beq_eq_true hk
      subst this; exact hall 0 v rfl
    · exact ih (i + 1) (fun j u hj => by have := hall (j + 1) u (by simpa using hj); rwa [show i + 1 + j = i + (j + 1) by omega]) t s h

theorem Enter_sim {P : Program} {g : FuncId} {F : Func} {co : Code} {args : List Value} (hF : P.funcs[g]? = some F) (hb : F.body = some co) (hn : Nat.ble args.length F.ntmps = true) :
    ∃ tm, Frame.enter P g args.toArray .normal = mk g none tm [.code co] (marks []) ∧ Sim F.ntmps (fun t => tm.getD t undef) tm ∧ ∀ j v, args[j]? = some v → tm.getD (0 + j) undef = v := by
  have hle : args.length ≤ F.ntmps := Nat.le_of_ble_eq_true hn
  refine ⟨args.toArray ++ Array.replicate (F.ntmps - args.length) undef, ?_, ⟨by simp; omega, fun t => rfl⟩, ?_⟩
  · simp [Frame.enter, mk, hF, hb, marks]
  · intro j v hj
    have hlt : j < args.length := (List.getElem?_eq_some_iff.1 hj).1
    have hg : args[j] = v := (List.getElem?_eq_some_iff.1 hj).2
    simp [Array.getD_eq_getD_getElem?, Array.getElem?_append, hlt, hg]

def cxF (P : Program) (T : TT) (hT : TOk P T) (hM : P.follows .mixedOrders = true) (g : FuncId) (n : Nat) (R : Value → Hp → Prop) : Cx := ⟨P, T, g, none, n, R, hT, hM⟩

theorem marks_nil_sat {R : Hp} {L : List HA} {h : Hp} (s : Sat R L h) : Sat R (marksH [] :: L) h := by
  obtain ⟨hf, m, hL, d, sR, sm⟩ := s
  exact ⟨hf, m, ⟨fun _ => none, m, ⟨List.nodup_nil, fun b => by simp⟩, hL, fun _ => .inl rfl, fun b => by simp⟩, d, sR, sm⟩

theorem Tr.intro {P : Program} {T : TT} {g : FuncId} {F : Func} {co : Code} {args : List Value} {R : Hp} {L : List HA} {Q : Value → List HA → Prop} (hT : TOk P T) (hM : P.follows .mixedOrders = true)
    (hF : P.funcs[g]? = some F) (hb : F.body = some co) (hn : Nat.ble args.length F.ntmps = true) (hname : (F.name == "runtime.NumGoroutine") = false)
    (H : Y (cxF P T hT hM g F.ntmps fun v h => ∃ L', Q v L' ∧ Sat R L' h) R [] [.code co] (argsPE 0 args) L) : Tr P g args R L Q := by
  refine ⟨⟨F, hF, hname, by rw [hb]; rfl⟩, fun h hs w hon cl cs => ?_⟩
  obtain ⟨tm, he, hsim, hargs⟩ := Enter_sim hF hb hn
  have hrun : Run P g none F.ntmps [.code co] [] (fun t => tm.getD t undef) h (fun v h => ∃ L', Q v L' ∧ Sat R L' h) :=
    H [] _ h (argsPE_get 0 args hargs) (marks_nil_sat hs)
  obtain ⟨v, w', h', h1, h2, h3, fr, h4, h5, h6⟩ := hrun tm w (cl :: cs) hsim hon (by simp)
  rw [he]
  exact ⟨v, w', h', h1, h2, h3, h4.trans (.one (step_leave_returned h6))⟩

/-- for the law itself -/
theorem calls_of_Y {P : Program} {T : TT} {g : FuncId} {F : Func} {co : Code} {args : List Value} {w : World} {h : Hp} {Rp : Value → Hp → Prop} (hT : TOk P T) (hM : P.follows .mixedOrders = true)
    (hF : P.funcs[g]? = some F) (hb : F.body = some co) (hn : Nat.ble args.length F.ntmps = true) (hon : On w h)
    (H : Y (cxF P T hT hM g F.ntmps Rp) h [] [.code co] (argsPE 0 args) []) :
    Calls P g args.toArray w fun e w' => ∃ v h', e = .returned v ∧ Rp v h' ∧ On w' h' ∧ Keep w w' := by
  intro cs
  obtain ⟨tm, he, hsim, hargs⟩ := Enter_sim hF hb hn
  have hrun : Run P g none F.ntmps [.code co] [] (fun t => tm.getD t undef) h Rp :=
    H [] _ h (argsPE_get 0 args hargs) (marks_nil_sat ⟨hon.fin, fun _ => none, fun _ => rfl, fun _ => .inr rfl, .refl h, fun b o hb => by cases hb⟩)
  obtain ⟨v, w', h', h1, h2, h3, fr, h4, h5, h6⟩ := hrun tm w cs hsim hon (by simp)
  refine ⟨.returned v, w', fr, ⟨v, h', rfl, h2, h1, h3⟩, ?_, h5, h6⟩
  rw [he]; exact h4
end Go.Eng
namespace Go.Eng
open Go

/-! ### Keys -/
structure KL (P : Program) (kt : TypeId) {κ : Type} (enc : κ → Value) : Prop where
  inj : ∀ a b, enc a = enc b → a = b
  check : ∀ em k w, (Instr.checkKey em 10000 kt (enc k)).run P w = .ok () w
  find : ∀ k (es : List MapEntry) (ks : List κ) w, es.map (·.key) = ks.map enc →
    ((∀ x ∈ ks, x ≠ k) ∧ (Instr.findKey kt (enc k) es).run P w = .ok none w) ∨ ∃ j e, (Instr.findKey kt (enc k) es).run P w = .ok (some (j, e.val)) w ∧ es[j]? = some e ∧ ks[j]? = some k
  stays : ∀ k w, (Instr.keyThatStays (enc k) (enc k)).run P w = .ok (enc k) w

theorem findNow_dec {κ : Type} [DecidableEq κ] {kind : TypeDesc} {enc : κ → Value} {k : κ} (hs : ∀ a, Instr.sameNow kind (enc k) (enc a) = some (decide (k = a))) :
    ∀ (es : List MapEntry) (ks : List κ) (i : Nat), es.map (·.key) = ks.map enc →
    ((∀ x ∈ ks, x ≠ k) ∧ Instr.findNow kind (enc k) es i = some none) ∨ ∃ j e, Instr.findNow kind (enc k) es i = some (some (i + j, e.val)) ∧ es[j]? = some e ∧ ks[j]? = some k := by
  intro es
  induction es with
  | nil => intro ks i h; cases ks with
           | nil => exact .inl ⟨by simp, rfl⟩
           | cons a r => simp at h
  | cons e es ih =>
    intro ks i h
    cases ks with
    | nil => simp at h
    | cons a r =>
      simp only [List.map_cons, List.cons.injEq] at h
      simp only [Instr.findNow, h.1, hs]
      by_cases hk : k = a
      · subst hk
        refine .inr ⟨0, e, by simp, rfl, rfl⟩
      · simp only [hk, decide_false]
        rcases ih r (i + 1) h.2 with ⟨h1, h2⟩ | ⟨j, e', h1, h2, h3⟩
        · exact .inl ⟨fun x hx => by rcases List.mem_cons.1 hx with rfl | hx; exact fun hh => hk hh.symm; exact h1 x hx, h2⟩
        · exact .inr ⟨j + 1, e', by rw [h1]; congr 3; omega, by simpa using h2, by simpa using h3⟩

theorem findAsking_dec {κ : Type} [DecidableEq κ] {P : Program} {kt : TypeId} {enc : κ → Value} {k : κ} (hs : ∀ a w, (Op.equal kt (enc k) (enc a)).run P w = .ok (decide (k = a)) w) (w : World) :
    ∀ (es : List MapEntry) (ks : List κ) (i : Nat), es.map (·.key) = ks.map enc →
    ((∀ x ∈ ks, x ≠ k) ∧ (Instr.findAsking kt (enc k) es i).run P w = .ok none w) ∨ ∃ j e, (Instr.findAsking kt (enc k) es i).run P w = .ok (some (i + j, e.val)) w ∧ es[j]? = some e ∧ ks[j]? = some k := by
  intro es
  induction es with
  | nil => intro ks i h; cases ks with
           | nil => exact .inl ⟨by simp, rfl⟩
           | cons a r => simp at h
  | cons e es ih =>
    intro ks i h
    cases ks with
    | nil => simp at h
    | cons a r =>
      simp only [List.map_cons, List.cons.injEq] at h
      simp only [Instr.findAsking, h.1, Sem.run_bind, hs, Result.andThen]
      by_cases hk : k = a
      · subst hk
        refine .inr ⟨0, e, by simp, rfl, rfl⟩
      · simp only [hk, decide_false, Bool.false_eq_true, if_false]
        rcases ih r (i + 1) h.2 with ⟨h1, h2⟩ | ⟨j, e', h1, h2, h3⟩
        · exact .inl ⟨fun x hx => by rcases List.mem_cons.1 hx with rfl | hx; exact fun hh => hk hh.symm; exact h1 x hx, h2⟩
        · exact .inr ⟨j + 1, e', by rw [h1]; congr 3; omega, by simpa using h2, by simpa using h3⟩

theorem check_plain {P : Program} {kt d} {v : Value} (hu : P.underlying kt = some d) (hd : ∀ ms n e, d ≠ .interface ms ∧ d ≠ .array n e) (hs : ∀ fs, d ≠ .struct fs) (em : Bool) (n : Nat) (w : World) : (Instr.checkKey em (n + 1) kt v).run P w = .ok () w := by
  simp only [Instr.checkKey, Sem.run_bind, run_underlying hu, Result.andThen]
  cases d <;> first
    | rfl
    | exact absurd rfl (hd _ 0 0).1
    | exact absurd rfl (hd #[] _ _).2
    | exact absurd rfl (hs _)

theorem bytes_beq (k a : ByteArray) : (k == a) = decide (k = a) := by
  obtain ⟨⟨x⟩⟩ := k
  obtain ⟨⟨y⟩⟩ := a
  show ((⟨x⟩ : Array UInt8) == ⟨y⟩) = decide _
  by_cases h : x = y <;> simp [h]

theorem keyStays {P : Program} {w : World} {v : Value} (h : Instr.sameBits 10000 v v = true) : (Instr.keyThatStays v v).run P w = .ok v w := by
  simp only [Instr.keyThatStays, h, if_true]; rfl

theorem KL.int {P : Program} {kt : TypeId} {q : IntKind} (hu : P.underlying kt = some (.int q)) : KL P kt (fun a : Int => Value.int q a) where
  inj a b h := by cases h; rfl
  check em k w := check_plain hu (by simp) (by simp) em 9999 w
  find k es ks w h := by
    have hs : ∀ a, Instr.sameNow (.int q) (.int q k) (.int q a) = some (decide (k = a)) := by
      intro a; simp [Instr.sameNow]; by_cases hh : k = a <;> simp [hh]
    rcases findNow_dec (enc := fun a : Int => Value.int q a) (k := k) hs es ks 0 h with ⟨h1, h2⟩ | ⟨j, e, h1, h2, h3⟩
    · exact .inl ⟨h1, by simp [Instr.findKey, run_underlying hu, h2]⟩
    · refine .inr ⟨j, e, ?_, h2, h3⟩
      simp only [Nat.zero_add] at h1
      simp [Instr.findKey, run_underlying hu, h1]
  stays k w := keyStays (by unfold Instr.sameBits; simp)

theorem KL.str {P : Program} {kt : TypeId} (hu : P.underlying kt = some .string) : KL P kt (fun a : ByteArray => Value.string a) where
  inj a b h := by cases h; rfl
  check em k w := check_plain hu (by simp) (by simp) em 9999 w
  find k es ks w h := by
    have hs : ∀ a : ByteArray, Instr.sameNow .string (.string k) (.string a) = some (decide (k = a)) := by
      intro a; simp [Instr.sameNow, bytes_beq]
    rcases findNow_dec (enc := fun a : ByteArray => Value.string a) (k := k) hs es ks 0 h with ⟨h1, h2⟩ | ⟨j, e, h1, h2, h3⟩
    · exact .inl ⟨h1, by simp [Instr.findKey, run_underlying hu, h2]⟩
    · refine .inr ⟨j, e, ?_, h2, h3⟩
      simp only [Nat.zero_add] at h1
      simp [Instr.findKey, run_underlying hu, h1]
  stays k w := keyStays (by unfold Instr.sameBits; simp [bytes_beq])

def pairV (a : Int × Int) : Value := .agg #[.int .i64 a.1, .int .i64 a.2]

theorem sameBits_pair (a : Int × Int) : Instr.sameBits 10000 (pairV a) (pairV a) = true := by
  have : ∀ n, Instr.sameBits (n + 1) (pairV a) (pairV a) = true := by
    intro n
    have hi : ∀ k x, Instr.sameBits n (.int k x) (.int k x) = true := by intro k x; cases n <;> simp [Instr.sameBits]
    simp [Instr.sameBits, pairV, hi]
  exact this 9999

/-- a key of two numbers: a struct -/
theorem KL.pairS {P : Program} {T : TT} {kt ft i j} {a1 a2 : Field} (hT : TOk P T) (hk : tget T kt = some i) (hu : P.underlying kt = some (.struct #[a1, a2])) (hst : P.stoodInHeld kt = false)
    (hn1 : a1.name ≠ "_") (hn2 : a2.name ≠ "_") (ht1 : a1.type = ft) (ht2 : a2.type = ft) (ho1 : a1.offset = 0) (ho2 : a2.offset = 1) (hf : tget T ft = some j) (hfd : j.td = .int .i64) : KL P kt pairV := by
  obtain ⟨d, hd, hfit⟩ := (tget_ok hT hf).desc
  rw [hfd] at hfit; simp only [TD.fits] at hfit; subst hfit
  have hpart : ∀ (cs : Array Value) (o : Nat) (v : Value) w, cs[o]? = some v → (part ft cs o).run P w = .ok v w := by
    intro cs o v w hv
    simp [part, isAgg, run_underlying hd, hv]
  have heq : ∀ (k a : Int × Int) w, (Op.equal kt (pairV k) (pairV a)).run P w = .ok (decide (k = a)) w := by
    intro k a w
    have hfo : P.fieldsOf kt = #[a1, a2] := by simp [Program.fieldsOf, hu]
    unfold Op.equal Op.maxDepth pairV
    rw [run_equalIn_struct w 9999 kt _ _ (by rw [hfo]; exact hu) hst, hfo]
    simp only [Op.eqFields, ne_eq, hn1, hn2, not_false_eq_true, if_true, ht1, ht2, ho1, ho2]
    simp only [Sem.run_bind, hpart _ 0 _ _ (show #[Value.int .i64 k.1, Value.int .i64 k.2][0]? = some (.int .i64 k.1) from rfl), hpart _ 0 _ _ (show #[Value.int .i64 a.1, Value.int .i64 a.2][0]? = some (.int .i64 a.1) from rfl),
      hpart _ 1 _ _ (show #[Value.int .i64 k.1, Value.int .i64 k.2][1]? = some (.int .i64 k.2) from rfl), hpart _ 1 _ _ (show #[Value.int .i64 a.1, Value.int .i64 a.2][1]? = some (.int .i64 a.2) from rfl), Result.andThen]
    have hint0 : ∀ n x y w, (Op.equalIn (n + 1) ft (.int .i64 x) (.int .i64 y)).run P w = .ok (x == y) w := by
      intro n x y w
      simp only [Op.equalIn, Sem.run_bind, run_underlying hd, Result.andThen, if_true]; rfl
    have hint : ∀ x y w, (Op.equalIn 9999 ft (.int .i64 x) (.int .i64 y)).run P w = .ok (x == y) w := hint0 9998
    simp only [hint]
    obtain ⟨k1, k2⟩ := k
    obtain ⟨b1, b2⟩ := a
    by_cases h1 : k1 = b1
    · subst h1
      simp only [beq_self_eq_true, Bool.not_true, Bool.false_eq_true, if_false, Sem.run_bind, hint, Result.andThen,
        hpart _ 1 _ _ (show #[Value.int .i64 k1, Value.int .i64 k2][1]? = some (.int .i64 k2) from rfl), hpart _ 1 _ _ (show #[Value.int .i64 k1, Value.int .i64 b2][1]? = some (.int .i64 b2) from rfl)]
      by_cases h2 : k2 = b2
      · subst h2; simp
      · have hb : (k2 == b2) = false := by simpa using h2
        simp [hb, h2]
    · have hb : (k1 == b1) = false := by simpa using h1
      simp [hb, h1]
  refine ⟨?_, ?_, ?_, ?_⟩
  · rintro ⟨a, b⟩ ⟨c, d⟩ h; simp [pairV] at h; simp [h]
  · intro em k w
    have hpl : ∀ v n w, (Instr.checkKey em (n + 1) ft v).run P w = .ok () w := fun v n w => check_plain hd (by simp) (by simp) em n w
    have main : ∀ n, (Instr.checkKey em (n + 1 + 1) kt (pairV k)).run P w = .ok () w := by
     intro n
     rw [Instr.checkKey]
     simp only [Sem.run_bind, run_underlying hu, Result.andThen, pairV]
     rw [← Array.forIn_toList]
     simp only [List.forIn_cons, List.forIn_nil, ne_eq, hn1, hn2, not_false_eq_true, if_true, ht1, ht2, ho1, ho2, Sem.run_bind,
      hpart _ 0 _ _ (show #[Value.int .i64 k.1, Value.int .i64 k.2][0]? = some (.int .i64 k.1) from rfl), hpart _ 1 _ _ (show #[Value.int .i64 k.1, Value.int .i64 k.2][1]? = some (.int .i64 k.2) from rfl), Result.andThen, hpl, Sem.run_pure]
    exact main 9998
  · intro k es ks w h
    have hnow : ∀ es i, Instr.findNow (.struct #[a1, a2]) (pairV k) es i = (match es with | [] => some none | _ :: _ => none) := by
      intro es i; cases es <;> simp [Instr.findNow, Instr.sameNow]
    cases es with
    | nil =>
      cases ks with
      | nil => exact .inl ⟨by simp, by simp [Instr.findKey, run_underlying hu, hnow]⟩
      | cons a r => simp at h
    | cons e es =>
      have hrun : (Instr.findKey kt (pairV k) (e :: es)).run P w = (Instr.findAsking kt (pairV k) (e :: es) 0).run P w := by
        simp [Instr.findKey, run_underlying hu, hnow]
      rcases findAsking_dec (enc := pairV) (k := k) (heq k) w (e :: es) ks 0 h with ⟨h1, h2⟩ | ⟨j, e', h1, h2, h3⟩
      · exact .inl ⟨h1, by rw [hrun]; exact h2⟩
      · exact .inr ⟨j, e', by rw [hrun, h1]; simp, h2, h3⟩
  · intro k w
    simp [Instr.keyThatStays, sameBits_pair]
end Go.Eng
namespace Go.Eng
open Go

section
variable {κ : Type} [DecidableEq κ]
def aget (k : κ) : List (κ × Value) → Option Value
  | [] => none
  | (a, v) :: r => if a = k then some v else aget k r
def aset (k : κ) (v : Value) : List (κ × Value) → List (κ × Value)
  | [] => [(k, v)]
  | (a, u) :: r => if a = k then (k, v) :: r else (a, u) :: aset k v r
def adel (k : κ) : List (κ × Value) → List (κ × Value)
  | [] => []
  | (a, u) :: r => if a = k then r else (a, u) :: adel k r

theorem aget_none {k : κ} {l : List (κ × Value)} (h : ∀ x ∈ l.map (·.1), x ≠ k) : aget k l = none := by
  induction l with
  | nil => rfl
  | cons p r ih => obtain ⟨a, v⟩ := p; simp only [aget]; rw [if_neg (h a (by simp))]; exact ih fun x hx => h x (by simp at hx ⊢; exact .inr hx)
theorem aget_at {k : κ} : ∀ {l : List (κ × Value)} {j : Nat} {v : Value}, (l.map (·.1)).Nodup → l[j]? = some (k, v) → aget k l = some v := by
  intro l
  induction l with
  | nil => intro j v _ h; simp at h
  | cons p r ih =>
    obtain ⟨a, u⟩ := p
    intro j v hn h
    simp only [List.map_cons, List.nodup_cons] at hn
    cases j with
    | zero => simp at h; simp [aget, h]
    | succ j =>
      simp at h
      have hm : k ∈ r.map (·.1) := List.mem_map.2 ⟨(k, v), List.mem_of_getElem? h, rfl⟩
      have hak : a ≠ k := fun hh => hn.1 (hh ▸ hm)
      simp only [aget]; rw [if_neg hak]; exact ih hn.2 h
theorem aset_new {k : κ} {v : Value} {l : List (κ × Value)} (h : ∀ x ∈ l.map (·.1), x ≠ k) : aset k v l = l ++ [(k, v)] := by
  induction l with
  | nil => rfl
  | cons p r ih => obtain ⟨a, u⟩ := p; simp only [aset]; rw [if_neg (h a (by simp)), ih fun x hx => h x (by simp at hx ⊢; exact .inr hx)]; rfl
theorem aset_at {k : κ} {w : Value} : ∀ {l : List (κ × Value)} {j : Nat} {v : Value}, (l.map (·.1)).Nodup → l[j]? = some (k, v) → aset k w l = l.set j (k, w) := by
  intro l
  induction l with
  | nil => intro j v _ h; simp at h
  | cons p r ih =>
    obtain ⟨a, u⟩ := p
    intro j v hn h
    simp only [List.map_cons, List.nodup_cons] at hn
    cases j with
    | zero => simp at h; simp [aset, h]
    | succ j =>
      simp at h
      have hm : k ∈ r.map (·.1) := List.mem_map.2 ⟨(k, v), List.mem_of_getElem? h, rfl⟩
      have hak : a ≠ k := fun hh => hn.1 (hh ▸ hm)
      simp only [aset]; rw [if_neg hak, ih hn.2 h]; rfl
theorem adel_none {k : κ} {l : List (κ × Value)} (h : ∀ x ∈ l.map (·.1), x ≠ k) : adel k l = l := by
  induction l with
  | nil => rfl
  | cons p r ih => obtain ⟨a, u⟩ := p; simp only [adel]; rw [if_neg (h a (by simp)), ih fun x hx => h x (by simp at hx ⊢; exact .inr hx)]
theorem adel_at {k : κ} : ∀ {l : List (κ × Value)} {j : Nat} {v : Value}, (l.map (·.1)).Nodup → l[j]? = some (k, v) → adel k l = l.eraseIdx j := by
  intro l
  induction l with
  | nil => intro j v _ h; simp at h
  | cons p r ih =>
    obtain ⟨a, u⟩ := p
    intro j v hn h
    simp only [List.map_cons, List.nodup_cons] at hn
    cases j with
    | zero => simp at h; simp [adel, h]
    | succ j =>
      simp at h
      have hm : k ∈ r.map (·.1) := List.mem_map.2 ⟨(k, v), List.mem_of_getElem? h, rfl⟩
      have hak : a ≠ k := fun hh => hn.1 (hh ▸ hm)
      simp only [adel]; rw [if_neg hak, ih hn.2 h]; rfl
end

theorem eraseIdx_map' {α β : Type} (f : α → β) : ∀ (l : List α) (j : Nat), (l.map f).eraseIdx j = (l.eraseIdx j).map f
  | [], _ => rfl
  | _ :: _, 0 => rfl
  | x :: l, j + 1 => by simp [eraseIdx_map' f l j]

structure MapOk {κ : Type} (enc : κ → Value) (es : Array MapEntry) (ck : Nat) (kvs : List (κ × Value)) : Prop where
  kv : es.toList.map (fun e => (e.key, e.val)) = kvs.map (fun p => (enc p.1, p.2))
  nodup : (kvs.map (·.1)).Nodup
  bnd : (es.toList.map (·.born)).Nodup
  lt : ∀ e ∈ es.toList, e.born < ck

def mapH {κ : Type} (enc : κ → Value) (b : Nat) (kvs : List (κ × Value)) : HA := .pred fun m => ∃ es ck, m = single b (.map es ck) ∧ MapOk enc es ck kvs

section
variable {κ : Type} {enc : κ → Value} {es : Array MapEntry} {ck : Nat} {kvs : List (κ × Value)}
theorem MapOk.keys (m : MapOk enc es ck kvs) : es.toList.map (·.key) = (kvs.map (·.1)).map enc := by
  have := congrArg (List.map Prod.fst) m.kv
  simpa [List.map_map, Function.comp_def] using this
theorem MapOk.at (m : MapOk enc es ck kvs) {j : Nat} {e : MapEntry} {k : κ} (he : es.toList[j]? = some e) (hk : (kvs.map (·.1))[j]? = some k) : kvs[j]? = some (k, e.val) := by
  have h1 := congrArg (fun l => l[j]?) m.kv
  simp only [List.getElem?_map, he, Option.map_some] at h1
  simp only [List.getElem?_map, Option.map_eq_some_iff] at hk
  obtain ⟨p, hp, hpk⟩ := hk
  rw [hp] at h1 ⊢
  simp only [Option.map_some, Option.some.injEq, Prod.mk.injEq] at h1
  rw [← hpk, h1.2]
theorem MapOk.empty : MapOk enc #[] 0 [] := ⟨rfl, List.nodup_nil, List.nodup_nil, by simp⟩
theorem MapOk.size (m : MapOk enc es ck kvs) : es.size = kvs.length := by
  have := congrArg List.length m.kv; simpa using this

theorem MapOk.set [DecidableEq κ] {P kt} (K : KL P kt enc) (m : MapOk enc es ck kvs) {j : Nat} {e : MapEntry} {k : κ} {v : Value} (he : es.toList[j]? = some e) (hk : (kvs.map (·.1))[j]? = some k) :
    MapOk enc (es.modify j fun e => { e with key := enc k, val := v }) ck (aset k v kvs) := by
  have hat := m.at he hk
  have hjl : j < es.size := by have := (List.getElem?_eq_some_iff.1 he).1; simpa using this
  have hej : es[j] = e := by have := (List.getElem?_eq_some_iff.1 he).2; simpa using this
  have hmod : (es.modify j fun e => { e with key := enc k, val := v }).toList = es.toList.set j { e with key := enc k, val := v } := by
    apply List.ext_getElem?
    intro i
    simp only [Array.getElem?_toList, Array.getElem?_modify, List.getElem?_set]
    by_cases hij : j = i
    · subst hij; simp [hjl, hej]
    · simp [hij]
  rw [aset_at m.nodup hat]
  refine ⟨?_, ?_, ?_, ?_⟩
  · rw [hmod, List.map_set, List.map_set, m.kv]
  · rw [List.map_set]
    have : (kvs.map (·.1)).set j k = kvs.map (·.1) := by
      apply List.ext_getElem?
      intro i
      rw [List.getElem?_set]
      by_cases hij : j = i
      · subst hij; rw [if_pos rfl, hk]; have := (List.getElem?_eq_some_iff.1 hk).1; rw [if_pos this]
      · rw [if_neg hij]
    rw [this]; exact m.nodup
  · rw [hmod, List.map_set]
    have : (es.toList.map (·.born)).set j e.born = es.toList.map (·.born) := by
      apply List.ext_getElem?
      intro i
      rw [List.getElem?_set]
      by_cases hij : j = i
      · subst hij; rw [if_pos rfl]; simp [hjl, hej]
      · rw [if_neg hij]
    rw [this]; exact m.bnd
  · intro x hx
    rw [hmod] at hx
    rcases List.mem_or_eq_of_mem_set hx with h | h
    · exact m.lt x h
    · subst h; exact m.lt e (List.mem_of_getElem? he)

theorem MapOk.push [DecidableEq κ] (m : MapOk enc es ck kvs) {k : κ} {v : Value} (hk : ∀ x ∈ kvs.map (·.1), x ≠ k) :
    MapOk enc (es.push { key := enc k, val := v, born := ck }) (ck + 1) (aset k v kvs) := by
  rw [aset_new hk]
  refine ⟨?_, ?_, ?_, ?_⟩
  · simp [m.kv]
  · rw [List.map_append, List.map_cons, List.map_nil]
    refine List.nodup_append.2 ⟨m.nodup, by simp, ?_⟩
    intro a ha b hb; simp at hb; subst hb; exact hk a ha
  · rw [Array.toList_push, List.map_append]
    refine List.nodup_append.2 ⟨m.bnd, by simp, ?_⟩
    intro a ha b hb
    simp only [List.map_cons, List.map_nil, List.mem_singleton] at hb
    subst hb
    obtain ⟨e, he, rfl⟩ := List.mem_map.1 ha
    exact Nat.ne_of_lt (m.lt e he)
  · intro e he
    rw [Array.toList_push] at he
    rcases List.mem_append.1 he with h | h
    · exact Nat.lt_succ_of_lt (m.lt e h)
    · simp at h; subst h; exact Nat.lt_succ_self _

theorem MapOk.del [DecidableEq κ] (m : MapOk enc es ck kvs) {j : Nat} {e : MapEntry} {k : κ} (he : es.toList[j]? = some e) (hk : (kvs.map (·.1))[j]? = some k) :
    MapOk enc (es.eraseIdxIfInBounds j) ck (adel k kvs) := by
  have hat := m.at he hk
  have hjl : j < es.size := by have := (List.getElem?_eq_some_iff.1 he).1; simpa using this
  rw [adel_at m.nodup hat]
  have hel : (es.eraseIdxIfInBounds j).toList = es.toList.eraseIdx j := by simp [Array.eraseIdxIfInBounds, hjl]
  refine ⟨?_, ?_, ?_, ?_⟩
  · rw [hel, ← eraseIdx_map', ← eraseIdx_map', m.kv]
  · rw [← eraseIdx_map']; exact m.nodup.sublist (List.eraseIdx_sublist _ _)
  · rw [hel, ← eraseIdx_map']; exact m.bnd.sublist (List.eraseIdx_sublist _ _)
  · intro x hx; rw [hel] at hx; exact m.lt x (List.mem_of_mem_eraseIdx hx)
end
end Go.Eng
namespace Go.Eng
open Go

section
variable {R : Hp} {L : List HA} {h : Hp} {i : Nat}

/-- one assertion put in another's place, its memory turned -/
theorem Sat.turn {A A' : HA} {h' : Hp} (s : Sat R L h) (hi : L[i]? = some A)
    (H : ∀ m1, A.den m1 → Sub m1 h → ∃ m1', A'.den m1' ∧ Fin h' ∧ (∀ b, m1 b = none → (m1' b = none ∨ h b = none)) ∧ (∀ b, m1 b = none → m1' b = none → ∀ o, h b = some o → h' b = some o) ∧ Sub m1' h') :
    Sat R (L.set i A') h' := by
  obtain ⟨hf, m, hL, d, sR, sm⟩ := s
  obtain ⟨m1, m2, h1, d1, hm, hput⟩ := hL.take hi
  have dR := (disj_or hm).1 d
  have ss := (sub_or hm d1).1 sm
  obtain ⟨m1', hA', hf', hnew, hkeep, hsub⟩ := H m1 h1 ss.1
  have dis : ∀ x : Hp, Sub x h → Disj x m1 → Disj m1' x := by
    intro x sx dx b
    rcases dx b with hh | hh
    · exact .inr hh
    · rcases hnew b hh with h3 | h3
      · exact .inl h3
      · right
        cases hx : x b with
        | none => rfl
        | some o => rw [sx b o hx] at h3; cases h3
  have keep : ∀ x : Hp, Sub x h → Disj x m1 → Sub x h' := by
    intro x sx dx b o hb
    rcases dx b with hh | hh
    · rw [hh] at hb; cases hb
    · rcases dis x sx dx b with h3 | h3
      · exact hkeep b hh h3 o (sx b o hb)
      · rw [h3] at hb; cases hb
  have d2 := dis m2 ss.2 d1.symm
  refine ⟨hf', fun b => (m1' b).or (m2 b), hput A' m1' hA' d2 _ (fun _ => rfl), ?_, keep R sR dR.1, ?_⟩
  · exact (disj_or (fun _ => rfl)).2 ⟨(dis R sR dR.1).symm, dR.2⟩
  · exact (sub_or (fun _ => rfl) d2).2 ⟨hsub, keep m2 ss.2 d1.symm⟩

/-- one block, its object turned -/
theorem Sat.turn1 {A A' : HA} {b : Nat} {o' : Obj} (s : Sat R L h) (hi : L[i]? = some A) (hA : ∀ m, A.den m → ∃ o, m = single b o) (hA' : A'.den (single b o')) : Sat R (L.set i A') (upd h b o') := by
  refine s.turn hi fun m1 hm1 hsub => ?_
  obtain ⟨o, rfl⟩ := hA m1 hm1
  refine ⟨single b o', hA', s.fin.upd, fun x hx => ?_, fun x hx _ o2 ho2 => ?_, fun x o2 hx => ?_⟩
  · left
    have : x ≠ b := by rintro rfl; rw [single_at] at hx; cases hx
    exact single_ne this
  · have : x ≠ b := by rintro rfl; rw [single_at] at hx; cases hx
    simp only [upd]; rw [if_neg this]; exact ho2
  · by_cases hxb : x = b
    · subst hxb; rw [single_at] at hx; simp only [upd, if_true]; exact hx
    · rw [single_ne hxb] at hx; cases hx

theorem Sat.getP {A : HA} (s : Sat R L h) (hi : L[i]? = some A) : ∃ m, A.den m ∧ Sub m h := by
  obtain ⟨hf, m, hL, d, sR, sm⟩ := s
  obtain ⟨m1, m2, h1, d1, hm, hput⟩ := hL.take hi
  exact ⟨m1, h1, ((sub_or hm d1).1 sm).1⟩

/-- an assertion for a weaker one -/
theorem Sat.weak {A A' : HA} (s : Sat R L h) (hi : L[i]? = some A) (hA : ∀ m, A.den m → ∃ m', A'.den m' ∧ Sub m' m) : Sat R (L.set i A') h := by
  refine s.turn hi fun m1 hm1 hsub => ?_
  obtain ⟨m', h1, h2⟩ := hA m1 hm1
  refine ⟨m', h1, s.fin, fun b hb => ?_, fun b _ _ o ho => ho, h2.trans hsub⟩
  left
  cases hx : m' b with
  | none => rfl
  | some o => rw [h2 b o hx] at hb; cases hb

theorem Sat.map {κ : Type} {enc : κ → Value} {b : Nat} {kvs : List (κ × Value)} (s : Sat R L h) (hi : L[i]? = some (mapH enc b kvs)) : ∃ es ck, h b = some (.map es ck) ∧ MapOk enc es ck kvs := by
  obtain ⟨m, ⟨es, ck, hm, hok⟩, hsub⟩ := s.getP hi
  exact ⟨es, ck, hsub b _ (by rw [hm, single_at]), hok⟩
end

section
variable {c : Cx} {R : Hp} {L : List HA} {l l' : List XO} {k k' : List Item} {pe pe' : PE} {f : Nat}
variable {κ : Type} {enc : κ → Value}

theorem Y.weak1 {A A' : HA} {i : Nat} (hi : L[i]? = some A) (hA : ∀ m, A.den m → ∃ m', A'.den m' ∧ Sub m' m) (H : Y c R l k pe (L.set i A')) : Y c R l k pe L :=
  fun D e h hx hs => H D e h hx (hs.weak (idx1 hi) hA)

/-- a map that was made stands as one -/
theorem X_asmap (enc : κ → Value) {i b : Nat} (hi : L[i]? = some (.pt b (.map #[] 0))) (H : Y c R l k pe (L.set i (mapH enc b []))) : Y c R l k pe L :=
  Y.weak1 hi (A' := mapH enc b []) (fun m hm => ⟨m, (⟨#[], 0, hm, MapOk.empty⟩ : ∃ es ck, m = single b (.map es ck) ∧ MapOk enc es ck []), .refl m⟩) H

theorem ev_v {e : Env} {x : Operand} {v : Value} (hE : Ext pe e) (hx : opv pe x = some (.v v)) : evalE e x = v := opv_sound hE hx
theorem ev_s {e : Env} {x : Operand} {s : SV} {v : Value} (hE : Ext pe e) (hx : opv pe x = some s) (hs : s.den = v) : evalE e x = v := by rw [opv_sound hE hx, hs]

theorem run_zv {P : Program} {T : TT} {w : World} {t i} (hT : TOk P T) (ht : tget T t = some i) : (zeroValue t).run P w = .ok i.zv w := by
  obtain ⟨x, hx, hz⟩ := (tget_ok hT ht).zval
  simp [zeroValue, typeInfo, hx, hz]

def found (cok : Bool) (v : Value) (b : Bool) : Value := if cok then .tuple #[v, .bool b] else v

theorem X_look [DecidableEq κ] {d t x kx cok ty ps af gd g} {i b kt et : Nat} {ti tj : TI} {s : SV} {kvs : List (κ × Value)} (K : KL c.P kt enc) (key : κ)
    (ha : adv c.n c.T f l k pe = .op ⟨⟨d, .lookup t x kx cok, ty, ps, af, gd⟩, g, .read⟩ l' k' pe')
    (hx : opv pe' x = some (.v (.map (some b)))) (hk : opv pe' kx = some s) (hke : s.den = enc key) (hi : L[i]? = some (mapH enc b kvs))
    (ht : tget c.T t = some ti) (htd : ti.td = .map kt et) (he : tget c.T et = some tj)
    (H1 : ∀ v, aget key kvs = some v → Y c R l' k' (pput pe' d (.v (found cok v true))) L)
    (H2 : aget key kvs = none → Y c R l' k' (pput pe' d (.v (found cok tj.zv false))) L) : Y c R l k pe L := by
  refine Y.of_adv ha (YS.read fun D e h hE hs => ?_)
  obtain ⟨es, ck, hb, hok⟩ := hs.map (idx1 hi)
  have main : ∀ w h2, Sub h h2 → On w h2 → (∃ v, aget key kvs = some v ∧ (execOp (evalE e) ⟨d, .lookup t x kx cok, ty, ps, af, gd⟩).run c.P w = .ok (.value (found cok v true)) w) ∨
      (aget key kvs = none ∧ (execOp (evalE e) ⟨d, .lookup t x kx cok, ty, ps, af, gd⟩).run c.P w = .ok (.value (found cok tj.zv false)) w) := by
    intro w h2 hsub hon
    obtain ⟨dd, hdd, hfit⟩ := run_underlying' (w := w) c.hT ht
    rw [htd] at hfit; simp only [TD.fits] at hfit; subst hfit
    have hget : (getObj b).run c.P w = .ok (.map es ck) w := by
      have := hsub b _ hb; rw [← hon] at this
      simp [getObj, Sem.run, this]
    rcases K.find key es.toList (kvs.map (·.1)) w hok.keys with ⟨hn, hf⟩ | ⟨j, en, hf, hej, hkj⟩
    · refine .inr ⟨aget_none hn, ?_⟩
      simp only [execOp, ev_v hE hx, ev_s hE hk hke, Sem.run_bind, Instr.lookup, hdd, Result.andThen, hget, Sem.run_pure, K.check, hf, run_zv c.hT he, found]
    · refine .inl ⟨en.val, aget_at hok.nodup (hok.at hej hkj), ?_⟩
      simp only [execOp, ev_v hE hx, ev_s hE hk hke, Sem.run_bind, Instr.lookup, hdd, Result.andThen, hget, Sem.run_pure, K.check, hf, found]
  cases hg : aget key kvs with
  | none =>
    refine ⟨_, fun w h2 hsub hon => ?_, H2 hg D _ h hE.put hs⟩
    rcases main w h2 hsub hon with ⟨v, hv, _⟩ | ⟨_, hr⟩
    · rw [hg] at hv; cases hv
    · exact hr
  | some v =>
    refine ⟨_, fun w h2 hsub hon => ?_, H1 v hg D _ h hE.put hs⟩
    rcases main w h2 hsub hon with ⟨v', hv, hr⟩ | ⟨hv, _⟩
    · rw [hg] at hv; cases hv; exact hr
    · rw [hg] at hv; cases hv

theorem X_mapset [DecidableEq κ] {d t x kx vx ty ps af gd g} {i b kt et : Nat} {ti : TI} {s sv : SV} {kvs : List (κ × Value)} (K : KL c.P kt enc) (key : κ)
    (ha : adv c.n c.T f l k pe = .op ⟨⟨d, .mapUpdate t x kx vx, ty, ps, af, gd⟩, g, .other⟩ l' k' pe')
    (hx : opv pe' x = some (.v (.map (some b)))) (hk : opv pe' kx = some s) (hke : s.den = enc key) (hv : opv pe' vx = some sv) (hi : L[i]? = some (mapH enc b kvs))
    (ht : tget c.T t = some ti) (htd : ti.td = .map kt et)
    (H : Y c R l' k' (pput pe' d (.v undef)) (L.set i (mapH enc b (aset key sv.den kvs)))) : Y c R l k pe L := by
  refine Y.of_adv ha (YS.other fun D e h hE hs => ?_)
  obtain ⟨es, ck, hb, hok⟩ := hs.map (idx1 hi)
  intro w hon
  obtain ⟨dd, hdd, hfit⟩ := run_underlying' (w := w) c.hT ht
  rw [htd] at hfit; simp only [TD.fits] at hfit; subst hfit
  have hwb : w.heap[b]? = some (.map es ck) := by rw [hon]; exact hb
  have hget : (getObj b).run c.P w = .ok (.map es ck) w := by simp [getObj, Sem.run, hwb]
  have hset : ∀ o, (setObj b o).run c.P w = .ok () { w with heap := w.heap.setIfInBounds b o } := by intro o; simp [setObj, Sem.run, hwb]
  have fin : ∀ es' ck', MapOk enc es' ck' (aset key sv.den kvs) → ∀ r : Result Next, r = .ok .skip { w with heap := w.heap.setIfInBounds b (.map es' ck') } →
      Upon c.P w (fun v h' => aops c.P l' (fun e h => Run c.P c.fn c.ro c.n k' D e h c.R) (put e d v) h') r := by
    intro es' ck' hok' r hr
    rw [hr]
    refine ⟨_, hon.set hb, .set w b _, H D _ _ (hE.put (s := .v undef)) ?_⟩
    exact hs.turn1 (idx1 hi) (fun m ⟨es, ck, hm, _⟩ => ⟨_, hm⟩) ⟨es', ck', rfl, hok'⟩
  rcases K.find key es.toList (kvs.map (·.1)) w hok.keys with ⟨hn, hf⟩ | ⟨j, en, hf, hej, hkj⟩
  · refine fin _ _ (hok.push hn) _ ?_
    simp only [execOp, ev_v hE hx, ev_s hE hk hke, ev_s hE hv rfl, Sem.run_bind, Instr.mapUpdate, hdd, Result.andThen, hget, Sem.run_pure, K.check, hf, hset]
  · refine fin _ _ (hok.set K hej hkj) _ ?_
    have hkey : (((es[j]?).map (·.key)).getD (enc key)) = enc key := by
      have : es[j]? = some en := by simpa using hej
      have h1 := hok.keys
      have h2 := congrArg (fun l => l[j]?) h1
      simp only [List.getElem?_map, hej, Option.map_some] at h2
      rw [List.getElem?_map] at hkj
      rw [hkj] at h2
      simp only [Option.map_some, Option.some.injEq] at h2
      rw [this]; simp [h2]
    simp only [execOp, ev_v hE hx, ev_s hE hk hke, ev_s hE hv rfl, Sem.run_bind, Instr.mapUpdate, hdd, Result.andThen, hget, Sem.run_pure, K.check, hf, hset, hkey, K.stays]

theorem X_maplen {d x ty ps af gd g} {i b kt et : Nat} {ti : TI} {t : Nat} {kvs : List (κ × Value)}
    (ha : adv c.n c.T f l k pe = .op ⟨⟨d, .call ⟨.builtin .len, #[x], #[t]⟩, ty, ps, af, gd⟩, g, .read⟩ l' k' pe')
    (hx : opv pe' x = some (.v (.map (some b)))) (hi : L[i]? = some (mapH enc b kvs)) (ht : tget c.T t = some ti) (htd : ti.td = .map kt et)
    (H : Y c R l' k' (pput pe' d (.v (.int .i64 kvs.length))) L) : Y c R l k pe L := by
  refine Y.of_adv ha (YS.read fun D e h hE hs => ⟨.int .i64 kvs.length, fun w h2 hsub hon => ?_, H D _ h hE.put hs⟩)
  obtain ⟨es, ck, hb, hok⟩ := hs.map (idx1 hi)
  obtain ⟨dd, hdd, hfit⟩ := run_underlying' (w := w) c.hT ht
  rw [htd] at hfit; simp only [TD.fits] at hfit; subst hfit
  have hget : (getObj b).run c.P w = .ok (.map es ck) w := by
    have := hsub b _ hb; rw [← hon] at this
    simp [getObj, Sem.run, this]
  simp [execOp, resolve, invoke, builtin, Builtin.len_, opv_sound hE hx, SV.den, hdd, hget, goInt, hok.size]
end
end Go.Eng
namespace Go.Eng
open Go

def masks (ops : List Oper) : Nat → List Nat
  | 0 => []
  | k + 1 => masks ops k ++ [(needs ops k).foldl (fun s j => s ||| 2 ^ j ||| (masks ops k).getD j 0) 0]

theorem masks_len (ops : List Oper) : ∀ k, (masks ops k).length = k
  | 0 => rfl
  | k + 1 => by simp [masks, masks_len ops k]

theorem Later.of_need {ops : List Oper} {a i : Nat} (h : a ∈ needs ops i) : Later ops a i := fun _ _ hn => hn a h
theorem Later.trans {ops : List Oper} {a j i : Nat} (h : Later ops a j) (hj : j ∈ needs ops i) : Later ops a i := fun done hc hn => h done hc (hc j (hn j hj))

theorem foldl_bits (m : List Nat) : ∀ (l : List Nat) (s a : Nat), Nat.testBit (l.foldl (fun s j => s ||| 2 ^ j ||| m.getD j 0) s) a = true → Nat.testBit s a = true ∨ ∃ j ∈ l, a = j ∨ Nat.testBit (m.getD j 0) a = true := by
  intro l
  induction l with
  | nil => intro s a h; exact .inl h
  | cons x l ih =>
    intro s a h
    rcases ih _ a h with h1 | ⟨j, hj, h1⟩
    · rw [Nat.testBit_or, Nat.testBit_or, Bool.or_eq_true, Bool.or_eq_true] at h1
      rcases h1 with (h1 | h1) | h1
      · exact .inl h1
      · rw [Nat.testBit_two_pow] at h1
        exact .inr ⟨x, by simp, .inl (of_decide_eq_true h1).symm⟩
      · exact .inr ⟨x, by simp, .inr h1⟩
    · exact .inr ⟨j, by simp [hj], h1⟩

theorem masks_sound (ops : List Oper) : ∀ k i a, Nat.testBit ((masks ops k).getD i 0) a = true → Later ops a i := by
  intro k
  induction k with
  | zero => intro i a h; simp [masks] at h
  | succ k ih =>
    intro i a h
    simp only [masks] at h
    by_cases hik : i < k
    · rw [List.getD_eq_getElem?_getD, List.getElem?_append_left (by rw [masks_len]; exact hik), ← List.getD_eq_getElem?_getD] at h
      exact ih i a h
    · by_cases hek : i = k
      · subst hek
        rw [List.getD_eq_getElem?_getD, List.getElem?_append_right (by rw [masks_len]; omega), masks_len] at h
        simp only [Nat.sub_self, List.getElem?_cons_zero, Option.getD_some] at h
        rcases foldl_bits _ _ _ _ h with h1 | ⟨j, hj, h1 | h1⟩
        · simp at h1
        · subst h1; exact .of_need hj
        · exact (ih j a h1).trans hj
      · rw [List.getD_eq_getElem?_getD, List.getElem?_eq_none (by simp [masks_len]; omega)] at h
        simp at h

def chkO (xs : List XO) (ops : List Oper) (ms : List Nat) : List Nat → List Nat → Bool
  | _, [] => true
  | done, a :: r => (needs ops a).all (fun j => done.any (Nat.beq j)) && !(done.any (Nat.beq a)) && !(r.any (Nat.beq a)) &&
      r.all (fun i => Nat.testBit (ms.getD i 0) a || okPair (fun i => xs.getD i default) a i) && chkO xs ops ms (a :: done) r

def chk (xs : List XO) (ops : List Oper) (n : Nat) (π : List Nat) : Bool :=
  Nat.beq π.length n && π.all (fun i => Nat.blt i n) && (List.range n).all (fun i => π.any (Nat.beq i)) && chkO xs ops (masks ops n) [] π

theorem any_beq {l : List Nat} {a : Nat} : l.any (Nat.beq a) = true ↔ a ∈ l := by
  rw [List.any_eq_true]
  constructor
  · rintro ⟨x, hx, h⟩; rw [Nat.eq_of_beq_eq_true h]; exact hx
  · intro h; exact ⟨a, h, Nat.beq_refl a⟩

theorem order_any {P : Program} {xs : List XO} {ops : List Oper} {n : Nat} {K : EK} : ∀ (π done : List Nat) (e : Env) (h : Hp), Fin h → (∀ d ∈ done, ∀ j ∈ needs ops d, j ∈ done) → π.Nodup →
    chkO xs ops (masks ops n) done π = true → aops P (π.map fun i => xs.getD i default) K e h → anyO P ops (fun i => xs.getD i default) K π.length done π e h := by
  intro π
  induction π with
  | nil => intro done e h _ _ _ _ H; exact H
  | cons a r ih =>
    intro done e h hf hcl hnd hc H
    simp only [chkO, Bool.and_eq_true, Bool.not_eq_true'] at hc
    obtain ⟨⟨⟨⟨h1, h2⟩, h3⟩, h4⟩, h5⟩ := hc
    have hn : ∀ j ∈ needs ops a, j ∈ done := fun j hj => any_beq.1 (List.all_eq_true.1 h1 j hj)
    have had : a ∉ done := fun hh => by rw [any_beq.2 hh] at h2; cases h2
    have har : a ∉ r := fun hh => by rw [any_beq.2 hh] at h3; cases h3
    have hcl' : ∀ d ∈ a :: done, ∀ j ∈ needs ops d, j ∈ a :: done := by
      intro d hd j hj
      rcases List.mem_cons.1 hd with rfl | hd
      · exact List.mem_cons_of_mem _ (hn j hj)
      · exact List.mem_cons_of_mem _ (hcl d hd j hj)
    refine anyO_take hf hcl har had (List.nodup_cons.1 hnd).2 rfl ?_ hn ?_ (a :: r) (by simp) ?_
    · intro i hi
      have := List.all_eq_true.1 h4 i hi
      rw [Bool.or_eq_true] at this
      exact this.imp (masks_sound ops n i a) id
    · refine aop_mono hf (fun v h' hf' hx => ?_) H
      exact ih (a :: done) _ _ hf' hcl' (List.nodup_cons.1 hnd).2 h5 hx
    · rw [List.filter_cons]
      simp only [bne_self_eq_false, Bool.false_eq_true, if_false]
      exact List.filter_eq_self.2 fun x hx => by simp; rintro rfl; exact har hx

theorem prep_map {n : Nat} {ops : Array Oper} {ec : List Nat} {xs : List XO} (hp : prep n ops.toList ec (List.range ops.size) = some xs) : ∀ {π : List Nat} {lx : List XO}, (∀ i ∈ π, i < ops.size) → prep n ops.toList ec π = some lx → lx = π.map fun i => xs.getD i default := by
  intro π
  induction π with
  | nil => intro lx _ h; simp only [prep, Option.some.injEq] at h; subst h; rfl
  | cons a r ih =>
    intro lx hlt h
    simp only [prep] at h
    cases h1 : prep1 n ops.toList ec a with
    | none => rw [h1] at h; cases h
    | some x =>
      rw [h1] at h; simp only at h
      cases h2 : prep n ops.toList ec r with
      | none => rw [h2] at h; cases h
      | some l' =>
        rw [h2] at h; simp only [Option.some.injEq] at h; subst h
        obtain ⟨y, hy, hpy⟩ := prep_get hp (j := a) (i := a) (by simp [hlt a (by simp)])
        rw [h1] at hpy; cases hpy
        simp only [List.map_cons, List.getD_eq_getElem?_getD, hy, Option.getD_some]
        rw [ih (fun i hi => hlt i (by simp [hi])) h2]
        simp [List.getD_eq_getElem?_getD]

section
variable {c : Cx} {R : Hp} {L : List HA} {l l' : List XO} {k k' : List Item} {pe pe' : PE} {f : Nat}

theorem X_draw {id : Nat} {ops : Array Oper} {xs lx : List XO} (ec π : List Nat) (ha : adv c.n c.T f l k pe = .draw id ops k' pe') (hp : prep c.n ops.toList ec (List.range ops.size) = some xs)
    (hπ : prep c.n ops.toList ec π = some lx) (hchk : chk xs ops.toList ops.size π = true) (H : Y c R lx k' pe' L) : Y c R l k pe L := by
  refine Y.of_adv ha fun D e h hE hs => ?_
  simp only [chk, Bool.and_eq_true] at hchk
  obtain ⟨⟨⟨h1, h2⟩, h3⟩, h4⟩ := hchk
  have hlen : π.length = ops.size := Nat.eq_of_beq_eq_true h1
  have hlt : ∀ i ∈ π, i < ops.size := fun i hi => Nat.blt_eq.mp (List.all_eq_true.1 h2 i hi)
  have hall : ∀ i, i < ops.size → i ∈ π := fun i hi => any_beq.1 (List.all_eq_true.1 h3 i (List.mem_range.2 hi))
  have hnd : π.Nodup := by
    have key : ∀ (l done : List Nat), chkO xs ops.toList (masks ops.toList ops.size) done l = true → l.Nodup := by
      intro l
      induction l with
      | nil => intro _ _; exact List.nodup_nil
      | cons a r ih =>
        intro done hc
        simp only [chkO, Bool.and_eq_true, Bool.not_eq_true'] at hc
        refine List.nodup_cons.2 ⟨fun hh => ?_, ih _ hc.2⟩
        have := hc.1.1.2; rw [any_beq.2 hh] at this; cases this
    exact key π [] h4
  refine Run.draw c.hM hp fun hf => ?_
  have hY := H D e h hE hs
  rw [prep_map hp hlt hπ] at hY
  have := order_any (K := fun e h => Run c.P c.fn c.ro c.n k' D e h c.R) π [] e h hf (by simp) hnd h4 hY
  rw [hlen] at this
  -- the same operations are to come
  have gen : ∀ (f : Nat) (done rem rem' : List Nat) (e : Env) (h : Hp), Fin h → (∀ x, x ∈ rem ↔ x ∈ rem') → anyO c.P ops.toList (fun i => xs.getD i default) (fun e h => Run c.P c.fn c.ro c.n k' D e h c.R) f done rem e h →
      anyO c.P ops.toList (fun i => xs.getD i default) (fun e h => Run c.P c.fn c.ro c.n k' D e h c.R) f done rem' e h := by
    intro f
    induction f with
    | zero => intro done rem rem' e h _ _ H; exact H
    | succ f ih =>
      intro done rem rem' e h hf hr H
      refine ⟨fun hh => H.1 fun i hi => hh i ((hr i).1 hi), fun i hi hn => ?_⟩
      refine aop_mono hf (fun v h' hf' hx => ih _ _ _ _ _ hf' ?_ hx) (H.2 i ((hr i).2 hi) hn)
      intro x; simp [hr]
  exact gen _ _ _ _ _ _ hf (fun x => ⟨fun hx => List.mem_range.2 (hlt x hx), fun hx => hall x (List.mem_range.1 hx)⟩) this
end
end Go.Eng
namespace Go.Eng
open Go

theorem Hp.cell_mono {h h2 : Hp} {a : Addr} {v : Value} (hs : Sub h h2) (hc : h.cell a = some v) : h2.cell a = some v := by
  unfold Hp.cell at *
  cases hb : h a.block with
  | none => rw [hb] at hc; cases hc
  | some o => rw [hb] at hc; rw [hs _ o hb]; exact hc

/-- From the address a on, the cells cl can be read. -/
def RdAt (h : Hp) (a : Option Addr) (cl : List Value) : Prop := cl = [] ∨ ∃ b o, a = some ⟨b, o, none⟩ ∧ ∀ j v, cl[j]? = some v → h.cell ⟨b, o + j, none⟩ = some v

theorem RdAt.mono {h h2 : Hp} {a cl} (hs : Sub h h2) (hr : RdAt h a cl) : RdAt h2 a cl := by
  rcases hr with h0 | ⟨b, o, ha, hc⟩
  · exact .inl h0
  · exact .inr ⟨b, o, ha, fun j v hj => Hp.cell_mono hs (hc j v hj)⟩

theorem RdAt.of_block {h : Hp} {b : Nat} {cs : Array Value} {t fr} {cl : List Value} {o : Nat} (hb : h b = some (.cells cs t fr)) (hp : cl <+: cs.toList.drop o) : RdAt h (some ⟨b, o, none⟩) cl := by
  refine .inr ⟨b, o, rfl, fun j v hj => ?_⟩
  obtain ⟨r, hr⟩ := hp
  have : (cs.toList.drop o)[j]? = some v := by
    rw [← hr, List.getElem?_append_left (List.getElem?_eq_some_iff.1 hj).1]; exact hj
  rw [List.getElem?_drop] at this
  simp only [Hp.cell, hb]; simpa using this

theorem ldv_one {T : TT} {h : Hp} {t : Nat} {a : Addr} {v : Value} {i : TI} (ht : tget T t = some i) (hk : i.known = true) (ha : i.agg = false) (hc : h.cell a = some v) : ldv T h t a = some v := by
  simp [ldv, ht, hk, ha, hc]

theorem ldCells_cells {h : Hp} {b o : Nat} : ∀ (cl : List Value) (i : Nat), (∀ j v, cl[j]? = some v → h.cell ⟨b, o + (i + j), none⟩ = some v) → ldCells h ⟨b, o, none⟩ i cl.length = some cl := by
  intro cl
  induction cl with
  | nil => intro i _; rfl
  | cons v r ih =>
    intro i hc
    have h0 := hc 0 v rfl
    simp only [List.length_cons, ldCells, add_none]
    simp only [Nat.add_zero] at h0
    rw [h0]
    simp only
    rw [ih (i + 1) (fun j u hj => by have := hc (j + 1) u (by simpa using hj); rwa [show i + 1 + j = i + (j + 1) by omega])]
    rfl

theorem ldv_agg {T : TT} {h : Hp} {t : Nat} {b o : Nat} {cl : List Value} {i : TI} (ht : tget T t = some i) (hk : i.known = true) (ha : i.agg = true) (hl : cl.length = i.size)
    (hc : ∀ j v, cl[j]? = some v → h.cell ⟨b, o + j, none⟩ = some v) : ldv T h t ⟨b, o, none⟩ = some (.agg cl.toArray) := by
  simp only [ldv, ht, hk, ha, if_true]
  rw [← hl, ldCells_cells cl 0 (by simpa using hc)]
  rfl

theorem Sat.tail {R : Hp} {A : HA} {L : List HA} {h : Hp} (s : Sat R (A :: L) h) : Sat R L h := by
  obtain ⟨hf, m, ⟨ma, mb, ha, hb, dab, hmab⟩, d, sR, sm⟩ := s
  exact ⟨hf, mb, hb, ((disj_or hmab).1 d).2, sR, ((sub_or hmab dab).1 sm).2⟩

section
variable {c : Cx} {R : Hp} {L : List HA} {l l' : List XO} {k k' : List Item} {pe pe' : PE} {f : Nat}

theorem X_idx {d t x ix ty ps af gd g} {b o n cap : Nat} {kd : IntKind} {i : Int} {ti tj : TI} {el off : Nat} (m : Nat)
    (ha : adv c.n c.T f l k pe = .op ⟨⟨d, .indexAddr t x ix, ty, ps, af, gd⟩, g, .pure⟩ l' k' pe')
    (hx : opv pe' x = some (.v (.slice (some ⟨b, o, none⟩) n cap))) (hi : opv pe' ix = some (.v (.int kd i))) (hm : i = (m : Int)) (hlt : m < n)
    (ht : tget c.T t = some ti) (htd : ti.td = .slice el) (he : tget c.T el = some tj) (hoff : o + m * tj.size = off)
    (H : Y c R l' k' (pput pe' d (.v (.pointer (some ⟨b, off, none⟩)))) L) : Y c R l k pe L := by
  refine Y.of_adv ha (YS.pure fun D e h hE hs => ⟨_, fun w => ?_, H D _ h hE.put hs⟩)
  subst hm
  obtain ⟨dd, hdd, hfit⟩ := run_underlying' (w := w) c.hT ht
  rw [htd] at hfit; simp only [TD.fits] at hfit; subst hfit
  simp only [execOp, opv_sound hE hx, opv_sound hE hi, SV.den, Instr.indexAt, asIntOf, Sem.run_bind, Sem.run_pure, hdd, Result.andThen]
  simp [hlt, run_sizeOf' c.hT he, add_none, hoff]

theorem X_idxA {d t x ix ty ps af gd g} {b o n : Nat} {kd : IntKind} {i : Int} {ti tj : TI} {el off : Nat} (m : Nat)
    (ha : adv c.n c.T f l k pe = .op ⟨⟨d, .indexAddr t x ix, ty, ps, af, gd⟩, g, .pure⟩ l' k' pe')
    (hx : opv pe' x = some (.v (.pointer (some ⟨b, o, none⟩)))) (hi : opv pe' ix = some (.v (.int kd i))) (hm : i = (m : Int)) (hlt : m < n)
    (ht : tget c.T t = some ti) (htd : ti.td = .arr n el) (he : tget c.T el = some tj) (hoff : o + m * tj.size = off)
    (H : Y c R l' k' (pput pe' d (.v (.pointer (some ⟨b, off, none⟩)))) L) : Y c R l k pe L := by
  refine Y.of_adv ha (YS.pure fun D e h hE hs => ⟨_, fun w => ?_, H D _ h hE.put hs⟩)
  subst hm
  obtain ⟨dd, hdd, hfit⟩ := run_underlying' (w := w) c.hT ht
  rw [htd] at hfit; simp only [TD.fits] at hfit; subst hfit
  simp only [execOp, opv_sound hE hx, opv_sound hE hi, SV.den, Instr.indexAt, asIntOf, Sem.run_bind, Sem.run_pure, hdd, Result.andThen, Instr.sureAddr]
  simp [hlt, run_sizeOf' c.hT he, add_none, hoff]

/-! ### A range over a map -/
structure ItOk {κ : Type} (enc : κ → Value) (es : Array MapEntry) (ck : Nat) (kvs todo : List (κ × Value)) (last : Option (κ × Value)) (seen : Array Nat) : Prop where
  map : MapOk enc es ck kvs
  left : (es.toList.filter fun e => !seen.contains e.born).map (fun e => (e.key, e.val)) = todo.map (fun p => (enc p.1, p.2))
  last : ∀ p, last = some p → ∃ e ∈ es.toList, seen.back? = some e.born ∧ e.key = enc p.1 ∧ e.val = p.2

def rangeH {κ : Type} (enc : κ → Value) (b r : Nat) (kvs todo : List (κ × Value)) (last : Option (κ × Value)) : HA :=
  .pred fun m => r ≠ b ∧ ∃ es ck seen, (∀ x, m x = if x = b then some (.map es ck) else if x = r then some (.mapIter (some b) ck seen ck) else none) ∧ ItOk enc es ck kvs todo last seen

variable {κ : Type} {enc : κ → Value}

theorem X_range {d t x ty ps af gd g} {i b kt et : Nat} {ti : TI} {kvs : List (κ × Value)}
    (ha : adv c.n c.T f l k pe = .op ⟨⟨d, .range t x, ty, ps, af, gd⟩, g, .other⟩ l' k' pe')
    (hx : opv pe' x = some (.v (.map (some b)))) (hi : L[i]? = some (mapH enc b kvs)) (ht : tget c.T t = some ti) (htd : ti.td = .map kt et)
    (H : ∀ r, Y c R l' k' (pput pe' d (.v (.pointer (some ⟨r, 0, none⟩)))) (L.set i (rangeH enc b r kvs kvs none))) : Y c R l k pe L := by
  refine Y.of_adv ha (YS.other fun D e h hE hs => ?_)
  obtain ⟨es, ck, hb, hok⟩ := hs.map (idx1 hi)
  intro w hon
  obtain ⟨dd, hdd, hfit⟩ := run_underlying' (w := w) c.hT ht
  rw [htd] at hfit; simp only [TD.fits] at hfit; subst hfit
  have hwb : w.heap[b]? = some (.map es ck) := by rw [hon]; exact hb
  have hget : (getObj b).run c.P w = .ok (.map es ck) w := by simp [getObj, Sem.run, hwb]
  have hrun : (execOp (evalE e) ⟨d, .range t x, ty, ps, af, gd⟩).run c.P w = .ok (.value (.pointer (some ⟨w.heap.size, 0, none⟩))) { w with heap := w.heap.push (.mapIter (some b) ck #[] ck) } := by
    simp [execOp, opv_sound hE hx, SV.den, Instr.range, hdd, hget, newObj, Sem.run]
  rw [hrun]
  have hrn := hon.new
  have hrb : w.heap.size ≠ b := by rintro hh; rw [hh] at hrn; rw [hb] at hrn; cases hrn
  refine ⟨_, hon.push _, .push w _, H w.heap.size D _ _ (hE.put (s := .v _)) ?_⟩
  refine hs.turn (idx1 hi) fun m1 hm1 hsub => ?_
  obtain ⟨es', ck', hm, hok'⟩ := hm1
  have hb' := hsub b (.map es' ck') (by rw [hm, single_at])
  rw [hb] at hb'
  simp only [Option.some.injEq, Obj.map.injEq] at hb'
  obtain ⟨rfl, rfl⟩ := hb'
  refine ⟨fun x => if x = b then some (.map es ck) else if x = w.heap.size then some (.mapIter (some b) ck #[] ck) else none, ⟨hrb, es, ck, #[], fun _ => rfl, hok, (by rw [List.filter_eq_self.2 (fun _ _ => by simp)]; exact hok.kv), by simp⟩, hs.fin.upd, ?_, ?_, ?_⟩
  · intro x hx1
    have hxb : x ≠ b := fun hh => by rw [hh, hm, single_at] at hx1; cases hx1
    simp only [hxb, if_false]
    by_cases hxr : x = w.heap.size
    · right; rw [hxr]; exact hrn
    · left; rw [if_neg hxr]
  · intro x _ hx2 o ho
    have : x ≠ w.heap.size := by rintro rfl; rw [hrn] at ho; cases ho
    simp only [upd]; rw [if_neg this]; exact ho
  · intro x o ho
    simp only [upd]
    by_cases hxb : x = b
    · subst hxb
      simp only [if_true] at ho
      rw [if_neg (Ne.symm hrb), hb]; exact ho
    · simp only [hxb, if_false] at ho
      split at ho
      · rename_i hxr; rw [if_pos hxr]; exact ho
      · cases ho

/-- the ranging is over: the map alone -/
theorem X_unrange {i b r : Nat} {kvs todo : List (κ × Value)} {last} (hi : L[i]? = some (rangeH enc b r kvs todo last)) (H : Y c R l k pe (L.set i (mapH enc b kvs))) : Y c R l k pe L := by
  refine Y.weak1 hi (A' := mapH enc b kvs) (fun m hm => ?_) H
  obtain ⟨hrb, es, ck, seen, hm, hok⟩ := hm
  refine ⟨single b (.map es ck), ⟨es, ck, rfl, hok.map⟩, fun x o hx => ?_⟩
  by_cases hxb : x = b
  · subst hxb; rw [single_at] at hx; rw [hm, if_pos rfl]; exact hx
  · rw [single_ne hxb] at hx; cases hx

theorem run_choose {P : Program} (n : Nat) (hn : 0 < n) (w : World) {h : Hp} (hon : On w h) : ∃ v w', (choose (.mapNext n)).run P w = .ok v w' ∧ v < n ∧ On w' h ∧ Keep w w' := by
  by_cases h1 : n ≤ 1
  · refine ⟨0, w, ?_, hn, hon, .refl w⟩
    simp [choose, Sem.run, Question.forced, h1]
  · refine ⟨w.tape w.drawn (.mapNext n) % n, { w with drawn := w.drawn + 1 }, ?_, Nat.mod_lt _ hn, hon, .drew w⟩
    simp [choose, Sem.run, Question.forced, h1, Question.cut]

theorem X_next {d it ty ps af gd g} {i b r : Nat} {kvs todo : List (κ × Value)} {last}
    (ha : adv c.n c.T f l k pe = .op ⟨⟨d, .next it false, ty, ps, af, gd⟩, g, .other⟩ l' k' pe')
    (hx : opv pe' it = some (.v (.pointer (some ⟨r, 0, none⟩)))) (hi : L[i]? = some (rangeH enc b r kvs todo last))
    (H1 : ∀ A p B, todo = A ++ p :: B → Y c R l' k' (pput pe' d (.v (.tuple #[.bool true, enc p.1, p.2]))) (L.set i (rangeH enc b r kvs (A ++ B) (some p))))
    (H2 : todo = [] → Y c R l' k' (pput pe' d (.v (.tuple #[.bool false]))) L) : Y c R l k pe L := by
  refine Y.of_adv ha (YS.other fun D e h hE hs => ?_)
  obtain ⟨m, ⟨hrb, es, ck, seen, hm, hok⟩, hsub⟩ := hs.getP (idx1 hi)
  have hb : h b = some (.map es ck) := hsub b _ (by rw [hm, if_pos rfl])
  have hr : h r = some (.mapIter (some b) ck seen ck) := hsub r _ (by rw [hm, if_neg hrb, if_pos rfl])
  intro w hon
  have hwb : w.heap[b]? = some (.map es ck) := by rw [hon]; exact hb
  have hwr : w.heap[r]? = some (.mapIter (some b) ck seen ck) := by rw [hon]; exact hr
  have hgb : ∀ w', w'.heap = w.heap → (getObj b).run c.P w' = .ok (.map es ck) w' := by intro w' hw'; simp [getObj, Sem.run, hw', hwb]
  have hgr : (getObj r).run c.P w = .ok (.mapIter (some b) ck seen ck) w := by simp [getObj, Sem.run, hwr]
  have hall : (es.all fun x => decide (ck ≤ x.born)) = true → es.isEmpty = true := by
    intro hh
    cases he : es.toList with
    | nil => simpa using he
    | cons x r =>
      have hx := hok.map.lt x (by rw [he]; simp)
      rw [← Array.all_toList, he] at hh
      simp at hh; omega
  have hcond : (!seen.isEmpty && !es.isEmpty && es.all fun x => decide (x.born ≥ ck)) = false := by
    cases h1 : es.isEmpty with
    | true => simp
    | false =>
      have : (es.all fun x => decide (ck ≤ x.born)) = false := by
        cases h2 : (es.all fun x => decide (ck ≤ x.born)) with
        | false => rfl
        | true => rw [hall h2] at h1; cases h1
      simp [this]
  have hold : (es.filter fun e => !seen.contains e.born).filter (fun x => decide (x.born < ck)) = es.filter fun e => !seen.contains e.born := by
    apply Array.ext'
    simp only [Array.toList_filter]
    apply List.filter_eq_self.2
    intro x hx
    exact decide_eq_true (hok.map.lt x (List.mem_filter.1 hx).1)
  have hnewf : (es.filter fun e => !seen.contains e.born).filter (fun x => decide (x.born ≥ ck)) = #[] := by
    apply Array.ext'
    simp only [Array.toList_filter]
    apply List.filter_eq_nil_iff.2
    intro x hx
    have := hok.map.lt x (List.mem_filter.1 hx).1
    simp; omega
  generalize hE1 : (es.filter fun e => !seen.contains e.born) = lf at hold hnewf
  have hlf : lf.toList = es.toList.filter fun e => !seen.contains e.born := by rw [← hE1, Array.toList_filter]
  have hleft := hok.left
  rw [← hlf] at hleft
  by_cases hemp : lf = #[]
  · subst hemp
    have htodo : todo = [] := by simpa using hleft.symm
    have hrun : (execOp (evalE e) ⟨d, .next it false, ty, ps, af, gd⟩).run c.P w = .ok (.value (.tuple #[.bool false])) w := by
      simp only [execOp, ev_v hE hx, Instr.next, Sem.run_bind, hgr, Result.andThen, hgb w rfl, hcond, hE1, hold, hnewf, Bool.false_eq_true, if_false]
      simp [choose, Sem.run, Question.forced]
    rw [hrun]
    exact ⟨h, hon, .refl w, H2 htodo D _ _ (hE.put (s := .v _)) hs⟩
  · have hsz : 0 < lf.size := by
      cases hh : lf.size with
      | zero => exact absurd (Array.eq_empty_of_size_eq_zero hh) hemp
      | succ n => omega
    obtain ⟨v, w1, hch, hv, hon1, hk1⟩ := run_choose (P := c.P) lf.size hsz w hon
    have hie : lf.isEmpty = false := by cases hh : lf.isEmpty with
      | false => rfl
      | true => rw [Array.isEmpty_iff] at hh; exact absurd hh hemp
    have hw1r : w1.heap[r]? = some (.mapIter (some b) ck seen ck) := by rw [hon1]; exact hr
    have hset : ∀ o, (setObj r o).run c.P w1 = .ok () { w1 with heap := w1.heap.setIfInBounds r o } := by intro o; simp [setObj, Sem.run, hw1r]
    have hrun : (execOp (evalE e) ⟨d, .next it false, ty, ps, af, gd⟩).run c.P w =
        .ok (.value (.tuple #[.bool true, lf[v].key, lf[v].val])) { w1 with heap := w1.heap.setIfInBounds r (.mapIter (some b) ck (seen.push lf[v].born) ck) } := by
      simp only [execOp, ev_v hE hx, Instr.next, Sem.run_bind, hgr, Result.andThen, hgb w rfl, hcond, hE1, hold, hnewf, Bool.false_eq_true, if_false, hie]
      simp only [Array.empty_append, Array.append_empty, Array.size_map, hch, Array.getElem?_map, Array.getElem?_eq_getElem hv, Option.map_some, Sem.run_bind, hset, Result.andThen, Sem.run_pure]
    rw [hrun]
    -- which one it is
    have hvl : v < todo.length := by have := congrArg List.length hleft; simp at this; omega
    have hsplit : todo = todo.take v ++ todo[v] :: todo.drop (v + 1) := by rw [List.getElem_cons_drop, List.take_append_drop]
    have hkv : lf[v].key = enc todo[v].1 ∧ lf[v].val = todo[v].2 := by
      have h1 := congrArg (fun l => l[v]?) hleft
      simp only [List.getElem?_map, Array.getElem?_toList, Array.getElem?_eq_getElem hv, List.getElem?_eq_getElem hvl, Option.map_some, Option.some.injEq, Prod.mk.injEq] at h1
      exact h1
    refine ⟨_, hon1.set hr, hk1.trans (.set w1 r _), ?_⟩
    rw [hkv.1, hkv.2]
    refine H1 _ _ _ hsplit D _ _ (hE.put (s := .v _)) ?_
    have hmem : lf[v] ∈ es.toList := by
      have : lf[v] ∈ lf.toList := Array.mem_toList_iff.2 (Array.getElem_mem hv)
      rw [hlf] at this; exact (List.mem_filter.1 this).1
    have hnodlf : (lf.toList.map (·.born)).Nodup := by
      rw [hlf]; exact hok.map.bnd.sublist (List.Sublist.map _ List.filter_sublist)
    refine hs.turn (idx1 hi) fun m1 hm1 hsub1 => ?_
    obtain ⟨_, es', ck', seen', hm1, hok1⟩ := hm1
    have hb1 := hsub1 b (.map es' ck') (by rw [hm1, if_pos rfl])
    rw [hb] at hb1
    simp only [Option.some.injEq, Obj.map.injEq] at hb1
    obtain ⟨rfl, rfl⟩ := hb1
    refine ⟨fun x => if x = b then some (.map es ck) else if x = r then some (.mapIter (some b) ck (seen.push lf[v].born) ck) else none, ⟨hrb, es, ck, _, fun _ => rfl, hok.map, ?_, ?_⟩, hs.fin.upd, ?_, ?_, ?_⟩
    · -- what is left
      have hf : (es.toList.filter fun e => !(seen.push lf[v].born).contains e.born) = lf.toList.eraseIdx v := by
        have h1 : (es.toList.filter fun e => !(seen.push lf[v].born).contains e.born) = lf.toList.filter (fun e => e.born != lf[v].born) := by
          rw [hlf, List.filter_filter]
          congr 1; funext x
          rw [Array.contains_push]
          cases seen.contains x.born <;> simp [Bool.beq_comm, bne]
        rw [h1]
        have gen : ∀ (l : List MapEntry) (v : Nat) (hv : v < l.length), (l.map (·.born)).Nodup → l.filter (fun e => e.born != l[v].born) = l.eraseIdx v := by
          intro l
          induction l with
          | nil => intro v hv; simp at hv
          | cons a t ih =>
            intro v hv hn
            simp only [List.map_cons, List.nodup_cons] at hn
            cases v with
            | zero =>
              simp only [List.getElem_cons_zero, List.eraseIdx_zero, List.tail_cons]
              rw [List.filter_cons]
              simp only [bne_self_eq_false, Bool.false_eq_true, if_false]
              refine List.filter_eq_self.2 fun x hx => ?_
              have : x.born ≠ a.born := fun hh => hn.1 (List.mem_map.2 ⟨x, hx, hh⟩)
              simpa using this
            | succ v =>
              simp only [List.getElem_cons_succ, List.eraseIdx_cons_succ]
              have hv' : v < t.length := by simpa using hv
              have : a.born ≠ t[v].born := fun hh => hn.1 (List.mem_map.2 ⟨t[v], List.getElem_mem hv', hh.symm⟩)
              rw [List.filter_cons, if_pos (by simpa using this), ih v hv' hn.2]
        have := gen lf.toList v (by simpa using hv) hnodlf
        simpa using this
      rw [hf, ← eraseIdx_map', hleft]
      have : todo.take v ++ todo.drop (v + 1) = todo.eraseIdx v := by rw [List.eraseIdx_eq_take_drop_succ]
      rw [this, eraseIdx_map']
    · intro p hp
      cases hp
      exact ⟨lf[v], hmem, by simp, hkv.1, hkv.2⟩
    · intro x hx1
      left
      rw [hm1] at hx1
      split at hx1
      · cases hx1
      · rename_i h1
        split at hx1
        · cases hx1
        · rename_i h2; simp only [h1, h2, if_false]
    · intro x hx1 _ o ho
      rw [hm1] at hx1
      split at hx1
      · cases hx1
      · split at hx1
        · cases hx1
        · rename_i h2; simp only [upd]; rw [if_neg h2]; exact ho
    · intro x o ho
      simp only [upd]
      by_cases hxr : x = r
      · subst hxr; rw [if_pos rfl]; simp only [hrb, if_false, if_true] at ho; exact ho
      · rw [if_neg hxr]
        by_cases hxb : x = b
        · subst hxb; simp only [if_true] at ho; rw [hb]; exact ho
        · simp only [hxb, hxr, if_false] at ho; cases ho

theorem X_entry {d it ty ps af gd g} {i b r : Nat} {kvs todo : List (κ × Value)} {p : κ × Value}
    (ha : adv c.n c.T f l k pe = .op ⟨⟨d, .entry it, ty, ps, af, gd⟩, g, .other⟩ l' k' pe')
    (hx : opv pe' it = some (.v (.pointer (some ⟨r, 0, none⟩)))) (hi : L[i]? = some (rangeH enc b r kvs todo (some p)))
    (H : Y c R l' k' (pput pe' d (.v (.tuple #[enc p.1, p.2]))) L) : Y c R l k pe L := by
  refine Y.of_adv ha (YS.other fun D e h hE hs => ?_)
  obtain ⟨m, ⟨hrb, es, ck, seen, hm, hok⟩, hsub⟩ := hs.getP (idx1 hi)
  have hb : h b = some (.map es ck) := hsub b _ (by rw [hm, if_pos rfl])
  have hr : h r = some (.mapIter (some b) ck seen ck) := hsub r _ (by rw [hm, if_neg hrb, if_pos rfl])
  intro w hon
  have hwb : w.heap[b]? = some (.map es ck) := by rw [hon]; exact hb
  have hwr : w.heap[r]? = some (.mapIter (some b) ck seen ck) := by rw [hon]; exact hr
  have hgb : (getObj b).run c.P w = .ok (.map es ck) w := by simp [getObj, Sem.run, hwb]
  have hgr : (getObj r).run c.P w = .ok (.mapIter (some b) ck seen ck) w := by simp [getObj, Sem.run, hwr]
  obtain ⟨en, hen, hback, hk, hv⟩ := hok.last p rfl
  have hfind : ∃ e', es.find? (fun x => x.born == en.born) = some e' ∧ e'.key = enc p.1 ∧ e'.val = p.2 := by
    have gen : ∀ (l : List MapEntry), (l.map (·.born)).Nodup → en ∈ l → l.find? (fun x => x.born == en.born) = some en := by
      intro l
      induction l with
      | nil => intro _ h; cases h
      | cons a t ih =>
        intro hn hm
        simp only [List.map_cons, List.nodup_cons] at hn
        rcases List.mem_cons.1 hm with rfl | hm
        · simp
        · have : a.born ≠ en.born := fun hh => hn.1 (List.mem_map.2 ⟨en, hm, hh.symm⟩)
          rw [List.find?_cons]
          simp only [beq_eq_false_iff_ne.2 this]
          exact ih hn.2 hm
    refine ⟨en, ?_, hk, hv⟩
    rw [← Array.find?_toList]; exact gen _ hok.map.bnd hen
  obtain ⟨e', hf', hk', hv'⟩ := hfind
  have hrun : (execOp (evalE e) ⟨d, .entry it, ty, ps, af, gd⟩).run c.P w = .ok (.value (.tuple #[enc p.1, p.2])) w := by
    simp [execOp, ev_v hE hx, Instr.entry, hgr, hback, hgb, hf', hk', hv']
  rw [hrun]
  exact ⟨h, hon, .refl w, H D _ _ (hE.put (s := .v _)) hs⟩
end
end Go.Eng
namespace Go.Eng
open Go
section
variable {κ : Type} [DecidableEq κ]

theorem aget_aset (a k : κ) (v : Value) (l : List (κ × Value)) : aget a (aset k v l) = if k = a then some v else aget a l := by
  induction l with
  | nil => simp only [aset, aget]
  | cons p r ih =>
    obtain ⟨b, u⟩ := p
    simp only [aset]
    by_cases h : b = k
    · subst h
      rw [if_pos rfl]; simp only [aget]
      by_cases h2 : b = a
      · rw [if_pos h2, if_pos h2]
      · rw [if_neg h2, if_neg h2, if_neg h2]
    · rw [if_neg h]; simp only [aget, ih]
      by_cases h2 : b = a
      · rw [if_pos h2, if_pos h2, if_neg (fun hh => h (by rw [h2, hh]))]
      · rw [if_neg h2, if_neg h2]

theorem aget_mem {k : κ} {v : Value} {l : List (κ × Value)} (h : aget k l = some v) : (k, v) ∈ l := by
  induction l with
  | nil => cases h
  | cons p r ih =>
    obtain ⟨b, u⟩ := p
    simp only [aget] at h
    split at h
    · rename_i hb; cases h; subst hb; simp
    · exact List.mem_cons_of_mem _ (ih h)

theorem mem_aget {k : κ} {v : Value} {l : List (κ × Value)} (hn : (l.map (·.1)).Nodup) (h : (k, v) ∈ l) : aget k l = some v := by
  obtain ⟨j, hj⟩ := List.mem_iff_getElem?.1 h
  exact aget_at hn hj

theorem aget_none_iff {k : κ} {l : List (κ × Value)} : aget k l = none ↔ k ∉ l.map (·.1) := by
  constructor
  · intro h hm
    induction l with
    | nil => simp at hm
    | cons p r ih =>
      obtain ⟨b, u⟩ := p
      simp only [aget] at h
      split at h
      · cases h
      · rename_i hb
        rcases List.mem_cons.1 hm with h2 | h2
        · exact hb h2.symm
        · exact ih h h2
  · intro h; exact aget_none fun x hx hh => h (hh ▸ hx)

theorem keys_aset (k : κ) (v : Value) (l : List (κ × Value)) : (aset k v l).map (·.1) = if k ∈ l.map (·.1) then l.map (·.1) else l.map (·.1) ++ [k] := by
  induction l with
  | nil => simp [aset]
  | cons p r ih =>
    obtain ⟨a, u⟩ := p
    simp only [aset]
    by_cases h : a = k
    · subst h; simp
    · rw [if_neg h]; simp only [List.map_cons, ih, List.mem_cons]
      by_cases h2 : k ∈ r.map (·.1)
      · rw [if_pos h2, if_pos (Or.inr h2)]
      · rw [if_neg h2, if_neg]
        · simp
        · rintro (h3 | h3)
          · exact h h3.symm
          · exact h2 h3

theorem mem_keys_aset {k x : κ} {v : Value} {l : List (κ × Value)} : x ∈ (aset k v l).map (·.1) ↔ x = k ∨ x ∈ l.map (·.1) := by
  rw [keys_aset]
  split
  · rename_i h
    constructor
    · exact .inr
    · rintro (rfl | h2); exact h; exact h2
  · rw [List.mem_append, List.mem_singleton]
    constructor
    · rintro (h2 | h2); exact .inr h2; exact .inl h2
    · rintro (h2 | h2); exact .inr h2; exact .inl h2

theorem nodup_aset {k : κ} {v : Value} {l : List (κ × Value)} (h : (l.map (·.1)).Nodup) : ((aset k v l).map (·.1)).Nodup := by
  rw [keys_aset]; split
  · exact h
  · rename_i hh; exact List.nodup_append.2 ⟨h, by simp, fun x hx y hy => by simp at hy; subst hy; exact fun e => hh (e ▸ hx)⟩

theorem vals_aset {k : κ} {v : Value} {Pv : Value → Prop} {l : List (κ × Value)} (h : ∀ p ∈ l, Pv p.2) (hv : Pv v) : ∀ p ∈ aset k v l, Pv p.2 := by
  induction l with
  | nil => intro p hp; simp [aset] at hp; subst hp; exact hv
  | cons q r ih =>
    obtain ⟨a, u⟩ := q
    intro p hp
    simp only [aset] at hp
    split at hp
    · rcases List.mem_cons.1 hp with rfl | hp
      · exact hv
      · exact h p (List.mem_cons_of_mem _ hp)
    · rcases List.mem_cons.1 hp with rfl | hp
      · exact h _ (by simp)
      · exact ih (fun p hp => h p (List.mem_cons_of_mem _ hp)) p hp

/-- two lists without repeats that have the same members are of one length -/
theorem len_of_same {α : Type} [DecidableEq α] : ∀ {xs ys : List α}, xs.Nodup → ys.Nodup → (∀ x, x ∈ xs ↔ x ∈ ys) → xs.length = ys.length := by
  intro xs
  induction xs with
  | nil => intro ys _ _ h; cases ys with
           | nil => rfl
           | cons y r => have := (h y).2 (by simp); simp at this
  | cons x r ih =>
    intro ys hx hy h
    obtain ⟨h1, h2⟩ := List.nodup_cons.1 hx
    have hm : x ∈ ys := (h x).1 (by simp)
    have := ih h2 (hy.erase x) (fun z => by
      rw [hy.mem_erase_iff]
      constructor
      · intro hz; exact ⟨fun e => h1 (e ▸ hz), (h z).1 (by simp [hz])⟩
      · rintro ⟨hz1, hz2⟩; have := (h z).2 hz2; simp at this; rcases this with h3 | h3; exact absurd h3 hz1; exact h3)
    rw [List.length_cons, this, List.length_erase_of_mem hm]
    have : 0 < ys.length := List.length_pos_of_mem hm
    omega

/-- a set that was made of a list -/
def setM (xs : List κ) : List (κ × Value) := xs.foldl (fun m x => aset x (.bool true) m) []
theorem setM_snoc (xs : List κ) (x : κ) : setM (xs ++ [x]) = aset x (.bool true) (setM xs) := by simp [setM]
theorem setM_ok : ∀ (xs : List κ), ((setM xs).map (·.1)).Nodup ∧ (∀ x, x ∈ (setM xs).map (·.1) ↔ x ∈ xs) ∧ ∀ p ∈ setM xs, p.2 = .bool true := by
  intro xs
  have gen : ∀ (n : Nat) (xs : List κ), xs.length = n → ((setM xs).map (·.1)).Nodup ∧ (∀ x, x ∈ (setM xs).map (·.1) ↔ x ∈ xs) ∧ ∀ p ∈ setM xs, p.2 = .bool true := by
    intro n
    induction n with
    | zero => intro xs h; have : xs = [] := List.length_eq_zero_iff.1 h; subst this; simp [setM]
    | succ n ih =>
      intro xs h
      have hne : xs ≠ [] := by rintro rfl; simp at h
      obtain ⟨ys, y, rfl⟩ : ∃ ys y, xs = ys ++ [y] := ⟨xs.dropLast, xs.getLast hne, (List.dropLast_concat_getLast hne).symm⟩
      obtain ⟨h1, h2, h3⟩ := ih ys (by simpa using h)
      rw [setM_snoc]
      refine ⟨nodup_aset h1, fun x => ?_, vals_aset (Pv := fun u => u = .bool true) h3 rfl⟩
      rw [mem_keys_aset, h2]; simp; exact or_comm
  exact gen _ xs rfl
theorem setM_get (xs : List κ) (x : κ) : aget x (setM xs) = if x ∈ xs then some (.bool true) else none := by
  obtain ⟨h1, h2, h3⟩ := setM_ok xs
  split
  · rename_i h
    obtain ⟨p, hp, rfl⟩ := List.mem_map.1 ((h2 x).2 h)
    have := h3 p hp
    rw [← this]; exact mem_aget h1 hp
  · rename_i h; exact aget_none_iff.2 fun hh => h ((h2 x).1 hh)
end
end Go.Eng
namespace Go.Eng
open Go

/-- a slice of one's own: its elements' cells, and room behind them -/
def ownS (e size : Nat) (a : Option Addr) (n c : Nat) (xs : List Value) : HA := .pred fun m => xs.length = n * size ∧
  ((a = none ∧ n = 0 ∧ c = 0 ∧ ∀ b, m b = none) ∨
   ∃ g cur, a = some ⟨g, 0, none⟩ ∧ m = single g (.cells cur e (0, 0)) ∧ n ≤ c ∧ c ≤ maxLen ∧ cur.size = c * size ∧ cur.toList.take (n * size) = xs)

section
variable {c : Cx} {R : Hp} {L : List HA} {l l' : List XO} {k k' : List Item} {pe pe' : PE} {f : Nat}

/-- an assertion of nothing, laid beside -/
theorem Sat.addE {A : HA} {h : Hp} (s : Sat R L h) (hA : A.den fun _ => none) : Sat R (L ++ [A]) h := by
  obtain ⟨hf, m, hL, d, sR, sm⟩ := s
  refine ⟨hf, m, SatL.append.2 ⟨m, fun _ => none, hL, ⟨fun _ => none, fun _ => none, hA, fun _ => rfl, fun _ => .inl rfl, fun _ => rfl⟩, fun _ => .inr rfl, fun b => by simp⟩, d, sR, sm⟩

theorem Y.addE {A : HA} (hA : A.den fun _ => none) (H : Y c R l k pe (L ++ [A])) : Y c R l k pe L :=
  fun D e h hx hs => H D e h hx (by have := hs.addE hA; simpa using this)

theorem ownS_nil (e size : Nat) : (ownS e size none 0 0 []).den fun _ => none := ⟨by simp, .inl ⟨rfl, rfl, rfl, fun _ => rfl⟩⟩

theorem Sat.own {h : Hp} {i e size n cp : Nat} {a : Option Addr} {xs : List Value} (s : Sat R L h) (hi : L[i]? = some (ownS e size a n cp xs)) :
    xs.length = n * size ∧ ((a = none ∧ n = 0 ∧ cp = 0) ∨ ∃ g cur, a = some ⟨g, 0, none⟩ ∧ h g = some (.cells cur e (0, 0)) ∧ n ≤ cp ∧ cp ≤ maxLen ∧ cur.size = cp * size ∧ cur.toList.take (n * size) = xs) := by
  obtain ⟨m, ⟨h1, h2⟩, hs⟩ := s.getP hi
  refine ⟨h1, ?_⟩
  rcases h2 with ⟨rfl, rfl, rfl, -⟩ | ⟨g, cur, rfl, rfl, r⟩
  · exact .inl ⟨rfl, rfl, rfl⟩
  · exact .inr ⟨g, cur, rfl, hs _ _ (single_at _ _), r⟩

theorem Sat.ownRd {h : Hp} {i e size n cp : Nat} {a : Option Addr} {xs : List Value} (s : Sat R L h) (hi : L[i]? = some (ownS e size a n cp xs)) : RdAt h a xs := by
  obtain ⟨h1, h2⟩ := s.own hi
  rcases h2 with ⟨rfl, rfl, rfl⟩ | ⟨g, cur, rfl, hg, h3, h4, h5, h6⟩
  · left; exact List.eq_nil_of_length_eq_zero (by simpa using h1)
  · exact RdAt.of_block hg (by rw [List.drop_zero, ← h6]; exact List.take_prefix _ _)

/-- opened: nil, or a block -/
theorem Y.own {i e size n cp : Nat} {a : Option Addr} {xs : List Value} (hi : L[i]? = some (ownS e size a n cp xs))
    (H0 : a = none → n = 0 → cp = 0 → xs = [] → Y c R l k pe (L.set i .emp))
    (H1 : ∀ g cur, a = some ⟨g, 0, none⟩ → n ≤ cp → cp ≤ maxLen → cur.size = cp * size → cur.toList.take (n * size) = xs → xs.length = n * size → Y c R l k pe (L.set i (.pt g (.cells cur e (0, 0))))) : Y c R l k pe L := by
  intro D en h hx hs
  have hs0 := hs
  obtain ⟨h1, h2⟩ := hs.own (idx1 hi)
  rcases h2 with ⟨rfl, rfl, rfl⟩ | ⟨g, cur, rfl, hg, h3, h4, h5, h6⟩
  · refine H0 rfl rfl rfl (List.eq_nil_of_length_eq_zero (by simpa using h1)) D en h hx (hs.weak (idx1 hi) fun m hm => ⟨fun _ => none, fun _ => rfl, fun b o hb => by cases hb⟩)
  · refine H1 g cur rfl h3 h4 h5 h6 h1 D en h hx (hs.turn (idx1 hi) fun m1 hm1 hsub => ?_)
    obtain ⟨_, hm⟩ := hm1
    rcases hm with ⟨h0, -⟩ | ⟨g', cur', h0, rfl, -⟩
    · cases h0
    · cases h0
      have : cur' = cur := by
        have := hsub g _ (single_at _ _)
        rw [hg] at this; cases this; rfl
      subst this
      exact ⟨_, rfl, hs.fin, fun b hb => .inl hb, fun b _ _ o ho => ho, hsub⟩

/-- closed -/
theorem Y.toOwn {i e g n cp : Nat} (size : Nat) {cur : Array Value} (hi : L[i]? = some (.pt g (.cells cur e (0, 0)))) (xs : List Value) (hn : n ≤ cp) (hc : cp ≤ maxLen) (hs : cur.size = cp * size) (ht : cur.toList.take (n * size) = xs)
    (H : Y c R l k pe (L.set i (ownS e size (some ⟨g, 0, none⟩) n cp xs))) : Y c R l k pe L := by
  have hl : xs.length = n * size := by rw [← ht, List.length_take, Array.length_toList, hs, Nat.min_eq_left (Nat.mul_le_mul_right _ hn)]
  refine Y.weak1 hi (A' := ownS e size (some ⟨g, 0, none⟩) n cp xs) (fun m hm => ⟨m, ?_, .refl m⟩) H
  exact ⟨hl, .inr ⟨g, cur, rfl, hm, hn, hc, hs, ht⟩⟩

theorem add_pl (b o i : Nat) : (⟨b, o, none⟩ : Addr).add i = ⟨b, o + i, none⟩ := by unfold Addr.add; split <;> simp_all

theorem X_append {d t s x ty ps af gd g} {i e size n cp m c2 : Nat} {a a2 : Option Addr} {ti te : TI} {xs : List Value} (news : List Value)
    (ha : adv c.n c.T f l k pe = .op ⟨⟨d, .call ⟨.builtin .append, #[s, x], #[t, t]⟩, ty, ps, af, gd⟩, g, .other⟩ l' k' pe')
    (hx : opv pe' s = some (.v (.slice a n cp))) (hx2 : opv pe' x = some (.v (.slice a2 m c2))) (hi : L[i]? = some (ownS e size a n cp xs))
    (ht : tget c.T t = some ti) (htd : ti.td = .slice e) (hte : tget c.T e = some te) (hsz : te.size = size) (hzl : te.zero.length = size)
    (hm : 0 < m) (hl : news.length = m * size) (h0 : 0 < size) (hone : news.all Value.oneCell' = true) (hby : (n + m) * te.bytes ≤ 140737488355328) (h63 : n + m ≤ 9223372036854775807)
    (hrd : ∀ A h, Sat R (A :: L) h → RdAt h a2 news)
    (H : ∀ a' c', Y c R l' k' (pput pe' d (.v (.slice a' (n + m) c'))) (L.set i (ownS e size a' (n + m) c' (xs ++ news)))) : Y c R l k pe L := by
  refine Y.of_adv ha (YS.other fun D en h hE hs => ?_)
  intro w hon
  obtain ⟨dd, hdd, hfit⟩ := (tget_ok c.hT ht).desc
  rw [htd] at hfit; simp only [TD.fits] at hfit; subst hfit
  obtain ⟨ix, hix, hs1, hs2, z, hz, hzz⟩ := (tget_ok c.hT hte).info
  subst hsz
  have hzs : z.cells.size = te.size := by rw [← hzl, ← hzz]; simp
  have hone' : ∀ u ∈ news, u.oneCell' = true := fun u hu => List.all_eq_true.1 hone u hu
  have hne : news ≠ [] := by
    rintro rfl
    have := Nat.mul_pos hm h0
    rw [← hl] at this; simp at this
  have hnews : ∃ b o, a2 = some ⟨b, o, none⟩ ∧ ∀ j u, news[j]? = some u → w.cell? ((⟨b, o, none⟩ : Addr).add j) = some u := by
    rcases hrd _ h hs with h1 | ⟨b, o, rfl, hc⟩
    · exact absurd h1 hne
    · exact ⟨b, o, rfl, fun j u hj => by rw [add_pl, hon.cell]; exact hc j u hj⟩
  obtain ⟨b, o, rfl, hcl⟩ := hnews
  have hi1 := idx1 hi (A := marksH D)
  obtain ⟨hxl, hcase⟩ := hs.own hi1
  have hop : ∀ r : Result Value, (Builtin.append_ #[t, t] ty #[.slice a n cp, .slice (some ⟨b, o, none⟩) m c2]).run c.P w = r → ∀ v w', r = .ok v w' →
      (execOp (evalE en) ⟨d, .call ⟨.builtin .append, #[s, x], #[t, t]⟩, ty, ps, af, gd⟩).run c.P w = .ok (.value v) w' := by
    intro r hr v w' hv
    subst hv
    simp [execOp, resolve, invoke, builtin, ev_v hE hx, ev_v hE hx2, hr]
  -- where it grows
  have grow : ∀ old, ((Builtin.append_ #[t, t] ty #[.slice a n cp, .slice (some ⟨b, o, none⟩) m c2]).run c.P w = .ok (.slice (some ⟨w.heap.size, 0, none⟩) (n + m) (grownCap w (n + m) old e))
        (w.drew.alloc (.cells (xs.toArray ++ news.toArray ++ Builtin.zeroCells z.cells (grownCap w (n + m) old e - (n + m))) e))) →
      Upon c.P w (fun v h' => aops c.P l' (fun e h => Run c.P c.fn c.ro c.n k' D e h c.R) (put en d v) h') ((execOp (evalE en) ⟨d, .call ⟨.builtin .append, #[s, x], #[t, t]⟩, ty, ps, af, gd⟩).run c.P w) := by
    intro old hr
    rw [hop _ hr _ _ rfl]
    have hge := grownCap_ge w (n + m) old e
    have hle := grownCap_le_maxLen w (n + m) old e (by simp only [maxLen]; omega)
    refine ⟨upd h w.heap.size _, (On.push (w := w.drew) hon _ : On _ _), (Keep.drew w).trans (Keep.push w.drew _), H _ _ D _ _ (hE.put (s := .v _)) ?_⟩
    refine hs.turn hi1 fun m1 hm1 hsub => ⟨single w.heap.size (.cells (xs.toArray ++ news.toArray ++ Builtin.zeroCells z.cells (grownCap w (n + m) old e - (n + m))) e (0, 0)), ⟨?_, .inr ⟨_, _, rfl, rfl, hge, hle, ?_, ?_⟩⟩, hs.fin.upd, fun x hx => ?_, fun x _ hx o2 ho2 => ?_, fun x o2 hx => ?_⟩
    · rw [List.length_append, hxl, hl, Nat.add_mul]
    · simp only [Array.size_append, List.size_toArray, size_zeroCells, hzs, hxl, hl, ← Nat.add_mul]
      congr 1; omega
    · simp only [Array.toList_append, List.append_assoc]
      rw [← List.append_assoc, show (n + m) * te.size = (xs ++ news).length by rw [List.length_append, hxl, hl, Nat.add_mul]]
      exact List.take_left
    · by_cases hxx : x = w.heap.size
      · right; rw [hxx]; exact hon.new
      · left; exact single_ne hxx
    · have : x ≠ w.heap.size := by rintro rfl; rw [hon.new] at ho2; cases ho2
      simp only [upd]; rw [if_neg this]; exact ho2
    · by_cases hxx : x = w.heap.size
      · subst hxx; rw [single_at] at hx; simp only [upd, if_true]; exact hx
      · rw [single_ne hxx] at hx; cases hx
  rcases hcase with ⟨rfl, rfl, rfl⟩ | ⟨g', cur, rfl, hg, h3, h4, h5, h6⟩
  · have hxs : xs = [] := List.eq_nil_of_length_eq_zero (by simpa using hxl)
    subst hxs
    refine grow 0 ?_
    have hr := run_append_nil (P := c.P) w t ty e ix z hdd hix hz ⟨b, o, none⟩ m c2 news (by rw [hs1]; exact hl) hcl hm (by omega) (by rw [hs2]; have := hby; simp only [Nat.zero_add] at this; omega)
    simpa using hr
  · have hwg : w.heap[g']? = some (.cells cur e (0, 0)) := by rw [hon]; exact hg
    by_cases hroom : n + m ≤ cp
    · have hfit : n * ix.size + news.length ≤ cur.size := by rw [hl, h5, hs1, ← Nat.add_mul]; exact Nat.mul_le_mul_right _ hroom
      have hr := run_append_room (P := c.P) w t ty e ix hdd hix g' n cp cur hwg ⟨b, o, none⟩ m c2 news (by rw [hs1]; exact hl) hcl hone' hroom hfit
      rw [hop _ hr _ _ rfl]
      refine ⟨upd h g' (.cells (cur.toList.take (n * ix.size) ++ news ++ cur.toList.drop (n * ix.size + news.length)).toArray e (0, 0)), ?_, ⟨rfl, rfl, rfl, by simp [World.setRow], Nat.le_refl _⟩, H _ _ D _ _ (hE.put (s := .v _)) ?_⟩
      · intro x
        by_cases hxx : x = g'
        · subst hxx; simp only [upd, if_true]; exact setRow_heap w x cur _ e _ hwg
        · simp only [upd]; rw [if_neg hxx, setRow_other w g' x _ hxx, hon]
      · refine hs.turn hi1 fun m1 hm1 hsub => ⟨single g' (.cells (cur.toList.take (n * ix.size) ++ news ++ cur.toList.drop (n * ix.size + news.length)).toArray e (0, 0)), ⟨?_, .inr ⟨_, _, rfl, rfl, hroom, h4, ?_, ?_⟩⟩, hs.fin.upd, fun x hx => ?_, fun x _ hx o2 ho2 => ?_, fun x o2 hx => ?_⟩
        · rw [List.length_append, hxl, hl, Nat.add_mul]
        · simp only [List.size_toArray, List.length_append, List.length_take, List.length_drop, Array.length_toList]
          omega
        · rw [hs1, h6, show (n + m) * te.size = (xs ++ news).length by rw [List.length_append, hxl, hl, Nat.add_mul]]
          exact List.take_left
        · left
          obtain ⟨_, hm1⟩ := hm1
          rcases hm1 with ⟨h0, -⟩ | ⟨g2, cur2, h0, rfl, -⟩
          · cases h0
          · cases h0
            have : x ≠ g' := by rintro rfl; rw [single_at] at hx; cases hx
            exact single_ne this
        · have : x ≠ g' := by rintro rfl; rw [single_at] at hx; cases hx
          simp only [upd]; rw [if_neg this]; exact ho2
        · by_cases hxx : x = g'
          · subst hxx; rw [single_at] at hx; simp only [upd, if_true]; exact hx
          · rw [single_ne hxx] at hx; cases hx
    · refine grow cp ?_
      have hold : ∀ j u, xs[j]? = some u → w.cell? ((⟨g', 0, none⟩ : Addr).add j) = some u := fun j u hj => by
        rw [add_pl, hon.cell]
        simp only [Hp.cell, hg, Nat.zero_add]
        rw [← h6] at hj
        rw [List.getElem?_take] at hj
        split at hj
        · simpa using hj
        · cases hj
      exact run_append_grow (P := c.P) w t ty e ix z hdd hix hz ⟨g', 0, none⟩ n cp xs (by rw [hs1]; exact hxl) hold ⟨b, o, none⟩ m c2 news (by rw [hs1]; exact hl) hcl (by omega) (by omega) (by rw [hs2]; exact growslice_fits (by omega) hby)
end
end Go.Eng
namespace Go.Eng
open Go

/-! ### Function values -/
def callV (f : Value) (args : List Value) : Sem Next := do
  let d ← Deferred.ofValue f args.toArray
  invoke d.target d.args

/-- what a call of a function value does -/
def TrV (P : Program) (f : Value) (args : List Value) (R : Hp) (L : List HA) (Q : Value → List HA → Prop) : Prop :=
  (∃ fn first cap, f = .func fn first cap) ∧ ∀ h, Sat R L h → ∀ w, On w h → Upon P w (fun v h' => ∃ L', Q v L' ∧ Sat R L' h') ((callV f args).run P w)

theorem TrV.of {P : Program} {g : FuncId} {first cap : Array Value} {args : List Value} {R : Hp} {L : List HA} {Q : Value → List HA → Prop}
    (H : Tr P g (first.toList ++ (args ++ cap.toList)) R L Q) : TrV P (.func (.func g) first cap) args R L Q := by
  refine ⟨⟨_, _, _, rfl⟩, fun h hs w hon => ?_⟩
  obtain ⟨⟨F, hF, hn, hbd⟩, hent⟩ := H
  have hrun : (callV (.func (.func g) first cap) args).run P w = .ok (.enter g (first.toList ++ (args ++ cap.toList)).toArray) w := by
    have harr : first ++ args.toArray ++ cap = (first.toList ++ (args ++ cap.toList)).toArray := by apply Array.ext'; simp
    simp only [callV, Deferred.ofValue, Sem.run_bind, Sem.run_pure, Result.andThen, invoke, callFunc, program, Sem.run]
    rw [show P.funcs[g]? = some F from hF]
    simp only [hn, hbd, Bool.false_eq_true, if_false, harr]
    rfl
  rw [hrun]
  exact ⟨h, hon, .refl w, hent h hs⟩

section
variable {c : Cx} {R : Hp} {L : List HA} {l l' : List XO} {k k' : List Item} {pe pe' : PE} {f : Nat}

theorem X_callV {d fo as ats ty ps af gd g} {fv : Value} {vs : List Value} {Q : Value → List HA → Prop} {C : Hp → Prop} (idx : List Nat)
    (ha : adv c.n c.T f l k pe = .op ⟨⟨d, .call ⟨.value fo, as, ats⟩, ty, ps, af, gd⟩, g, .other⟩ l' k' pe')
    (hf : opv pe' fo = some (.v fv)) (hvs : mapV pe' as.toList = some vs) (hidx : idxB idx L.length = true)
    (hT : ∀ r, C r → TrV c.P fv vs r (pickI idx L) Q) (hC : ∀ r, Sat R (dropI idx L) r → C r)
    (H : ∀ v L', Q v L' → Y c R l' k' (pput pe' d (.v v)) (fillI idx L' (dropI idx L))) : Y c R l k pe L := by
  refine Y.of_adv ha (YS.other fun D e h hE hs => ?_)
  obtain ⟨r, hr1, hr2, hr3⟩ := hs.frame hidx
  obtain ⟨⟨fn, first, cap, rfl⟩, hent⟩ := hT r (hC r hr1)
  have hargs := mapV_sound hE hvs
  intro w hon
  have hmap : as.map (evalE e) = vs.toArray := by apply Array.ext'; simpa using hargs
  have hrun : (execOp (evalE e) ⟨d, .call ⟨.value fo, as, ats⟩, ty, ps, af, gd⟩).run c.P w = (callV (.func fn first cap) vs).run c.P w := by
    simp only [execOp, resolve, opv_sound hE hf, SV.den, hmap, callV]
  rw [hrun]
  exact Upon.mono (fun v h' _ ⟨L', hQ, hS⟩ => H v L' hQ D _ h' hE.put (hr3 L' h' hS)) (hent h hr2 w hon)

/-! ### Rounds -/
theorem On.putO {w : World} {h : Hp} (o : On w h) {b : Nat} {x y : Obj} (hb : h b = some x) : On (putO w b y) (upd h b y) := o.set hb
theorem Keep.putO (w : World) (b : Nat) (x : Obj) : Keep w (putO w b x) := Keep.set w b x

theorem X_begin {i lp : Nat} {r : Loop} (ha : adv c.n c.T f l k pe = .beginRound k' pe') (hro : c.ro = some lp) (hi : L[i]? = some (.pt lp (.loop r))) (hs : r.state = .ready)
    (H : Y c R [] k' pe' (L.set i (.pt lp (.loop { r with state := .busy })))) : Y c R l k pe L := by
  refine Y.of_adv ha fun D e h hE hsat => ?_
  show Run _ _ _ _ _ _ _ _ _
  rw [hro]
  intro tm w cs hsim hon hcs
  have hb := hsat.get (idx1 hi)
  have hw : w.heap[lp]? = some (.loop r) := by rw [hon]; exact hb
  have hrun : Run c.P c.fn c.ro c.n k' D e _ c.R := H D e _ hE (by have := hsat.set (idx1 hi) (.loop { r with state := .busy }); simpa using this)
  rw [hro] at hrun
  obtain ⟨v, w', h', h1, h2, h3, h4⟩ := hrun tm _ cs hsim (hon.putO hb (y := .loop { r with state := .busy })) hcs
  exact ⟨v, w', h', h1, h2, (Keep.putO _ _ _).trans h3, .of_steps (.one (st_beginRound hw hs)) h4⟩

theorem X_roundEnd {i lp : Nat} {r : Loop} (ha : adv c.n c.T f l k pe = .fin pe') (hro : c.ro = some lp) (hi : L[i]? = some (.pt lp (.loop r)))
    (H : ∀ h', Sat R (L.set i (.pt lp (.loop { r with state := .ready, pending := none }))) h' → c.R (.bool true) h') : Y c R l k pe L := by
  refine Y.of_adv ha fun D e h hE hsat => ?_
  show Run _ _ _ _ _ _ _ _ _
  rw [hro]
  intro tm w cs hsim hon hcs
  have hb := hsat.get (idx1 hi)
  have hw : w.heap[lp]? = some (.loop r) := by rw [hon]; exact hb
  cases cs with
  | nil => exact absurd rfl (hcs rfl)
  | cons cl cs =>
    refine ⟨.bool true, _, _, hon.putO hb (y := .loop { r with state := .ready, pending := none }), H _ ?_, Keep.putO _ _ _, cl, cs, rfl, .one (st_round_end hw)⟩
    have := (hsat.set (idx1 hi) (.loop { r with state := .ready, pending := none })).tail
    simpa using this

theorem X_roundRet {i lp : Nat} {r : Loop} (ha : adv c.n c.T f l k pe = .ret k' pe') (hro : c.ro = some lp) (hi : L[i]? = some (.pt lp (.loop r)))
    (H : ∀ h', Sat R (L.set i (.pt lp (.loop { r with state := .done, pending := some .ret }))) h' → c.R (.bool false) h') : Y c R l k pe L := by
  refine Y.of_adv ha fun D e h hE hsat => ?_
  show Run _ _ _ _ _ _ _ _ _
  rw [hro]
  intro tm w cs hsim hon hcs
  have hb := hsat.get (idx1 hi)
  have hw : w.heap[lp]? = some (.loop r) := by rw [hon]; exact hb
  cases cs with
  | nil => exact absurd rfl (hcs rfl)
  | cons cl cs =>
    refine ⟨.bool false, _, _, hon.putO hb (y := .loop { r with state := .done, pending := some .ret }), H _ ?_, Keep.putO _ _ _, cl, cs, rfl, .one (st_round_ret hw)⟩
    have := (hsat.set (idx1 hi) (.loop { r with state := .done, pending := some .ret })).tail
    simpa using this

theorem X_roundExit {i lp id : Nat} {r : Loop} (ha : adv c.n c.T f l k pe = .exitOut id k' pe') (hro : c.ro = some lp) (hx : exitTo id k' = none) (hi : L[i]? = some (.pt lp (.loop r)))
    (H : ∀ h', Sat R (L.set i (.pt lp (.loop { r with state := .done, pending := some (.exit id) }))) h' → c.R (.bool false) h') : Y c R l k pe L := by
  refine Y.of_adv ha fun D e h hE hsat => ?_
  show Run _ _ _ _ _ _ _ _ _
  rw [hro]
  intro tm w cs hsim hon hcs
  have hb := hsat.get (idx1 hi)
  have hw : w.heap[lp]? = some (.loop r) := by rw [hon]; exact hb
  cases cs with
  | nil => exact absurd rfl (hcs rfl)
  | cons cl cs =>
    refine ⟨.bool false, _, _, hon.putO hb (y := .loop { r with state := .done, pending := some (.exit id) }), H _ ?_, Keep.putO _ _ _, cl, cs, rfl, .one (st_round_exit hw hx)⟩
    have := (hsat.set (idx1 hi) (.loop { r with state := .done, pending := some (.exit id) })).tail
    simpa using this
end

/-- what a yield does, for whoever calls it: the loop's memory is one assertion, A while it goes, B once it has been left -/
def YieldsE {σ ξ : Type} (P : Program) (yv : Value) (r0 : Hp) (A B : σ → HA) (enc : ξ → List Value) (Pre : Hp → σ → ξ → Prop) (St Ex : σ → ξ → σ → Prop) : Prop :=
  ∀ r s x, Sub r0 r → Pre r s x → TrV P yv (enc x) r [A s] fun v L' => (v = .bool true ∧ ∃ s', St s x s' ∧ L' = [A s']) ∨ (v = .bool false ∧ ∃ s', Ex s x s' ∧ L' = [B s'])

theorem Sat.group {R : Hp} {L1 L2 : List HA} {h : Hp} : Sat R (L1 ++ L2) h ↔ Sat R (L1 ++ [.pred (SatL L2)]) h := by
  have key : ∀ m, SatL (L1 ++ L2) m ↔ SatL (L1 ++ [.pred (SatL L2)]) m := by
    intro m
    rw [SatL.append, SatL.append]
    constructor
    · rintro ⟨m1, m2, a, b, d, e⟩
      exact ⟨m1, m2, a, ⟨m2, fun _ => none, b, fun _ => rfl, fun _ => .inr rfl, fun x => by simp⟩, d, e⟩
    · rintro ⟨m1, m2, a, ⟨m3, m4, b, b', d', e'⟩, d, e⟩
      have : m2 = m3 := by funext x; rw [e', b' x]; simp
      subst this
      exact ⟨m1, m2, a, b, d, e⟩
  constructor
  · rintro ⟨a, m, b, r⟩; exact ⟨a, m, (key m).1 b, r⟩
  · rintro ⟨a, m, b, r⟩; exact ⟨a, m, (key m).2 b, r⟩

theorem Sat.group0 {R : Hp} {L2 : List HA} {h : Hp} : Sat R L2 h ↔ Sat R [.pred (SatL L2)] h := by
  have := Sat.group (R := R) (L1 := []) (L2 := L2) (h := h)
  simpa using this

theorem marks_push {R : Hp} {L : List HA} {D : List Nat} {h : Hp} {b : Nat} (s : Sat R (marksH D :: L) h) (hb : h b = none) : Sat R (marksH (b :: D) :: L) (upd h b (.deferred (some []))) := by
  have := s.turn (i := 0) (A := marksH D) (A' := marksH (b :: D)) (h' := upd h b (.deferred (some []))) rfl fun m1 hm1 hsub => ?_
  · simpa using this
  obtain ⟨hn, hm⟩ := hm1
  have hbD : b ∉ D := fun hD => by
    have h1 := hm b; rw [if_pos hD] at h1
    rw [hsub _ _ h1] at hb; cases hb
  refine ⟨fun x => if x ∈ b :: D then some (.deferred (some [])) else none, ⟨List.nodup_cons.2 ⟨hbD, hn⟩, fun _ => rfl⟩, s.fin.upd, fun x hx => ?_, fun x hx _ o ho => ?_, fun x o hx => ?_⟩
  · by_cases hxb : x = b
    · right; rw [hxb]; exact hb
    · left
      have : x ∉ D := fun hD => by have h1 := hm x; rw [if_pos hD, hx] at h1; cases h1
      simp [hxb, this]
  · have : x ≠ b := by rintro rfl; rw [hb] at ho; cases ho
    simp only [upd]; rw [if_neg this]; exact ho
  · simp only [upd]
    by_cases hxb : x = b
    · rw [if_pos hxb]; simp [hxb] at hx; exact congrArg some hx
    · rw [if_neg hxb]
      have hxD : x ∈ D := by
        by_cases hD : x ∈ D
        · exact hD
        · simp [hxb, hD] at hx
      simp [hxD] at hx
      rw [← hx]
      exact hsub _ _ (by rw [hm x, if_pos hxD])

def ndB : List Nat → Bool
  | [] => true
  | a :: r => !(r.any (Nat.beq a)) && ndB r
theorem ndB_ok : ∀ {l : List Nat}, ndB l = true → l.Nodup
  | [], _ => List.nodup_nil
  | a :: r, h => by
    simp only [ndB, Bool.and_eq_true, Bool.not_eq_true'] at h
    refine List.nodup_cons.2 ⟨fun hm => ?_, ndB_ok h.2⟩
    have := List.any_eq_false.1 h.1 a hm
    exact this (Nat.beq_refl a)

theorem fold_set : ∀ (ps : List Nat) (vs : List Value) (tm : Array Value), ps.Nodup → (∀ p ∈ ps, p < tm.size) → ps.length = vs.length →
    ((ps.zip vs).foldl (fun t x => t.setIfInBounds x.1 x.2) tm).size = tm.size ∧
    ∀ pe : PE, Ext pe (fun t => tm.getD t undef) → Ext (zipV ps vs ++ pe) (fun t => ((ps.zip vs).foldl (fun t x => t.setIfInBounds x.1 x.2) tm).getD t undef) := by
  have key : ∀ (ps : List Nat) (vs : List Value) (tm : Array Value), ps.Nodup → (∀ p ∈ ps, p < tm.size) → ps.length = vs.length →
      ((ps.zip vs).foldl (fun t x => t.setIfInBounds x.1 x.2) tm).size = tm.size ∧
      (∀ t, t ∉ ps → ((ps.zip vs).foldl (fun t x => t.setIfInBounds x.1 x.2) tm).getD t undef = tm.getD t undef) ∧
      ∀ t s, pget (zipV ps vs) t = some s → ((ps.zip vs).foldl (fun t x => t.setIfInBounds x.1 x.2) tm).getD t undef = s.den ∧ t ∈ ps := by
    intro ps
    induction ps with
    | nil => intro vs tm _ _ _; exact ⟨rfl, fun _ _ => rfl, fun t s h => by simp [zipV, pget] at h⟩
    | cons p ps ih =>
      intro vs tm hn hb hl
      cases vs with
      | nil => simp at hl
      | cons v vs =>
        obtain ⟨hp, hn'⟩ := List.nodup_cons.1 hn
        obtain ⟨i1, i2, i3⟩ := ih vs (tm.setIfInBounds p v) hn' (fun q hq => by simpa using hb q (by simp [hq])) (by simpa using hl)
        simp only [List.zip_cons_cons, List.foldl_cons]
        refine ⟨by rw [i1]; simp, fun t ht => ?_, fun t s h => ?_⟩
        · rw [i2 t (fun h => ht (by simp [h]))]
          have : p ≠ t := fun h => ht (by simp [h])
          simp [Array.getD_eq_getD_getElem?, Array.getElem?_setIfInBounds, this]
        · simp only [zipV, pget] at h
          split at h
          · rename_i he
            have he := Nat.eq_of_beq_eq_true he
            subst he
            simp only [Option.some.injEq] at h
            subst h
            rw [i2 p hp]
            have := hb p (by simp)
            simp [Array.getD_eq_getD_getElem?, Array.getElem?_setIfInBounds, this, SV.den]
          · obtain ⟨a, b⟩ := i3 t s h
            exact ⟨a, by simp [b]⟩
  intro ps vs tm hn hb hl
  obtain ⟨a, b, d⟩ := key ps vs tm hn hb hl
  refine ⟨a, fun pe hpe t s hs => ?_⟩
  rw [pget_append] at hs
  cases hz : pget (zipV ps vs) t with
  | some s' =>
    rw [hz] at hs; cases hs
    exact (d t _ hz).1
  | none =>
    rw [hz] at hs
    have : t ∉ ps := by
      intro ht
      have hex : ∀ (ps : List Nat) (vs : List Value), ps.length = vs.length → t ∈ ps → pget (zipV ps vs) t ≠ none := by
        intro ps
        induction ps with
        | nil => intro vs _ h; simp at h
        | cons p ps ih =>
          intro vs hl hm
          cases vs with
          | nil => simp at hl
          | cons v vs =>
            simp only [zipV, pget]
            split
            · simp
            · rename_i he
              rcases List.mem_cons.1 hm with rfl | hm
              · exact absurd (Nat.beq_refl t) he
              · exact ih vs (by simpa using hl) hm
      exact hex ps vs hl ht hz
    exact (b t this).trans (hpe t s hs)

def cxR (c : Cx) (lp : Nat) (Q : Value → Hp → Prop) : Cx := ⟨c.P, c.T, c.fn, some lp, c.n, Q, c.hT, c.hM⟩

theorem SatL.comm {L1 L2 : List HA} {m : Hp} (h : SatL (L1 ++ L2) m) : SatL (L2 ++ L1) m := by
  rw [SatL.append] at h ⊢
  obtain ⟨m1, m2, a, b, d, e⟩ := h
  refine ⟨m2, m1, b, a, d.symm, fun x => ?_⟩
  rw [e]
  rcases d x with h | h <;> simp [h]
theorem Sat.mono' {R : Hp} {L L' : List HA} {h : Hp} (s : Sat R L h) (H : ∀ m, SatL L m → ∃ m', SatL L' m' ∧ Sub m' m) : Sat R L' h := by
  obtain ⟨a, m, b, d, sR, sm⟩ := s
  obtain ⟨m', h1, h2⟩ := H m b
  refine ⟨a, m', h1, fun x => ?_, sR, h2.trans sm⟩
  rcases d x with hh | hh
  · exact .inl hh
  · right
    cases hx : m' x with
    | none => rfl
    | some o => rw [h2 x o hx] at hh; cases hh
theorem SatL.tailR {L1 L2 L2' : List HA} {m : Hp} (H : ∀ m, SatL L2 m → ∃ m', SatL L2' m' ∧ Sub m' m) (h : SatL (L1 ++ L2) m) : ∃ m', SatL (L1 ++ L2') m' ∧ Sub m' m := by
  rw [SatL.append] at h
  obtain ⟨m1, m2, a, b, d, e⟩ := h
  obtain ⟨m', h1, h2⟩ := H m2 b
  have dd : Disj m1 m' := fun x => by
    rcases d x with hh | hh
    · exact .inl hh
    · right
      cases hx : m' x with
      | none => rfl
      | some o => rw [h2 x o hx] at hh; cases hh
  refine ⟨fun x => (m1 x).or (m' x), SatL.append.2 ⟨m1, m', a, h1, dd, fun _ => rfl⟩, fun x o hx => ?_⟩
  rw [e]
  rcases or_some.1 hx with hx | ⟨hx, hx2⟩
  · exact or_some.2 (.inl hx)
  · exact or_some.2 (.inr ⟨hx, h2 x o hx2⟩)
theorem Sat.rot {R : Hp} {L1 L2 : List HA} {A : HA} {h : Hp} (s : Sat R ((L1 ++ L2) ++ [A]) h) : Sat R (L1 ++ (A :: L2)) h := by
  rw [List.append_assoc] at s
  exact s.mono' fun m hm => SatL.tailR (fun m hm => ⟨m, by have := hm.comm; simpa using this, .refl m⟩) hm
theorem Sat.dropMid {R : Hp} {L1 L2 : List HA} {A : HA} {h : Hp} (s : Sat R (L1 ++ (A :: L2)) h) : Sat R (L1 ++ L2) h :=
  s.mono' fun m hm => SatL.tailR (fun m hm => by
    obtain ⟨m1, m2, a, b, d, e⟩ := hm
    refine ⟨m2, b, fun x o hx => ?_⟩
    rw [e]
    rcases d x with hh | hh
    · rw [hh]; exact hx
    · rw [hh] at hx; cases hx) hm

section
variable {c : Cx} {R : Hp} {L : List HA} {l l' : List XO} {k k' : List Item} {pe pe' : PE} {f : Nat}

/-- RANGE OVER A FUNCTION, in a function's own frame. 'J s': the loop's own memory where s says how far it is; 'JX s': where it has been left by 'jump s'. -/
theorem X_rangeF {σ ξ : Type} {fo : Operand} {ps : Array Nat} {a b : Code} {gf : FuncId} {first cap : Array Value} {LC : List HA} {C : Hp → Prop} (idx : List Nat) (s0 : σ)
    (J JX : σ → List HA) (jump : σ → Code) (enc : ξ → List Value) (Pre : Hp → σ → ξ → Prop) (St Ex : σ → ξ → σ → Prop) (Done Left : List HA → σ → Prop)
    (ha : adv c.n c.T f l k pe = .range fo ps a b k' pe') (hro : c.ro = none) (hf : opv pe' fo = some (.v (.func (.func gf) first cap)))
    (hidx : idxB idx L.length = true) (hp : pickI idx L = LC ++ J s0) (hC : ∀ r, Sat R (dropI idx L) r → C r)
    (hnd : ndB ps.toList = true) (hlt : (ps.toList.all fun t => Nat.blt t c.n) = true) (hlen : ∀ x, (enc x).length = ps.size)
    (hCm : ∀ r r', C r → Sub r r' → C r')
    (hround : ∀ lp tm dm r s x, C r → Pre r s x →
      Y (cxR c lp fun v h' => (v = .bool true ∧ ∃ s', St s x s' ∧ Sat r (.pt lp (.loop ⟨.ready, none, c.fn, tm, ps, a, b, dm⟩) :: J s') h') ∨
          (v = .bool false ∧ ∃ s', Ex s x s' ∧ Sat r (.pt lp (.loop ⟨.done, some (jump s'), c.fn, tm, ps, a, b, dm⟩) :: JX s') h'))
        r [] [.code a, .beginRound, .code b] (zipV ps.toList (enc x) ++ pe') (.pt lp (.loop ⟨.ready, none, c.fn, tm, ps, a, b, dm⟩) :: J s))
    (hcallee : ∀ r yv A B, C r → YieldsE c.P yv r A B enc Pre St Ex →
      Tr c.P gf (first.toList ++ ([yv] ++ cap.toList)) r (LC ++ [A s0]) fun _ L' => ∃ LC' s, (Done LC' s ∧ L' = LC' ++ [A s]) ∨ (Left LC' s ∧ L' = LC' ++ [B s]))
    (hdone : ∀ LC' s, Done LC' s → Y c R [] k' pe' (fillI idx (LC' ++ J s) (dropI idx L)))
    (hleft : ∀ LC' s, Left LC' s → Y c R [] (.code (jump s) :: k') pe' (fillI idx (LC' ++ JX s) (dropI idx L))) : Y c R l k pe L := by
  refine Y.of_adv ha fun D e h hE hsat => ?_
  show Run _ _ _ _ _ _ _ _ _
  have goal : Run c.P c.fn none c.n (.code (.rangeFunc fo ps a b) :: k') D e h c.R := by
    intro tm w cs hsim hon hcs
    have hm0 : h w.heap.size = none := hon.new
    have hs1 := marks_push hsat hm0
    have hon1 := hon.push (.deferred (some []))
    have hm1 : upd h w.heap.size (.deferred (some [])) (w.heap.size + 1) = none := by
      have := hon1.new; simpa using this
    have hext : Ext pe' (fun t => tm.getD t undef) := fun t s hs => by
      show tm.getD t undef = _
      rw [hsim.val]; exact hE t s hs
    have hon2 := hon1.push (.loop ⟨.ready, none, c.fn, tm, ps, a, b, w.heap.size⟩)
    obtain ⟨r, hr1, hr2, hr3⟩ := hs1.frame hidx
    have hCr := hC r hr1
    have hr4 : Sat r (LC ++ (.pt (w.heap.size + 1) (.loop ⟨.ready, none, c.fn, tm, ps, a, b, w.heap.size⟩) :: J s0)) (upd (upd h w.heap.size (.deferred (some []))) (w.heap.size + 1) (.loop ⟨.ready, none, c.fn, tm, ps, a, b, w.heap.size⟩)) := by
      refine Sat.rot ?_
      rw [← hp]; exact hr2.push hm1 _
    have he := @run_enterLoop_none c.P tm w c.fn ps a b
    have hyield : YieldsE c.P (.func (.yield (w.heap.size + 1)) #[] #[]) r (fun s => .pred (SatL (.pt (w.heap.size + 1) (.loop ⟨.ready, none, c.fn, tm, ps, a, b, w.heap.size⟩) :: J s)))
        (fun s => .pred (SatL (.pt (w.heap.size + 1) (.loop ⟨.done, some (jump s), c.fn, tm, ps, a, b, w.heap.size⟩) :: JX s))) enc Pre St Ex := by
      intro r' s x hsub hpre
      refine ⟨⟨_, _, _, rfl⟩, fun h1 hs1 w1 hon1 => ?_⟩
      have hs2 := Sat.group0.2 hs1
      have hb := hs2.get (i := 0) rfl
      have hw1 : w1.heap[w.heap.size + 1]? = some (.loop ⟨.ready, none, c.fn, tm, ps, a, b, w.heap.size⟩) := by rw [hon1]; exact hb
      have hfold := fold_set ps.toList (enc x) tm (ndB_ok hnd) (fun p hp => by
        have := List.all_eq_true.1 hlt p hp
        rw [hsim.size]; exact Nat.blt_eq.mp this) (by rw [hlen]; simp)
      have hrun : (callV (.func (.yield (w.heap.size + 1)) #[] #[]) (enc x)).run c.P w1 =
          .ok (.round (w.heap.size + 1) c.fn ((ps.toList.zip (enc x)).foldl (fun t x => t.setIfInBounds x.1 x.2) tm) a b) w1 := by
        have hg : (Instr.getLoop (w.heap.size + 1)).run c.P w1 = .ok ⟨.ready, none, c.fn, tm, ps, a, b, w.heap.size⟩ w1 := run_getLoop hw1
        have hz : (ps.zip (enc x).toArray).foldl (fun tmps (t, a) => tmps.setIfInBounds t a) tm = (ps.toList.zip (enc x)).foldl (fun t x => t.setIfInBounds x.1 x.2) tm := by
          rw [← Array.foldl_toList]; congr 1; simp
        have hsz : ¬ ((#[] ++ (enc x).toArray : Array Value).size ≠ ps.size) := by simp [hlen]
        have hsz2 : (enc x).length = ps.size := hlen x
        simp [callV, Deferred.ofValue, invoke, Instr.yield, hg, Result.andThen, hsz2, ← hz]
      rw [hrun]
      refine ⟨h1, hon1, .refl w1, fun w2 hon2 c1 cs1 => ?_⟩
      have hY := hround (w.heap.size + 1) tm w.heap.size r' s x (hCm r r' hCr hsub) hpre [] (fun t => ((ps.toList.zip (enc x)).foldl (fun t x => t.setIfInBounds x.1 x.2) tm).getD t undef) h1 (hfold.2 pe' hext) (marks_nil_sat hs2)
      obtain ⟨v, w', h', g1, g2, g3, c2, cs2, g4, g5⟩ := hY _ w2 (c1 :: cs1) ⟨by rw [hfold.1, hsim.size]; rfl, fun t => rfl⟩ hon2 (by simp)
      cases g4
      refine ⟨v, w', h', g1, ?_, g3, g5⟩
      rcases g2 with ⟨rfl, s', g6, g7⟩ | ⟨rfl, s', g6, g7⟩
      · exact ⟨_, .inl ⟨rfl, s', g6, rfl⟩, Sat.group0.1 g7⟩
      · exact ⟨_, .inr ⟨rfl, s', g6, rfl⟩, Sat.group0.1 g7⟩
    obtain ⟨⟨F, hF, hn, hbd⟩, hent⟩ := hcallee r _ _ _ hCr hyield
    have hcall : (rangeCall (evalT tm fo) (w.heap.size + 1)).run c.P { w with heap := (w.heap.push (.deferred (some []))).push (.loop ⟨.ready, none, c.fn, tm, ps, a, b, w.heap.size⟩) } =
        .ok (.enter gf (first.toList ++ ([Value.func (.yield (w.heap.size + 1)) #[] #[]] ++ cap.toList)).toArray) { w with heap := (w.heap.push (.deferred (some []))).push (.loop ⟨.ready, none, c.fn, tm, ps, a, b, w.heap.size⟩) } := by
      have hev : evalT tm fo = .func (.func gf) first cap := by
        have := opv_sound hE hf
        simp only [SV.den] at this
        rw [← this]
        cases fo with
        | tmp t => exact hsim.val t
        | const v => rfl
        | global g => rfl
        | func g => rfl
      have harr : first ++ #[Value.func (.yield (w.heap.size + 1)) #[] #[]] ++ cap = (first.toList ++ ([Value.func (.yield (w.heap.size + 1)) #[] #[]] ++ cap.toList)).toArray := by apply Array.ext'; simp
      simp only [rangeCall, hev, Deferred.ofValue, Sem.run_bind, Sem.run_pure, Result.andThen, invoke, callFunc, program, Sem.run]
      rw [show c.P.funcs[gf]? = some F from hF]
      simp only [hn, hbd, Bool.false_eq_true, if_false, harr]
      rfl
    have hst := st_rangeFunc (cs := cs) (k := k') (D := marks D) he hcall
    obtain ⟨v, w', h', g1, ⟨L', ⟨LC', s, g2⟩, g3⟩, g4, g5⟩ := hent _ (Sat.group.1 hr4) { w with heap := (w.heap.push (.deferred (some []))).push (.loop ⟨.ready, none, c.fn, tm, ps, a, b, w.heap.size⟩) } (by simpa using hon2) (mk c.fn none tm (.inRangeFunc (w.heap.size + 1) :: k') (([{ target := .collected w.heap.size, args := #[] }] : List Deferred) ++ marks D)) cs
    rw [mk_finish_range] at g5
    have hkeep : Keep w w' := (⟨rfl, rfl, rfl, by simp; omega, Nat.le_refl _⟩ : Keep w { w with heap := (w.heap.push (.deferred (some []))).push (.loop ⟨.ready, none, c.fn, tm, ps, a, b, w.heap.size⟩) }).trans g4
    have fin : ∀ (lr : Loop) (Jn : List HA) (todo : List Item), lr.state ≠ .busy → Sat r (LC' ++ (.pt (w.heap.size + 1) (.loop lr) :: Jn)) h' →
        (lr.pending.map Item.code).toList ++ k' = todo → Y c R [] todo pe' (fillI idx (LC' ++ Jn) (dropI idx L)) →
        ∃ v w' h', On w' h' ∧ c.R v h' ∧ Keep w w' ∧ Ends c.P c.fn none (lone (mk c.fn none tm (.code (.rangeFunc fo ps a b) :: k') (marks D)) cs w) cs v w' := by
      intro lr Jn todo hbusy hsat2 htodo hY
      have hget : h' (w.heap.size + 1) = some (.loop lr) := hsat2.get (i := LC'.length) (by simp)
      have hw' : w'.heap[w.heap.size + 1]? = some (.loop lr) := by rw [g1]; exact hget
      have hs3 := hsat2.set (i := LC'.length) (b := w.heap.size + 1) (o := .loop lr) (by simp) (.loop { lr with state := .exhausted })
      have hs4 : Sat r (LC' ++ Jn) (upd h' (w.heap.size + 1) (.loop { lr with state := .exhausted })) := by
        refine Sat.dropMid (A := .pt (w.heap.size + 1) (.loop { lr with state := .exhausted })) ?_
        simpa using hs3
      have hs5 := hr3 _ _ hs4
      have hrun : Run c.P c.fn none c.n todo (w.heap.size :: D) e (upd h' (w.heap.size + 1) (.loop { lr with state := .exhausted })) c.R := by
        have h9 : Run c.P c.fn c.ro c.n todo (w.heap.size :: D) e (upd h' (w.heap.size + 1) (.loop { lr with state := .exhausted })) c.R := hY (w.heap.size :: D) e _ hE hs5
        rw [hro] at h9; exact h9
      obtain ⟨v3, w3, h3, k1, k2, k3, k4⟩ := hrun tm _ cs hsim (g1.putO hget (y := .loop { lr with state := .exhausted })) hcs
      have hend := st_endRange (P := c.P) (fn := c.fn) (ro := none) (tm := tm) (k := k') (D := marks (w.heap.size :: D)) (cs := cs) hw' hbusy
      rw [htodo] at hend
      refine ⟨v3, w3, h3, k1, k2, hkeep.trans ((Keep.putO _ _ _).trans k3), .of_steps ((Steps.one hst).trans (g5.trans (.one hend))) k4⟩
    rcases g2 with ⟨hd, rfl⟩ | ⟨hd, rfl⟩
    · exact fin _ _ _ (by simp) (Sat.group.2 g3) rfl (by simpa using hdone LC' s hd)
    · exact fin _ _ _ (by simp) (Sat.group.2 g3) rfl (by simpa using hleft LC' s hd)
  rw [← hro] at goal
  exact goal

theorem Y.ownLen {i e size n cp : Nat} {a : Option Addr} {xs : List Value} (hi : L[i]? = some (ownS e size a n cp xs)) (H : xs.length = n * size → Y c R l k pe L) : Y c R l k pe L :=
  fun D en h hx hs => H (hs.own (idx1 hi)).1 D en h hx hs
end
end Go.Eng
namespace Go.Eng
open Go Go.ChangeShapes Go.WideShapes Go.RowKit Go.Deep

/-! ### From the row to the walk and back -/
theorem below_of {w w' : World} {h h' : Hp} (o : On w h) (o' : On w' h') (s : Sub h h') (k : Keep w w') : Below w.heap.size w w' := by
  refine ⟨k.os, k.tape, k.output, k.size, fun b hb => ?_⟩
  rw [o' b, o b]
  have e : h b = some w.heap[b] := by rw [← o b]; exact Array.getElem?_eq_getElem hb
  rw [e]; exact s b _ e

section
variable {H : Type} {enc : TypeId × Value → H} {P : Program}

theorem trodAll_again (hl : laidOutB P = true) {W W' : World} (hb : Below W.heap.size W W') {sp : Nat → Bool} :
    ∀ {ts : List TypeId} {vs : List Value} {ds : List (DataW H)} {p : List MemPlace}, (ts.all fun t => P.readableRec t && decide (t < P.types.size)) = true →
      DataW.TrodAll enc P W 0 (fun _ => true) true ts vs ds p → (∀ x ∈ p, x.block < W.heap.size) → (∀ x ∈ p, sp x.block = true) →
      DataW.TrodAll enc P W' 0 sp true ts vs ds p
  | [], _, _, _, _, h, _, _ => by obtain ⟨rfl, rfl, rfl⟩ := trodAll_nil h; exact h
  | t :: ts, _, _, _, ht, h, hlt, hsp => by
    obtain ⟨v, vs1, d, ds1, a, b, rfl, rfl, rfl, h1, h2⟩ := trodAll_cons h
    simp only [List.all_cons, Bool.and_eq_true, decide_eq_true_eq] at ht
    exact ⟨a, b, WideElems.Trod_stays hl ht.1.1 ht.1.2 h1 (fun x hx => hb.same (hlt x (by simp [hx]))) (fun x hx => hsp x (by simp [hx])),
      trodAll_again hl hb ht.2 h2 (fun x hx => hlt x (by simp [hx])) (fun x hx => hsp x (by simp [hx])), rfl⟩

/-- what a law's walk gives is what its row asks -/
theorem law_post (hl : laidOutB P = true) {f : Func} {s : ChangeSpec} {apart again : Bool} {W W' : World} {args : Array Value} {ds : List (DataW H)} {before : List MemPlace} {tb : TypeId}
    (hrt : f.resultTypes = #[tb]) (htb : P.underlying tb = some .bool) (hv : s.vars = [])
    (hps : (f.params.toList.all fun t => P.readableRec t && decide (t < P.types.size)) = true)
    (hres : (s.fn H ds).results = [.lit (.bool true)]) (harg : (s.fn H ds).args = ds) (hvr : (s.fn H ds).vars = [])
    (hW : DataW.Whole enc P f.params.toList s.vars apart W args.toList ds [] before) (hb : Below W.heap.size W W') :
    s.post enc P f apart true false again W args (.bool true) W' := by
  have hW0 := hW
  obtain ⟨p, q, hA, hV, rfl, hfz, hnd⟩ := hW
  rw [hv] at hV
  obtain ⟨-, rfl⟩ := trodVars_none hV
  simp only [List.append_nil] at hW0
  have hlt : ∀ x ∈ p, x.block < W.heap.size := fun x hx => by simpa using hW0.lt x hx
  have hold : ∀ x ∈ p, (fun b => decide (b < W.heap.size)) x.block = true := fun x hx => by simpa using hlt x hx
  have hR : ∀ (b : Nat) (sp : Nat → Bool) (hd : Bool), DataW.TrodAll enc P W' b sp hd f.resultTypes.toList ((Value.bool true).resultList f.resultTypes.size) (s.fn H (ds ++ [])).results [] := fun b sp hd => by
    rw [List.append_nil, hres, hrt]
    exact trodAll_mk1 (shut_bool htb true)
  have hG : ∀ sp : Nat → Bool, (∀ x ∈ p, sp x.block = true) → DataW.TrodAll enc P W' 0 sp true f.params.toList args.toList (s.fn H (ds ++ [])).args p := fun sp hsp => by
    rw [List.append_nil, harg]
    exact trodAll_again hl hb hps hA hlt hsp
  have hK : ∀ sp : Nat → Bool, DataW.TrodVars enc P W' sp s.vars (s.fn H (ds ++ [])).vars [] := fun sp => by
    rw [hv, List.append_nil, hvr]; rfl
  refine ⟨ds, [], p, [], p, [], hW0, hR _ _ _, hG _ hold, hK _, hb.frame _, fun _ => ⟨ok_one hrt rfl (by simp [Value.okWide, htb, Cell.okWide, Cell.ok]), _, _, ([] ++ p) ++ [], ⟨[] ++ p, [], trodAll_append (hG _ (fun _ _ => rfl)) (hR _ _ _), hK _, rfl, ?_, ?_⟩, ?_⟩⟩
  · intro b off hp
    rw [hb.frozen (hlt _ (by simpa using hp))]
    exact hfz b off (by simpa using hp)
  · intro ha
    simpa using hnd ha
  · intro x hx _
    simpa using hx

/-! ### Opening arguments -/
theorem cells_get {w : World} {base : Nat} {a : Addr} : ∀ {n : Nat} {cs : List Value}, w.cells? base a n = some cs → cs.length = n ∧ ∀ j v, cs[j]? = some v → w.cell? (a.add j) = some v := by
  intro n cs h
  obtain ⟨h1, h2, h3⟩ := World.cells?_some h
  refine ⟨h2, fun j v hj => ?_⟩
  have hlt := (List.getElem?_eq_some_iff.1 hj).1
  rw [← hj]
  exact h3 j (by omega)

theorem rdAt_mk {w : World} {h : Hp} (o : On w h) {a : Addr} {cl : List Value} (hc : ∀ j v, cl[j]? = some v → w.cell? (a.add j) = some v) : RdAt h (some a) cl := by
  cases cl with
  | nil => exact .inl rfl
  | cons v r =>
    have h0 := hc 0 v rfl
    obtain ⟨b, off, sp⟩ := a
    have hsp : sp = none := by
      cases sp with
      | none => rfl
      | some x =>
        exfalso
        simp only [Addr.add, if_true, World.cell?] at h0
        split at h0 <;> simp at h0
    subst hsp
    refine .inr ⟨b, off, rfl, fun j v hj => ?_⟩
    have := hc j v hj
    rw [o.cell] at this
    rw [← this]
    congr 1
    unfold Addr.add
    split <;> simp_all

theorem flat_at {α : Type} {cells : α → List Value} {k : Nat} (hk : ∀ x, (cells x).length = k) (hk0 : 0 < k) : ∀ (xs : List α) (j : Nat) (v : Value), (xs.map cells).flatten[j]? = some v → ∃ x, xs[j / k]? = some x ∧ (cells x)[j % k]? = some v := by
  intro xs
  induction xs with
  | nil => intro j v h; simp at h
  | cons x r ih =>
    intro j v h
    simp only [List.map_cons, List.flatten_cons] at h
    by_cases hj : j < k
    · rw [List.getElem?_append_left (by rw [hk]; exact hj)] at h
      exact ⟨x, by rw [Nat.div_eq_of_lt hj]; rfl, by rw [Nat.mod_eq_of_lt hj]; exact h⟩
    · rw [List.getElem?_append_right (by rw [hk]; omega), hk] at h
      obtain ⟨y, h1, h2⟩ := ih _ _ h
      refine ⟨y, ?_, ?_⟩
      · have : j / k = (j - k) / k + 1 := by
          rw [← Nat.add_div_right _ hk0, Nat.sub_add_cancel (by omega)]
        rw [this]; exact h1
      · have : j % k = (j - k) % k := by rw [Nat.mod_eq_sub_mod (by omega)]
        rw [this]; exact h2

theorem opt_eta {α : Type} {o : Option α} (h : o.isSome = true) : ∃ x, o = some x := Option.isSome_iff_exists.1 h

/-- a slice, its elements given by what their readings say -/
theorem open_list {α : Type} [Inhabited α] (cells : α → List Value) (good : α → Prop) {t e : TypeId} {k : Nat} {w : World} {h : Hp} (o : On w h) {v : Value} {d : DataW H} {p : List MemPlace}
    (ht : P.underlying t = some (.slice e)) (hc : P.cellsOf e = k) (hk0 : 0 < k) (hk : ∀ x, (cells x).length = k) (hv : ∃ a n c, v = .slice a n c)
    (hel : ∀ n cs y, DataW.trod enc P w 0 (fun _ => true) true n e cs = some y → ∃ x, cs = cells x ∧ good x)
    (hd : DataW.Trod enc P w 0 (fun _ => true) true t v d p) :
    ∃ (a : Option Addr) (n c : Nat) (xs : List α), v = .slice a n c ∧ n ≤ c ∧ c ≤ maxLen ∧ xs.length = n ∧ RdAt h a (xs.map cells).flatten ∧ ∀ x ∈ xs, good x := by
  obtain ⟨fuel, hf⟩ := hd
  obtain ⟨a, n, c, rfl⟩ := hv
  rcases open_slice ht hf with ⟨h0, -⟩ | ⟨a', len, cap, m, n', D, Pl, h0, hb, hl, hm, hmm, -, hx⟩
  · simp only [Value.cells, List.cons.injEq, Value.slice.injEq, and_true] at h0
    obtain ⟨rfl, rfl, rfl⟩ := h0
    exact ⟨none, 0, 0, [], rfl, Nat.le_refl _, Nat.zero_le _, rfl, .inl rfl, by simp⟩
  · simp only [Value.cells, List.cons.injEq, Value.slice.injEq, and_true] at h0
    obtain ⟨rfl, rfl, rfl⟩ := h0
    simp only [if_true] at hmm
    subst hmm
    rw [hc] at hx
    obtain ⟨X, hX⟩ := choose_lt (α := α) (p := fun i x => w.cells? 0 (a'.add (i * k)) k = some (cells x) ∧ good x) (n := m) (fun i hi => by
      obtain ⟨cs', h1, h2⟩ := hx i hi
      obtain ⟨x, rfl, hg⟩ := hel _ _ _ h2
      exact ⟨x, h1, hg⟩)
    refine ⟨some a', n, m, (List.range n).map X, rfl, hl, hm, by simp, rdAt_mk o ?_, ?_⟩
    · intro j v hj
      obtain ⟨x, h1, h2⟩ := flat_at hk hk0 _ _ _ hj
      rw [List.getElem?_map] at h1
      obtain ⟨i, h3, rfl⟩ := Option.map_eq_some_iff.1 h1
      obtain ⟨h4, h5⟩ := List.getElem?_eq_some_iff.1 h3
      simp at h4 h5
      subst h5
      have := (cells_get (hX (j / k) (by omega)).1).2 _ _ h2
      rw [Go.Deep.add_add] at this
      rw [← this]; congr 2
      rw [Nat.mul_comm]; exact (Nat.div_add_mod j k).symm
    · intro x hx
      obtain ⟨i, hi, rfl⟩ := List.mem_map.1 hx
      exact (hX i (by simp at hi; omega)).2

theorem slice_of {t e : TypeId} {w : World} {base : Nat} {v : Value} (ht : P.underlying t = some (.slice e)) (hval : Value.okWide P w .any base t v) : ∃ a n c, v = .slice a n c := by
  simp only [Value.okWide, ht, Cell.okWide, Cell.ok] at hval
  split at hval <;> simp_all

theorem el_int {e : TypeId} {k : IntKind} {w : World} {n : Nat} {cs : List Value} {y} (he : P.underlying e = some (.int k)) (h : DataW.trod enc P w 0 (fun _ => true) true n e cs = some y) : ∃ z : Int, cs = [.int k z] ∧ (Lit.int k z).wf = true := by
  obtain ⟨z, h1, h2, h3⟩ := DataW.trod_int he h
  exact ⟨z, h1, h3⟩

theorem el_ints {t e : TypeId} {k : IntKind} {fs : Array Field} {w : World} {n : Nat} {cs : List Value} {y} (ht : P.underlying t = some (.struct fs)) (he : P.underlying e = some (.int k)) (hc : P.cellsOf e = 1) (hn : P.cellsOf t = fs.size)
    (hf : ∀ (i : Nat) (f : Field), fs[i]? = some f → f.type = e ∧ f.offset = i)
    (h : DataW.trod enc P w 0 (fun _ => true) true n t cs = some y) : ∃ zs : List Int, zs.length = fs.size ∧ cs = zs.map (Value.int k) ∧ ∀ z ∈ zs, (Lit.int k z).wf = true := by
  obtain ⟨xs, m, -, -, hl, hxs, hr⟩ := DataW.trod_struct ht h
  obtain ⟨Z, hZ⟩ := choose_lt (α := Int) (p := fun i z => cs[i]? = some (.int k z) ∧ (Lit.int k z).wf = true) (n := fs.size) (fun i hi => by
    obtain ⟨h1, h2⟩ := hf i fs[i] (Array.getElem?_eq_getElem hi)
    have h3 := hr i _ (Array.getElem?_eq_getElem hi)
    rw [h1, h2, hc, List.getElem?_eq_getElem (by omega)] at h3
    obtain ⟨z, h4, h5⟩ := el_int he h3
    refine ⟨z, ?_, h5⟩
    have : ((cs.drop i).take 1)[0]? = some (.int k z) := by rw [h4]; rfl
    rw [List.getElem?_take_of_lt (by omega), List.getElem?_drop] at this
    simpa using this)
  refine ⟨(List.range fs.size).map Z, by simp, ?_, ?_⟩
  · apply List.ext_getElem?
    intro i
    by_cases hi : i < fs.size
    · rw [(hZ i hi).1]; simp [hi]
    · rw [List.getElem?_eq_none (by omega), List.getElem?_eq_none (by simp; omega)]
  · intro z hz
    obtain ⟨i, hi, rfl⟩ := List.mem_map.1 hz
    exact (hZ i (by simpa using hi)).2
end
end Go.Eng
namespace Go.Eng
open Go
section
variable {c : Cx} {R : Hp} {L : List HA} {l l' : List XO} {k k' : List Item} {pe pe' : PE} {f : Nat}

/-- an operation of a drawn region that leaves all that there is -/
theorem Y.callE {o : Oper} {g} {Q : Value → List HA → Prop} (ha : adv c.n c.T f l k pe = .op ⟨o, g, .callE⟩ l' k' pe')
    (hc : ∀ D e h, Ext pe' e → Sat R (marksH D :: L) h → CallE c.P e o h fun v m => ∃ L', Q v L' ∧ SatL L' m)
    (H : ∀ v L', Q v L' → Y c R l' k' (pput pe' o.dst (.v v)) (L ++ L')) : Y c R l k pe L := by
  refine Y.of_adv ha fun D e h hE hs => ?_
  show ∃ Q, CallE c.P e o h Q ∧ ∀ v m h', Q v m → Disj h m → Sub h h' → Sub m h' → Fin h' → aops c.P l' (fun e h => Run c.P c.fn c.ro c.n k' D e h c.R) (put e o.dst v) h'
  refine ⟨_, hc D e h hE hs, fun v m h' ⟨L', hQ, hm⟩ hd hs1 hs2 hfin => ?_⟩
  refine H v L' hQ D _ h' hE.put ?_
  obtain ⟨hf0, m0, hL, d0, sR, sm⟩ := hs
  have dm : Disj m0 m := fun x => by
    rcases hd x with hh | hh
    · left
      cases hx : m0 x with
      | none => rfl
      | some o => rw [sm x o hx] at hh; cases hh
    · exact .inr hh
  refine ⟨hfin, fun b => (m0 b).or (m b), SatL.append (L1 := marksH D :: L).2 ⟨m0, m, hL, hm, dm, fun _ => rfl⟩, ?_, sR.trans hs1, ?_⟩
  · refine (disj_or (fun _ => rfl)).2 ⟨d0, fun x => ?_⟩
    rcases hd x with hh | hh
    · left
      cases hx : R x with
      | none => rfl
      | some o => rw [sR x o hx] at hh; cases hh
    · exact .inr hh
  · exact (sub_or (fun _ => rfl) dm).2 ⟨sm.trans hs1, hs2⟩

/-- a call in a drawn region, that leaves all that there is -/
theorem X_callE {d fo as ats ty ps af gd g} {gf : FuncId} {first captured : Array Value} {vs : List Value} {Q : Value → List HA → Prop} {C : Hp → Prop}
    (ha : adv c.n c.T f l k pe = .op ⟨⟨d, .call ⟨.value fo, as, ats⟩, ty, ps, af, gd⟩, g, .callE⟩ l' k' pe')
    (hf : opv pe' fo = some (.v (.func (.func gf) first captured))) (hvs : mapV pe' as.toList = some vs)
    (hT : ∀ r, C r → Tr c.P gf (first.toList ++ (vs ++ captured.toList)) r [] Q) (hC : ∀ h r, Sat R L h → Sub h r → C r)
    (H : ∀ v L', Q v L' → Y c R l' k' (pput pe' d (.v v)) (L ++ L')) : Y c R l k pe L := by
  refine Y.callE ha (fun D e h hE hs => ⟨fun w h2 hsub hon => ?_⟩) H
  have hargs := mapV_sound hE hvs
  obtain ⟨⟨F, hF, hn, hbd⟩, _⟩ := hT h (hC h h hs.tail (.refl h))
  have hrun : (execOp (evalE e) ⟨d, .call ⟨.value fo, as, ats⟩, ty, ps, af, gd⟩).run c.P w = .ok (.enter gf (first.toList ++ (vs ++ captured.toList)).toArray) w := by
    have hmap : as.map (evalE e) = vs.toArray := by apply Array.ext'; simpa using hargs
    have harr : first ++ vs.toArray ++ captured = (first.toList ++ (vs ++ captured.toList)).toArray := by
      apply Array.ext'; simp
    simp only [execOp, resolve, opv_sound hE hf, SV.den, Deferred.ofValue, hmap, Sem.run_bind, Sem.run_pure, Result.andThen, invoke, callFunc, program, Sem.run]
    rw [show c.P.funcs[gf]? = some F from hF]
    simp only [hn, hbd, Bool.false_eq_true, if_false, harr]
    rfl
  rw [hrun]
  obtain ⟨_, hent⟩ := hT h2 (hC h h2 hs.tail hsub)
  refine ⟨h2, hon, .refl w, (hent h2 ⟨hon.fin, fun _ => none, fun _ => rfl, fun _ => .inr rfl, .refl h2, fun b o hb => by cases hb⟩).mono (fun v h' ⟨L', hQ, hS⟩ => ?_)⟩
  obtain ⟨_, m, hm, hd, hs1, hs2⟩ := hS
  exact ⟨m, ⟨L', hQ, hm⟩, hd, hs1, hs2⟩
end
end Go.Eng
namespace Go.Eng
open Go

/-- a key of two numbers: an array -/
theorem KL.pairA {P : Program} {T : TT} {kt ft i j} (hT : TOk P T) (hk : tget T kt = some i) (hkd : i.td = .arr 2 ft) (hf : tget T ft = some j) (hfd : j.td = .int .i64) (hsz : j.size = 1) : KL P kt pairV := by
  obtain ⟨d, hd, hfit⟩ := (tget_ok hT hf).desc
  rw [hfd] at hfit; simp only [TD.fits] at hfit; subst hfit
  obtain ⟨u, hu, hfu⟩ := (tget_ok hT hk).desc
  rw [hkd] at hfu; simp only [TD.fits] at hfu; subst hfu
  obtain ⟨x, hx, hx1, -⟩ := (tget_ok hT hf).info
  have hpart : ∀ (cs : Array Value) (o : Nat) (v : Value) w, cs[o]? = some v → (part ft cs o).run P w = .ok v w := by
    intro cs o v w hv
    simp [part, isAgg, run_underlying hd, hv]
  have hsize : ∀ w, (sizeOf ft).run P w = .ok 1 w := by intro w; simp [sizeOf, typeInfo, hx, hx1, hsz]
  have hint0 : ∀ n x y w, (Op.equalIn (n + 1) ft (.int .i64 x) (.int .i64 y)).run P w = .ok (x == y) w := by
    intro n x y w
    simp only [Op.equalIn, Sem.run_bind, run_underlying hd, Result.andThen, if_true]; rfl
  have heq : ∀ (k a : Int × Int) w, (Op.equal kt (pairV k) (pairV a)).run P w = .ok (decide (k = a)) w := by
    intro k a w
    have main : ∀ n, (Op.equalIn (n + 1 + 1) kt (pairV k) (pairV a)).run P w = .ok (decide (k = a)) w := by
      intro n
      obtain ⟨k1, k2⟩ := k
      obtain ⟨b1, b2⟩ := a
      rw [Op.equalIn]
      simp only [pairV, Sem.run_bind, run_underlying hu, Result.andThen, hsize, Std.Legacy.Range.forIn_eq_forIn_range', Std.Legacy.Range.size, Nat.sub_zero, Nat.add_one_sub_one, Nat.div_one, List.range'_succ, List.range'_zero, List.forIn_cons, List.forIn_nil,
        Nat.zero_mul, Nat.zero_add, Nat.one_mul, hpart _ 0 _ _ (show #[Value.int .i64 k1, Value.int .i64 k2][0]? = some (.int .i64 k1) from rfl), hpart _ 0 _ _ (show #[Value.int .i64 b1, Value.int .i64 b2][0]? = some (.int .i64 b1) from rfl), hint0]
      by_cases h1 : k1 = b1
      · subst h1
        simp only [beq_self_eq_true, Bool.not_true, Bool.false_eq_true, if_false, Sem.run_bind, Sem.run_pure, Result.andThen, hint0,
          hpart _ 1 _ _ (show #[Value.int .i64 k1, Value.int .i64 k2][1]? = some (.int .i64 k2) from rfl), hpart _ 1 _ _ (show #[Value.int .i64 k1, Value.int .i64 b2][1]? = some (.int .i64 b2) from rfl)]
        by_cases h2 : k2 = b2
        · subst h2; simp
        · have hb : (k2 == b2) = false := by simpa using h2
          simp [hb, h2]
      · have hb : (k1 == b1) = false := by simpa using h1
        simp [hb, h1]
    exact main 9998
  refine ⟨?_, ?_, ?_, ?_⟩
  · rintro ⟨a, b⟩ ⟨c, d⟩ h; simp [pairV] at h; simp [h]
  · intro em k w
    have hpl : ∀ v n w, (Instr.checkKey em (n + 1) ft v).run P w = .ok () w := fun v n w => check_plain hd (by simp) (by simp) em n w
    have main : ∀ n, (Instr.checkKey em (n + 1 + 1) kt (pairV k)).run P w = .ok () w := by
      intro n
      rw [Instr.checkKey]
      simp only [Sem.run_bind, run_underlying hu, Result.andThen, pairV, hsize, Std.Legacy.Range.forIn_eq_forIn_range', Std.Legacy.Range.size, Nat.sub_zero, Nat.add_one_sub_one, Nat.div_one, List.range'_succ, List.range'_zero, List.forIn_cons, List.forIn_nil,
        Nat.zero_mul, Nat.zero_add, Nat.one_mul,
        hpart _ 0 _ _ (show #[Value.int .i64 k.1, Value.int .i64 k.2][0]? = some (.int .i64 k.1) from rfl), hpart _ 1 _ _ (show #[Value.int .i64 k.1, Value.int .i64 k.2][1]? = some (.int .i64 k.2) from rfl), hpl, Sem.run_pure]
    exact main 9998
  · intro k es ks w h
    have hnow : ∀ es i, Instr.findNow (.array 2 ft) (pairV k) es i = (match es with | [] => some none | _ :: _ => none) := by
      intro es i; cases es <;> simp [Instr.findNow, Instr.sameNow]
    cases es with
    | nil =>
      cases ks with
      | nil => exact .inl ⟨by simp, by simp [Instr.findKey, run_underlying hu, hnow]⟩
      | cons a r => simp at h
    | cons e es =>
      have hrun : (Instr.findKey kt (pairV k) (e :: es)).run P w = (Instr.findAsking kt (pairV k) (e :: es) 0).run P w := by
        simp [Instr.findKey, run_underlying hu, hnow]
      rcases findAsking_dec (enc := pairV) (k := k) (heq k) w (e :: es) ks 0 h with ⟨h1, h2⟩ | ⟨j, e', h1, h2, h3⟩
      · exact .inl ⟨h1, by rw [hrun]; exact h2⟩
      · exact .inr ⟨j, e', by rw [hrun, h1]; simp, h2, h3⟩
  · intro k w
    simp [Instr.keyThatStays, sameBits_pair]

/-- '==' of structs whose fields are all integers -/
theorem run_eq_ints {P : Program} {t ft : TypeId} {xs ys : List Int} (hu : P.underlying t = some (.struct (P.fieldsOf t))) (hst : P.stoodInHeld t = false) (hd : P.underlying ft = some (.int .i64))
    (hf : ∀ f ∈ (P.fieldsOf t).toList, f.name ≠ "_" ∧ f.type = ft) (ho : (P.fieldsOf t).toList.map (·.offset) = List.range xs.length) (hl : ys.length = xs.length) (w : World) :
    (Op.equalIn 10000 t (.agg (xs.map (Value.int .i64)).toArray) (.agg (ys.map (Value.int .i64)).toArray)).run P w = .ok (decide (xs = ys)) w := by
  rw [run_equalIn_struct w 9999 t _ _ hu hst]
  have hpart : ∀ (cs : Array Value) (o : Nat) (v : Value) w, cs[o]? = some v → (part ft cs o).run P w = .ok v w := by
    intro cs o v w hv
    simp [part, isAgg, run_underlying hd, hv]
  have hint0 : ∀ n x y w, (Op.equalIn (n + 1) ft (.int .i64 x) (.int .i64 y)).run P w = .ok (x == y) w := by
    intro n x y w
    simp only [Op.equalIn, Sem.run_bind, run_underlying hd, Result.andThen, if_true]; rfl
  have hint : ∀ x y w, (Op.equalIn 9999 ft (.int .i64 x) (.int .i64 y)).run P w = .ok (x == y) w := hint0 9998
  have key : ∀ (fs : List Field) (k : Nat), (∀ f ∈ fs, f.name ≠ "_" ∧ f.type = ft) → fs.map (·.offset) = List.range' k (xs.length - k) → k ≤ xs.length →
      (Op.eqFields 9999 (xs.map (Value.int .i64)).toArray (ys.map (Value.int .i64)).toArray fs).run P w = .ok (decide (xs.drop k = ys.drop k)) w := by
    intro fs
    induction fs with
    | nil =>
      intro k _ h hk
      have : xs.length - k = 0 := by
        cases hh : xs.length - k with
        | zero => rfl
        | succ n => rw [hh] at h; simp [List.range'_succ] at h
      rw [List.drop_eq_nil_of_le (by omega), List.drop_eq_nil_of_le (by omega)]
      simp [Op.eqFields]
    | cons f fs ih =>
      intro k hfs h hk
      obtain ⟨h1, h2⟩ := hfs f (by simp)
      have hlt : k < xs.length := by
        by_cases hh : k < xs.length
        · exact hh
        · rw [show xs.length - k = 0 by omega] at h; simp at h
      rw [show xs.length - k = (xs.length - (k + 1)) + 1 by omega, List.range'_succ] at h
      simp only [List.map_cons, List.cons.injEq] at h
      obtain ⟨h3, h4⟩ := h
      have hx : (xs.map (Value.int .i64)).toArray[k]? = some (.int .i64 xs[k]) := by simp [hlt]
      have hy : (ys.map (Value.int .i64)).toArray[k]? = some (.int .i64 (ys[k]'(by omega))) := by simp [hl, hlt]
      have e1 : xs.drop k = xs[k] :: xs.drop (k + 1) := List.drop_eq_getElem_cons hlt
      have e2 : ys.drop k = ys[k]'(by omega) :: ys.drop (k + 1) := List.drop_eq_getElem_cons (by omega)
      unfold Op.eqFields
      rw [if_pos h1]
      simp only [h2, h3, Sem.run_bind, hpart _ k _ _ hx, hpart _ k _ _ hy, Result.andThen, hint]
      rw [e1, e2]
      by_cases hq : xs[k] = ys[k]'(by omega)
      · rw [hq]
        simp only [beq_self_eq_true, Bool.not_true, Bool.false_eq_true, if_false]
        rw [ih (k + 1) (fun f hf => hfs f (by simp [hf])) h4 (by omega)]
        simp only [List.cons.injEq, true_and]
      · have hb : (xs[k] == ys[k]'(by omega)) = false := by simpa using hq
        simp only [hb, Bool.not_false, if_true, Sem.run_pure, List.cons.injEq, hq, false_and, decide_false]
  have := key (P.fieldsOf t).toList 0 hf (by rw [ho, List.range_eq_range']; simp) (Nat.zero_le _)
  simpa using this

section
variable {c : Cx} {R : Hp} {L : List HA} {l l' : List XO} {k k' : List Item} {pe pe' : PE} {f : Nat}

theorem X_neqS {d t x y yt ty ps af gd g} {xs ys : List Int}
    (ha : adv c.n c.T f l k pe = .op ⟨⟨d, .binOp .neq t x y yt, ty, ps, af, gd⟩, g, .pure⟩ l' k' pe')
    (hx : opv pe' x = some (.v (.agg (xs.map (Value.int .i64)).toArray))) (hy : opv pe' y = some (.v (.agg (ys.map (Value.int .i64)).toArray)))
    (hq : ∀ w, (Op.equalIn 10000 t (.agg (xs.map (Value.int .i64)).toArray) (.agg (ys.map (Value.int .i64)).toArray)).run c.P w = .ok (decide (xs = ys)) w) (hm : c.P.eqGuardType c.P.depth t = false)
    (H : Y c R l' k' (pput pe' d (.sb (!decide (xs = ys)))) L) : Y c R l k pe L := by
  refine Y.of_adv ha (YS.pure fun D e h hE hs => ⟨.bool (!decide (xs = ys)), fun w => ?_, H D _ h hE.put hs⟩)
  simp only [execOp, opv_sound hE hx, opv_sound hE hy, SV.den, Sem.run_bind, run_eqGuard_agg _ _ _ _ _ _ _ hm, run_neq_struct, hq, Result.andThen]
  rfl

/-- which it is: the nil slice or a block's, the item left as it lies -/
theorem Y.ownAt {i e size n cp : Nat} {a : Option Addr} {xs : List Value} (hi : L[i]? = some (ownS e size a n cp xs))
    (H0 : a = none → n = 0 → cp = 0 → Y c R l k pe L) (H1 : ∀ g, a = some ⟨g, 0, none⟩ → n ≤ cp → cp ≤ maxLen → Y c R l k pe L) : Y c R l k pe L := by
  intro D en h hx hs
  obtain ⟨h1, h2⟩ := hs.own (idx1 hi)
  rcases h2 with ⟨h3, h4, h5⟩ | ⟨g, cur, h3, hg, h4, h5, -⟩
  · exact H0 h3 h4 h5 D en h hx hs
  · exact H1 g h3 h4 h5 D en h hx hs

theorem run_equal_bool {P : Program} {t : TypeId} {a b : Bool} (hu : P.underlying t = some .bool) (w : World) : (Op.equal t (.bool a) (.bool b)).run P w = .ok (a == b) w := by
  have main : ∀ n, (Op.equalIn (n + 1) t (.bool a) (.bool b)).run P w = .ok (a == b) w := by
    intro n; simp [Op.equalIn, run_underlying hu]
  exact main 9999

/-- '!=' of two truth values -/
theorem X_neqB {d t x y yt ty ps af gd g} {a b : Bool} {s1 s2 : SV} {ti : TI}
    (ha : adv c.n c.T f l k pe = .op ⟨⟨d, .binOp .neq t x y yt, ty, ps, af, gd⟩, g, .pure⟩ l' k' pe')
    (hx : opv pe' x = some s1) (h1 : s1.den = .bool a) (hy : opv pe' y = some s2) (h2 : s2.den = .bool b) (ht : tget c.T t = some ti) (htd : ti.td = .bool)
    (H : Y c R l' k' (pput pe' d (.sb (a != b))) L) : Y c R l k pe L := by
  refine Y.of_adv ha (YS.pure fun D e h hE hs => ⟨.bool (a != b), fun w => ?_, H D _ h hE.put hs⟩)
  obtain ⟨dd, hdd, hfit⟩ := (tget_ok c.hT ht).desc
  rw [htd] at hfit; simp only [TD.fits] at hfit; subst hfit
  have hg : (eqGuard .neq t x y (.bool a) (.bool b)).run c.P w = .ok () w := by unfold eqGuard; simp
  simp only [execOp, opv_sound hE hx, opv_sound hE hy, h1, h2, Sem.run_bind, hg, Result.andThen]
  simp [binOp, run_equal_bool hdd, bne]
theorem X_eqB {d t x y yt ty ps af gd g} {a b : Bool} {s1 s2 : SV} {ti : TI}
    (ha : adv c.n c.T f l k pe = .op ⟨⟨d, .binOp .eql t x y yt, ty, ps, af, gd⟩, g, .pure⟩ l' k' pe')
    (hx : opv pe' x = some s1) (h1 : s1.den = .bool a) (hy : opv pe' y = some s2) (h2 : s2.den = .bool b) (ht : tget c.T t = some ti) (htd : ti.td = .bool)
    (H : Y c R l' k' (pput pe' d (.sb (a == b))) L) : Y c R l k pe L := by
  refine Y.of_adv ha (YS.pure fun D e h hE hs => ⟨.bool (a == b), fun w => ?_, H D _ h hE.put hs⟩)
  obtain ⟨dd, hdd, hfit⟩ := (tget_ok c.hT ht).desc
  rw [htd] at hfit; simp only [TD.fits] at hfit; subst hfit
  have hg : (eqGuard .eql t x y (.bool a) (.bool b)).run c.P w = .ok () w := by unfold eqGuard; simp
  simp only [execOp, opv_sound hE hx, opv_sound hE hy, h1, h2, Sem.run_bind, hg, Result.andThen]
  simp [binOp, run_equal_bool hdd]
end
end Go.Eng
namespace Go.Eng
open Go

def bnd (pe : PE) (o : Option Operand) (dflt : Nat) : Option Int :=
  match o with
  | none => some dflt
  | some o => match opv pe o with
    | some (.v (.int _ i)) => some i
    | _ => none

theorem run_bound {P : Program} {w : World} {k : IntKind} {i : Int} {y : Nat} {code} (h : 0 ≤ i ∧ i ≤ y) : (Instr.sliceBound (.int k i) y code).run P w = .ok i.toNat w := by
  simp [Instr.sliceBound, asIntOf, h]

section
variable {c : Cx} {R : Hp} {L : List HA} {l l' : List XO} {k k' : List Item} {pe pe' : PE} {f : Nat}

/-- x[lo:hi:mx], of a slice -/
theorem X_slice {d t x lo hi mx ty ps af gd g} {a : Option Addr} {n cp el : Nat} {lv hv mv : Int} {v : Value} {ti tj : TI}
    (ha : adv c.n c.T f l k pe = .op ⟨⟨d, .slice t x lo hi mx, ty, ps, af, gd⟩, g, .pure⟩ l' k' pe')
    (hx : opv pe' x = some (.v (.slice a n cp))) (ht : tget c.T t = some ti) (htd : ti.td = .slice el) (he : tget c.T el = some tj)
    (hl : bnd pe' lo 0 = some lv) (hh : bnd pe' hi n = some hv) (hm : bnd pe' mx cp = some mv) (hmh : mx = none ∨ hi.isSome = true)
    (hr : 0 ≤ lv ∧ lv ≤ hv ∧ hv ≤ mv ∧ mv ≤ cp)
    (hval : Value.slice (if mv.toNat = lv.toNat then a else a.map (·.add (lv.toNat * tj.size))) (hv.toNat - lv.toNat) (mv.toNat - lv.toNat) = v)
    (H : Y c R l' k' (pput pe' d (.v v)) L) : Y c R l k pe L := by
  refine Y.of_adv ha (YS.pure fun D e h hE hs => ⟨v, fun w => ?_, H D _ h hE.put hs⟩)
  obtain ⟨dd, hdd, hfit⟩ := run_underlying' (w := w) c.hT ht
  rw [htd] at hfit; simp only [TD.fits] at hfit; subst hfit
  have key : ∀ (o : Option Operand) (df : Nat) (z : Int), bnd pe' o df = some z → (o = none ∧ z = df) ∨ ∃ op kd, o = some op ∧ evalE e op = .int kd z := by
    intro o df z hz
    cases o with
    | none => simp only [bnd, Option.some.injEq] at hz; exact .inl ⟨rfl, hz.symm⟩
    | some op =>
      simp only [bnd] at hz
      split at hz
      · rename_i kd i hop
        simp only [Option.some.injEq] at hz; subst hz
        exact .inr ⟨op, kd, rfl, opv_sound hE hop⟩
      · cases hz
  have hbounds : (Instr.sliceBounds true n cp (lo.map (evalE e)) (hi.map (evalE e)) (mx.map (evalE e))).run c.P w = .ok (lv.toNat, hv.toNat, mv.toNat) w := by
    obtain ⟨h0, h1, h2, h3⟩ := hr
    unfold Instr.sliceBounds
    have e1 : ((mv.toNat : Nat) : Int) = mv := by omega
    have e2 : ((hv.toNat : Nat) : Int) = hv := by omega
    rcases key _ _ _ hl with ⟨rfl, rfl⟩ | ⟨ol, kl, rfl, hol⟩ <;> rcases key _ _ _ hh with ⟨rfl, rfl⟩ | ⟨oh, kh, rfl, hoh⟩ <;> rcases key _ _ _ hm with ⟨rfl, rfl⟩ | ⟨om, km, rfl, hom⟩ <;>
      first
      | (simp at hmh; done)
      | (simp (disch := omega) only [Option.map_some, Option.map_none, hol, hoh, hom, Sem.run_bind, Sem.run_pure, Result.andThen, run_bound, Option.isSome, Int.toNat_natCast, Int.toNat_zero, Int.ofNat_zero, Int.natCast_zero]; done)
      | (simp (disch := omega) only [Option.map_some, Option.map_none, hoh, hom, Sem.run_bind, Sem.run_pure, Result.andThen, run_bound, Option.isSome, Int.toNat_natCast]; done)
      | (simp (disch := omega) only [Option.map_some, Option.map_none, hol, hom, Sem.run_bind, Sem.run_pure, Result.andThen, run_bound, Option.isSome, Int.toNat_natCast]; done)
      | (simp (disch := omega) only [Option.map_some, Option.map_none, hol, hoh, Sem.run_bind, Sem.run_pure, Result.andThen, run_bound, Option.isSome, Int.toNat_natCast]; done)
      | (simp (disch := omega) only [Option.map_some, Option.map_none, hol, Sem.run_bind, Sem.run_pure, Result.andThen, run_bound, Option.isSome, Int.toNat_natCast]; done)
      | (simp (disch := omega) only [Option.map_some, Option.map_none, hoh, Sem.run_bind, Sem.run_pure, Result.andThen, run_bound, Option.isSome, Int.toNat_natCast]; done)
      | (simp (disch := omega) only [Option.map_some, Option.map_none, hom, Sem.run_bind, Sem.run_pure, Result.andThen, run_bound, Option.isSome, Int.toNat_natCast]; done)
      | (simp (disch := omega) only [Option.map_some, Option.map_none, Sem.run_bind, Sem.run_pure, Result.andThen, run_bound, Option.isSome, Int.toNat_natCast]; done)
  simp only [execOp, opv_sound hE hx, SV.den, Instr.sliceAt, Instr.slice, Sem.run_bind, hdd, Result.andThen, hbounds, run_sizeOf' c.hT he, Sem.run_pure, hval]

def minL : List Int → Int
  | [] => 0
  | x :: r => r.foldl (fun a y => if y < a then y else a) x
def maxL : List Int → Int
  | [] => 0
  | x :: r => r.foldl (fun a y => if y > a then y else a) x

theorem run_min {P : Program} {w : World} {ts ty} {k : IntKind} {x : Int} {r : List Int} : (Builtin.min_ ts ty ((x :: r).map (Value.int k)).toArray).run P w = .ok (.int k (minL (x :: r))) w := by
  simp only [Builtin.min_, List.map_cons, minL]
  induction r generalizing x with
  | nil => rfl
  | cons y r ih => simp only [List.map_cons, List.foldlM_cons, Builtin.min2, Sem.run_bind, Sem.run_pure, Result.andThen, List.foldl_cons]; exact ih
theorem run_max {P : Program} {w : World} {ts ty} {k : IntKind} {x : Int} {r : List Int} : (Builtin.max_ ts ty ((x :: r).map (Value.int k)).toArray).run P w = .ok (.int k (maxL (x :: r))) w := by
  simp only [Builtin.max_, List.map_cons, maxL]
  induction r generalizing x with
  | nil => rfl
  | cons y r ih => simp only [List.map_cons, List.foldlM_cons, Builtin.max2, Sem.run_bind, Sem.run_pure, Result.andThen, List.foldl_cons]; exact ih

theorem X_min {d as ats ty ps af gd g} {kd : IntKind} (xs : List Int)
    (ha : adv c.n c.T f l k pe = .op ⟨⟨d, .call ⟨.builtin .min, as, ats⟩, ty, ps, af, gd⟩, g, .read⟩ l' k' pe')
    (hvs : mapV pe' as.toList = some (xs.map (Value.int kd))) (hne : xs ≠ [])
    (H : Y c R l' k' (pput pe' d (.v (.int kd (minL xs)))) L) : Y c R l k pe L := by
  refine Y.of_adv ha (YS.read fun D e h hE hs => ⟨.int kd (minL xs), fun w h2 _ _ => ?_, H D _ h hE.put hs⟩)
  have hmap : as.map (evalE e) = (xs.map (Value.int kd)).toArray := by apply Array.ext'; simpa using mapV_sound hE hvs
  cases xs with
  | nil => exact absurd rfl hne
  | cons x r =>
    simp only [execOp, resolve, invoke, builtin, hmap, Sem.run_bind, Sem.run_pure, Result.andThen, run_min]
theorem X_max {d as ats ty ps af gd g} {kd : IntKind} (xs : List Int)
    (ha : adv c.n c.T f l k pe = .op ⟨⟨d, .call ⟨.builtin .max, as, ats⟩, ty, ps, af, gd⟩, g, .read⟩ l' k' pe')
    (hvs : mapV pe' as.toList = some (xs.map (Value.int kd))) (hne : xs ≠ [])
    (H : Y c R l' k' (pput pe' d (.v (.int kd (maxL xs)))) L) : Y c R l k pe L := by
  refine Y.of_adv ha (YS.read fun D e h hE hs => ⟨.int kd (maxL xs), fun w h2 _ _ => ?_, H D _ h hE.put hs⟩)
  have hmap : as.map (evalE e) = (xs.map (Value.int kd)).toArray := by apply Array.ext'; simpa using mapV_sound hE hvs
  cases xs with
  | nil => exact absurd rfl hne
  | cons x r =>
    simp only [execOp, resolve, invoke, builtin, hmap, Sem.run_bind, Sem.run_pure, Result.andThen, run_max]
end
end Go.Eng
namespace Go.Eng
open Go
section
variable {c : Cx} {R : Hp} {L : List HA} {l l' : List XO} {k k' : List Item} {pe pe' : PE} {f : Nat}

/-- append of nothing -/
theorem X_append0 {d t s x ty ps af gd g} {e n cp c2 : Nat} {a a2 : Option Addr} {ti te : TI}
    (ha : adv c.n c.T f l k pe = .op ⟨⟨d, .call ⟨.builtin .append, #[s, x], #[t, t]⟩, ty, ps, af, gd⟩, g, .other⟩ l' k' pe')
    (hx : opv pe' s = some (.v (.slice a n cp))) (hx2 : opv pe' x = some (.v (.slice a2 0 c2)))
    (ht : tget c.T t = some ti) (htd : ti.td = .slice e) (hte : tget c.T e = some te) (hn : n ≤ cp)
    (H : Y c R l' k' (pput pe' d (.v (.slice a n cp))) L) : Y c R l k pe L := by
  refine Y.of_adv ha (YS.other fun D en h hE hs => ?_)
  intro w hon
  obtain ⟨dd, hdd, hfit⟩ := (tget_ok c.hT ht).desc
  rw [htd] at hfit; simp only [TD.fits] at hfit; subst hfit
  obtain ⟨ix, hix, hs1, hs2, z, hz, hzz⟩ := (tget_ok c.hT hte).info
  have hr : (Builtin.append_ #[t, t] ty #[.slice a n cp, .slice a2 0 c2]).run c.P w = .ok (.slice a n cp) w := by
    cases a <;> cases a2 <;> simp [Builtin.append_, run_underlying hdd, sizeOf, typeInfo, hix, Builtin.lenOf, Builtin.firstCells, hn, loadCells, loadCellsFrom, storeCells]
  have hop : (execOp (evalE en) ⟨d, .call ⟨.builtin .append, #[s, x], #[t, t]⟩, ty, ps, af, gd⟩).run c.P w = .ok (.value (.slice a n cp)) w := by
    simp [execOp, resolve, invoke, builtin, ev_v hE hx, ev_v hE hx2, hr]
  rw [hop]
  exact ⟨h, hon, .refl w, H D _ h hE.put hs⟩

/-- append that must grow: a new block, whatever lies behind -/
theorem X_appendG {d t s x ty ps af gd g} {e size n cp m c2 : Nat} {a a2 : Option Addr} {ti te : TI} (olds news : List Value)
    (ha : adv c.n c.T f l k pe = .op ⟨⟨d, .call ⟨.builtin .append, #[s, x], #[t, t]⟩, ty, ps, af, gd⟩, g, .other⟩ l' k' pe')
    (hx : opv pe' s = some (.v (.slice a n cp))) (hx2 : opv pe' x = some (.v (.slice a2 m c2)))
    (ht : tget c.T t = some ti) (htd : ti.td = .slice e) (hte : tget c.T e = some te) (hsz : te.size = size) (hzl : te.zero.length = size)
    (hm : 0 < m) (hol : olds.length = n * size) (hl : news.length = m * size) (h0 : 0 < size) (hby : (n + m) * te.bytes ≤ 140737488355328) (h63 : n + m ≤ 9223372036854775807)
    (hgrow : cp < n + m) (hnil : a = none → n = 0 ∧ cp = 0)
    (hrd0 : ∀ A h, Sat R (A :: L) h → RdAt h a olds) (hrd : ∀ A h, Sat R (A :: L) h → RdAt h a2 news)
    (H : ∀ a' c', Y c R l' k' (pput pe' d (.v (.slice a' (n + m) c'))) (L ++ [ownS e size a' (n + m) c' (olds ++ news)])) : Y c R l k pe L := by
  refine Y.of_adv ha (YS.other fun D en h hE hs => ?_)
  intro w hon
  obtain ⟨dd, hdd, hfit⟩ := (tget_ok c.hT ht).desc
  rw [htd] at hfit; simp only [TD.fits] at hfit; subst hfit
  obtain ⟨ix, hix, hs1, hs2, z, hz, hzz⟩ := (tget_ok c.hT hte).info
  subst hsz
  have hzs : z.cells.size = te.size := by rw [← hzl, ← hzz]; simp
  have hne : news ≠ [] := by
    rintro rfl
    have := Nat.mul_pos hm h0
    rw [← hl] at this; simp at this
  have hnews : ∃ b o, a2 = some ⟨b, o, none⟩ ∧ ∀ j u, news[j]? = some u → w.cell? ((⟨b, o, none⟩ : Addr).add j) = some u := by
    rcases hrd _ h hs with h1 | ⟨b, o, rfl, hc⟩
    · exact absurd h1 hne
    · exact ⟨b, o, rfl, fun j u hj => by rw [add_pl, hon.cell]; exact hc j u hj⟩
  obtain ⟨b, o, rfl, hcl⟩ := hnews
  have fin : (Builtin.append_ #[t, t] ty #[.slice a n cp, .slice (some ⟨b, o, none⟩) m c2]).run c.P w = .ok (.slice (some ⟨w.heap.size, 0, none⟩) (n + m) (grownCap w (n + m) cp e))
        (w.drew.alloc (.cells (olds.toArray ++ news.toArray ++ Builtin.zeroCells z.cells (grownCap w (n + m) cp e - (n + m))) e)) →
      Upon c.P w (fun v h' => aops c.P l' (fun e h => Run c.P c.fn c.ro c.n k' D e h c.R) (put en d v) h') ((execOp (evalE en) ⟨d, .call ⟨.builtin .append, #[s, x], #[t, t]⟩, ty, ps, af, gd⟩).run c.P w) := by
    intro hr
    have hop : (execOp (evalE en) ⟨d, .call ⟨.builtin .append, #[s, x], #[t, t]⟩, ty, ps, af, gd⟩).run c.P w = .ok (.value (.slice (some ⟨w.heap.size, 0, none⟩) (n + m) (grownCap w (n + m) cp e)))
        (w.drew.alloc (.cells (olds.toArray ++ news.toArray ++ Builtin.zeroCells z.cells (grownCap w (n + m) cp e - (n + m))) e)) := by
      simp [execOp, resolve, invoke, builtin, ev_v hE hx, ev_v hE hx2, hr]
    rw [hop]
    have hge := grownCap_ge w (n + m) cp e
    have hle := grownCap_le_maxLen w (n + m) cp e (by simp only [maxLen]; omega)
    refine ⟨upd h w.heap.size _, (On.push (w := w.drew) hon _ : On _ _), (Keep.drew w).trans (Keep.push w.drew _), H _ _ D _ _ (hE.put (s := .v _)) ?_⟩
    have hpush := hs.push hon.new (.cells (olds.toArray ++ news.toArray ++ Builtin.zeroCells z.cells (grownCap w (n + m) cp e - (n + m))) e (0, 0))
    have hw := hpush.weak (i := L.length + 1) (A := .pt w.heap.size (.cells (olds.toArray ++ news.toArray ++ Builtin.zeroCells z.cells (grownCap w (n + m) cp e - (n + m))) e (0, 0)))
      (A' := ownS e te.size (some ⟨w.heap.size, 0, none⟩) (n + m) (grownCap w (n + m) cp e) (olds ++ news)) (by simp) (fun m1 hm1 => ⟨m1, ⟨by rw [List.length_append, hol, hl, Nat.add_mul], .inr ⟨_, _, rfl, hm1, hge, hle, ?_, ?_⟩⟩, .refl m1⟩)
    · simpa using hw
    · simp only [Array.size_append, List.size_toArray, size_zeroCells, hzs, hol, hl, ← Nat.add_mul]
      congr 1; omega
    · simp only [Array.toList_append, List.append_assoc]
      rw [← List.append_assoc, show (n + m) * te.size = (olds ++ news).length by rw [List.length_append, hol, hl, Nat.add_mul]]
      exact List.take_left
  refine fin ?_
  cases a with
  | none =>
    obtain ⟨rfl, rfl⟩ := hnil rfl
    have ho : olds = [] := List.eq_nil_of_length_eq_zero (by simpa using hol)
    subst ho
    have hr := run_append_nil (P := c.P) w t ty e ix z hdd hix hz ⟨b, o, none⟩ m c2 news (by rw [hs1]; exact hl) hcl hm (by omega) (by rw [hs2]; have := hby; simp only [Nat.zero_add] at this; omega)
    simpa using hr
  | some ad =>
    have hold : ∀ j u, olds[j]? = some u → w.cell? (ad.add j) = some u := by
      intro j u hj
      rcases hrd0 _ h hs with h1 | ⟨b', o', hb', hc⟩
      · rw [h1] at hj; simp at hj
      · cases hb'; rw [add_pl, hon.cell]; exact hc j u hj
    exact run_append_grow (P := c.P) w t ty e ix z hdd hix hz ad n cp olds (by rw [hs1]; exact hol) hold ⟨b, o, none⟩ m c2 news (by rw [hs1]; exact hl) hcl hgrow (by omega) (by rw [hs2]; exact growslice_fits hgrow hby)
/-- append that must grow, in a drawn region -/
theorem X_appendE {d t s x ty ps af gd g} {e size n cp m c2 : Nat} {a a2 : Option Addr} {ti te : TI} (olds news : List Value)
    (ha : adv c.n c.T f l k pe = .op ⟨⟨d, .call ⟨.builtin .append, #[s, x], #[t, t]⟩, ty, ps, af, gd⟩, g, .callE⟩ l' k' pe')
    (hx : opv pe' s = some (.v (.slice a n cp))) (hx2 : opv pe' x = some (.v (.slice a2 m c2)))
    (ht : tget c.T t = some ti) (htd : ti.td = .slice e) (hte : tget c.T e = some te) (hsz : te.size = size) (hzl : te.zero.length = size)
    (hm : 0 < m) (hol : olds.length = n * size) (hl : news.length = m * size) (h0 : 0 < size) (hby : (n + m) * te.bytes ≤ 140737488355328) (h63 : n + m ≤ 9223372036854775807)
    (hgrow : cp < n + m) (hnil : a = none → n = 0 ∧ cp = 0)
    (hrd0 : ∀ A h, Sat R (A :: L) h → RdAt h a olds) (hrd : ∀ A h, Sat R (A :: L) h → RdAt h a2 news)
    (H : ∀ a' c', Y c R l' k' (pput pe' d (.v (.slice a' (n + m) c'))) (L ++ [ownS e size a' (n + m) c' (olds ++ news)])) : Y c R l k pe L := by
  refine Y.callE (Q := fun v L' => ∃ a' c', v = .slice a' (n + m) c' ∧ L' = [ownS e size a' (n + m) c' (olds ++ news)]) ha (fun D en hh0 hE hs0 => ⟨fun w h hsub hon => ?_⟩) (fun v L' ⟨a', c', hv, hL⟩ => by subst hv; subst hL; exact H a' c')
  obtain ⟨dd, hdd, hfit⟩ := (tget_ok c.hT ht).desc
  rw [htd] at hfit; simp only [TD.fits] at hfit; subst hfit
  obtain ⟨ix, hix, hs1, hs2, z, hz, hzz⟩ := (tget_ok c.hT hte).info
  subst hsz
  have hzs : z.cells.size = te.size := by rw [← hzl, ← hzz]; simp
  have hne : news ≠ [] := by
    rintro rfl
    have := Nat.mul_pos hm h0
    rw [← hl] at this; simp at this
  have hnews : ∃ b o, a2 = some ⟨b, o, none⟩ ∧ ∀ j u, news[j]? = some u → w.cell? ((⟨b, o, none⟩ : Addr).add j) = some u := by
    rcases (hrd _ hh0 hs0).mono hsub with h1 | ⟨b, o, rfl, hc⟩
    · exact absurd h1 hne
    · exact ⟨b, o, rfl, fun j u hj => by rw [add_pl, hon.cell]; exact hc j u hj⟩
  obtain ⟨b, o, rfl, hcl⟩ := hnews
  have fin : (Builtin.append_ #[t, t] ty #[.slice a n cp, .slice (some ⟨b, o, none⟩) m c2]).run c.P w = .ok (.slice (some ⟨w.heap.size, 0, none⟩) (n + m) (grownCap w (n + m) cp e))
        (w.drew.alloc (.cells (olds.toArray ++ news.toArray ++ Builtin.zeroCells z.cells (grownCap w (n + m) cp e - (n + m))) e)) →
      Upon c.P w (fun v h' => ∃ mm, (∃ L', (∃ a' c', v = .slice a' (n + m) c' ∧ L' = [ownS e te.size a' (n + m) c' (olds ++ news)]) ∧ SatL L' mm) ∧ Disj h mm ∧ Sub h h' ∧ Sub mm h') ((execOp (evalE en) ⟨d, .call ⟨.builtin .append, #[s, x], #[t, t]⟩, ty, ps, af, gd⟩).run c.P w) := by
    intro hr
    have hop : (execOp (evalE en) ⟨d, .call ⟨.builtin .append, #[s, x], #[t, t]⟩, ty, ps, af, gd⟩).run c.P w = .ok (.value (.slice (some ⟨w.heap.size, 0, none⟩) (n + m) (grownCap w (n + m) cp e)))
        (w.drew.alloc (.cells (olds.toArray ++ news.toArray ++ Builtin.zeroCells z.cells (grownCap w (n + m) cp e - (n + m))) e)) := by
      simp [execOp, resolve, invoke, builtin, ev_v hE hx, ev_v hE hx2, hr]
    rw [hop]
    have hge := grownCap_ge w (n + m) cp e
    have hle := grownCap_le_maxLen w (n + m) cp e (by simp only [maxLen]; omega)
    refine ⟨upd h w.heap.size _, (On.push (w := w.drew) hon _ : On _ _), (Keep.drew w).trans (Keep.push w.drew _), single w.heap.size (.cells (olds.toArray ++ news.toArray ++ Builtin.zeroCells z.cells (grownCap w (n + m) cp e - (n + m))) e (0, 0)), ⟨_, ⟨_, _, rfl, rfl⟩, ?_⟩, fun x => ?_, Sub.upd hon.new, fun x o hx => ?_⟩
    · refine ⟨single w.heap.size (.cells (olds.toArray ++ news.toArray ++ Builtin.zeroCells z.cells (grownCap w (n + m) cp e - (n + m))) e (0, 0)), fun _ => none, ⟨by rw [List.length_append, hol, hl, Nat.add_mul], .inr ⟨_, _, rfl, rfl, hge, hle, ?_, ?_⟩⟩, fun _ => rfl, fun _ => .inr rfl, fun b => by simp⟩
      · simp only [Array.size_append, List.size_toArray, size_zeroCells, hzs, hol, hl, ← Nat.add_mul]
        congr 1; omega
      · simp only [Array.toList_append, List.append_assoc]
        rw [← List.append_assoc, show (n + m) * te.size = (olds ++ news).length by rw [List.length_append, hol, hl, Nat.add_mul]]
        exact List.take_left
    · by_cases hx : x = w.heap.size
      · subst hx; exact .inl hon.new
      · exact .inr (single_ne hx)
    · by_cases hxb : x = w.heap.size
      · subst hxb; rw [single_at] at hx; simp only [upd, if_true]; exact hx
      · rw [single_ne hxb] at hx; cases hx
  refine fin ?_
  cases a with
  | none =>
    obtain ⟨rfl, rfl⟩ := hnil rfl
    have ho : olds = [] := List.eq_nil_of_length_eq_zero (by simpa using hol)
    subst ho
    have hr := run_append_nil (P := c.P) w t ty e ix z hdd hix hz ⟨b, o, none⟩ m c2 news (by rw [hs1]; exact hl) hcl hm (by omega) (by rw [hs2]; have := hby; simp only [Nat.zero_add] at this; omega)
    simpa using hr
  | some ad =>
    have hold : ∀ j u, olds[j]? = some u → w.cell? (ad.add j) = some u := by
      intro j u hj
      rcases (hrd0 _ hh0 hs0).mono hsub with h1 | ⟨b', o', hb', hc⟩
      · rw [h1] at hj; simp at hj
      · cases hb'; rw [add_pl, hon.cell]; exact hc j u hj
    exact run_append_grow (P := c.P) w t ty e ix z hdd hix hz ad n cp olds (by rw [hs1]; exact hol) hold ⟨b, o, none⟩ m c2 news (by rw [hs1]; exact hl) hcl hgrow (by omega) (by rw [hs2]; exact growslice_fits hgrow hby)
end
end Go.Eng
namespace Go.Eng
open Go

abbrev iV (x : Int) : Value := .int .i64 x
/-- a slice of integers, in what stays -/
structure IntsIn (R : Hp) (a : Option Addr) (n : Nat) (xs : List Int) : Prop where
  len : xs.length = n
  rd : RdAt R a (xs.map iV)
  small : n ≤ 9223372036854775807

theorem IntsIn.mono {R R' : Hp} {a n xs} (h : IntsIn R a n xs) (s : Sub R R') : IntsIn R' a n xs := ⟨h.len, h.rd.mono s, h.small⟩

theorem IntsIn.at {R : Hp} {a n xs} (h : IntsIn R a n xs) {i : Nat} (hi : i < n) : ∃ b o, a = some ⟨b, o, none⟩ ∧ ∃ hx : i < xs.length, R.cell ⟨b, o + i, none⟩ = some (iV xs[i]) := by
  have hx : i < xs.length := by rw [h.len]; exact hi
  have hc : (xs.map iV)[i]? = some (iV xs[i]) := by simp [hx]
  rcases h.rd with h0 | ⟨b, o, rfl, hr⟩
  · rw [h0] at hc; simp at hc
  · exact ⟨b, o, rfl, hx, hr _ _ hc⟩
end Go.Eng
namespace Go.Eng
open Go

/-! ### Unsigned numbers of 32 bits, as natural numbers -/
theorem u32_wrap {x : Nat} (h : x < 4294967296) : IntKind.u32.wrap (x : Int) = x := by
  simp [IntKind.wrap, IntKind.bits, IntKind.signed]; omega
theorem u32_toNat {x : Nat} (h : x < 4294967296) : (BitVec.ofInt 32 (x : Int)).toNat = x := by
  simp [BitVec.toNat_ofInt]; omega
theorem ar_andN {a b : Nat} (ha : a < 4294967296) (hb : b < 4294967296) : arI .and .u32 a b = some ((a &&& b : Nat) : Int) := by
  have h1 := u32_toNat ha
  have h2 := u32_toNat hb
  have hlt : a &&& b < 4294967296 := Nat.lt_of_le_of_lt Nat.and_le_left ha
  show some (IntKind.u32.wrap (((BitVec.ofInt 32 (a : Int)) &&& (BitVec.ofInt 32 (b : Int))).toNat : Int)) = _
  rw [BitVec.toNat_and, h1, h2, u32_wrap hlt]
theorem ar_xorN {a b : Nat} (ha : a < 4294967296) (hb : b < 4294967296) : arI .xor .u32 a b = some ((a ^^^ b : Nat) : Int) := by
  have h1 := u32_toNat ha
  have h2 := u32_toNat hb
  have hlt : a ^^^ b < 4294967296 := Nat.xor_lt_two_pow (n := 32) ha hb
  show some (IntKind.u32.wrap (((BitVec.ofInt 32 (a : Int)) ^^^ (BitVec.ofInt 32 (b : Int))).toNat : Int)) = _
  rw [BitVec.toNat_xor, h1, h2, u32_wrap hlt]
theorem sh_shlN {a k : Nat} (hk : k ≤ 32) (h : a * 2 ^ k < 4294967296) : shI .shl .u32 a k = some ((a * 2 ^ k : Nat) : Int) := by
  simp only [shI]
  rw [if_neg (by omega)]
  simp only [Int.toNat_natCast]
  rw [show min k IntKind.u32.bits = k from by rw [Nat.min_eq_left]; exact hk]
  have : ((a : Int) * 2 ^ k) = ((a * 2 ^ k : Nat) : Int) := by simp
  rw [this, u32_wrap h]
theorem sh_shrN {a k : Nat} (hk : k ≤ 32) : shI .shr .u32 a k = some ((a / 2 ^ k : Nat) : Int) := by
  simp only [shI]
  rw [if_neg (by omega)]
  simp only [Int.toNat_natCast]
  rw [show min k IntKind.u32.bits = k from by rw [Nat.min_eq_left]; exact hk]
  rw [Int.fdiv_eq_ediv_of_nonneg _ (by exact Int.le_of_lt (Int.pow_pos (by omega)))]
  simp
end Go.Eng
