/-
  Lemmas for the walk: how the machine steps, and what each step needs; no condition.
-/
import Derived.Test.YthabnmihfgoabaaDoorEngA
import Derived.Laws.Sem
import Derived.IntWalk
import Derived.Orders
import Derived.Laws.Tables
namespace Go.Eng
open Go

/-! ### The table of types, short -/
inductive TD where
  | int (k : IntKind) | bool | str | ptr (e : Nat) | slice (e : Nat) | arr (n e : Nat) | map (k e : Nat) | struct (fs : List (Nat × Nat)) | func | other
structure TI where
  td : TD
  size : Nat
  bytes : Nat
  zero : List Value
abbrev TT := List (Nat × TI)
def tget : TT → Nat → Option TI
  | [], _ => none
  | (k, i) :: r, t => if Nat.beq k t then some i else tget r t

def TD.fits : TD → TypeDesc → Prop
  | .int k, d => d = .int k
  | .bool, d => d = .bool
  | .str, d => d = .string
  | .ptr e, d => d = .pointer e
  | .slice e, d => d = .slice e
  | .arr n e, d => d = .array n e
  | .map k e, d => d = .map k e
  | .struct fs, d => ∃ a, d = .struct a ∧ a.toList.map (fun f => (f.type, f.offset)) = fs
  | .func, d => ∃ a b c, d = .func a b c
  | .other, _ => True

def TI.zv (i : TI) : Value :=
  match i.td with
  | .struct _ => .agg i.zero.toArray
  | .arr _ _ => .agg i.zero.toArray
  | _ => match i.zero with
    | v :: _ => v
    | [] => .agg #[]

structure TIok (P : Program) (t : Nat) (i : TI) : Prop where
  info : ∃ x, P.info? t = some x ∧ x.size = i.size ∧ x.bytes = i.bytes ∧ ∃ z, x.zero = some z ∧ z.cells.toList = i.zero
  zval : ∃ x, P.info? t = some x ∧ x.zero = some i.zv
  desc : ∃ d, P.underlying t = some d ∧ i.td.fits d

def TOk (P : Program) : TT → Prop
  | [] => True
  | (k, i) :: r => TIok P k i ∧ TOk P r

theorem tget_ok {P : Program} {T : TT} (h : TOk P T) {t i} (ht : tget T t = some i) : TIok P t i := by
  induction T with
  | nil => cases ht
  | cons x r ih =>
    obtain ⟨k, j⟩ := x
    simp only [tget] at ht
    split at ht
    · rename_i hk
      cases ht
      rw [← Nat.eq_of_beq_eq_true hk]; exact h.1
    · exact ih h.2 ht

/-! ### Heaps -/
abbrev Hp := Nat → Option Obj
abbrev Env := Nat → Value
def upd (h : Hp) (b : Nat) (o : Obj) : Hp := fun x => if x = b then some o else h x
def Hp.cell (h : Hp) (a : Addr) : Option Value :=
  match h a.block with
  | some (.cells c _ _) => if a.spot.isSome then none else c[a.off]?
  | _ => none
def On (w : World) (h : Hp) : Prop := ∀ b, w.heap[b]? = h b
structure Keep (w w' : World) : Prop where
  os : w'.os = w.os
  tape : w'.tape = w.tape
  output : w'.output = w.output
  size : w.heap.size ≤ w'.heap.size
  drawn : w.drawn ≤ w'.drawn
theorem Keep.refl (w : World) : Keep w w := ⟨rfl, rfl, rfl, Nat.le_refl _, Nat.le_refl _⟩
theorem Keep.trans {a b c : World} (h : Keep a b) (k : Keep b c) : Keep a c := ⟨k.os.trans h.os, k.tape.trans h.tape, k.output.trans h.output, Nat.le_trans h.size k.size, Nat.le_trans h.drawn k.drawn⟩

theorem On.cell {w : World} {h : Hp} (o : On w h) (a : Addr) : w.cell? a = h.cell a := by
  simp only [World.cell?, Hp.cell, o a.block]
  rfl
theorem On.new {w : World} {h : Hp} (o : On w h) : h w.heap.size = none := by rw [← o]; simp
theorem On.push {w : World} {h : Hp} (o : On w h) (x : Obj) : On { w with heap := w.heap.push x } (upd h w.heap.size x) := by
  intro b
  simp only [upd, Array.getElem?_push]
  split
  · rfl
  · exact o b
theorem On.set {w : World} {h : Hp} (o : On w h) {b : Nat} {x y : Obj} (hb : h b = some x) : On { w with heap := w.heap.setIfInBounds b y } (upd h b y) := by
  intro c
  have hlt : b < w.heap.size := by
    rw [← o] at hb
    exact (Array.getElem?_eq_some_iff.1 hb).1
  simp only [upd, Array.getElem?_setIfInBounds]
  by_cases e : b = c
  · subst e; simp [hlt]
  · rw [if_neg e, if_neg (fun h => e h.symm)]; exact o c
theorem Keep.push (w : World) (x : Obj) : Keep w { w with heap := w.heap.push x } := ⟨rfl, rfl, rfl, by simp, Nat.le_refl _⟩
theorem Keep.set (w : World) (b : Nat) (x : Obj) : Keep w { w with heap := w.heap.setIfInBounds b x } := ⟨rfl, rfl, rfl, by simp, Nat.le_refl _⟩
theorem Keep.drew (w : World) : Keep w { w with drawn := w.drawn + 1 } := ⟨rfl, rfl, rfl, Nat.le_refl _, Nat.le_succ _⟩
theorem On.drew {w : World} {h : Hp} (o : On w h) : On { w with drawn := w.drawn + 1 } h := o

/-- From the frame fr on, called by c, the run comes back to c with a value. -/
def Ent (P : Program) (fr : Frame) (h : Hp) (R : Value → Hp → Prop) : Prop :=
  ∀ w, On w h → ∀ (c : Frame) (cs : List Frame), ∃ v w' h', On w' h' ∧ R v h' ∧ Keep w w' ∧ Steps P (lone fr (c :: cs) w) (lone (c.finish v) cs w')

theorem Ent.mono {P : Program} {fr : Frame} {h : Hp} {R R' : Value → Hp → Prop} (he : Ent P fr h R) (hr : ∀ v h', R v h' → R' v h') : Ent P fr h R' :=
  fun w hw c cs => let ⟨v, w', h', a, b, d, e⟩ := he w hw c cs; ⟨v, w', h', a, hr _ _ b, d, e⟩

def Ends (P : Program) (fn : FuncId) (ro : Option Nat) (m : Machine) (cs : List Frame) (v : Value) (w' : World) : Prop :=
  match ro with
  | none => ∃ fr, Steps P m (lone fr cs w') ∧ fr.fn = fn ∧ fr.leaving P w' (.returned v)
  | some _ => ∃ c cs', cs = c :: cs' ∧ Steps P m (lone (c.finish v) cs' w')

theorem Ends.of_steps {P fn ro m m' cs v w'} (h : Steps P m m') (k : Ends P fn ro m' cs v w') : Ends P fn ro m cs v w' := by
  cases ro with
  | none => obtain ⟨fr, a, b⟩ := k; exact ⟨fr, h.trans a, b⟩
  | some l => obtain ⟨c, cs', a, b⟩ := k; exact ⟨c, cs', a, h.trans b⟩

structure Sim (n : Nat) (e : Env) (tm : Array Value) : Prop where
  size : tm.size = n
  val : ∀ t, tm.getD t undef = e t

def put (e : Env) (d : Option Nat) (v : Value) : Env :=
  match d with
  | some d => fun t => if t = d then v else e t
  | none => e

def dstOk (n : Nat) : Option Nat → Bool
  | some d => Nat.blt d n
  | none => true

theorem Sim.put {n e tm d v} (s : Sim n e tm) (hd : dstOk n d = true) : Sim n (put e d v) (putT tm d v) := by
  cases d with
  | none => exact s
  | some d =>
    have hd : d < n := by simpa [dstOk, Nat.blt_eq] using hd
    refine ⟨by simp [putT, s.size], fun t => ?_⟩
    simp only [putT, Eng.put, Array.getD_eq_getD_getElem?, Array.getElem?_setIfInBounds]
    by_cases e' : d = t
    · subst e'; simp [s.size, hd]
    · rw [if_neg e', if_neg (fun h => e' h.symm)]
      have := s.val t
      rwa [Array.getD_eq_getD_getElem?] at this

def evalE (e : Env) : Operand → Value
  | .tmp t => e t
  | .const v => v
  | .global g => .pointer (some ⟨g, 0, none⟩)
  | .func f => .func (.func f) #[] #[]
theorem Sim.eval {n e tm} (s : Sim n e tm) : evalT tm = evalE e := by
  funext x
  cases x with
  | tmp t => exact s.val t
  | _ => rfl

def marks (D : List Nat) : List Deferred := D.map fun r => { target := .collected r, args := #[] }

/-- THE RUN FROM A FRAME's TODO ON: it comes to its end with a value and a heap of which R holds. -/
def Run (P : Program) (fn : FuncId) (ro : Option Nat) (n : Nat) (todo : List Item) (D : List Nat) (e : Env) (h : Hp) (R : Value → Hp → Prop) : Prop :=
  ∀ tm w cs, Sim n e tm → On w h → (ro.isSome → cs ≠ []) →
    ∃ v w' h', On w' h' ∧ R v h' ∧ Keep w w' ∧ Ends P fn ro (lone (mk fn ro tm todo (marks D)) cs w) cs v w'

section
variable {P : Program} {fn : FuncId} {ro : Option Nat} {n : Nat} {k : List Item} {D : List Nat} {e : Env} {h : Hp} {R : Value → Hp → Prop}

theorem Run.step_of {todo todo' : List Item} (h' : Run P fn ro n todo' D e h R)
    (hs : ∀ tm cs w, Sim n e tm → step P (lone (mk fn ro tm todo (marks D)) cs w) = .next (lone (mk fn ro tm todo' (marks D)) cs w)) : Run P fn ro n todo D e h R := by
  intro tm w cs hsim hon hcs
  obtain ⟨v, w', h2, a, b, c, d⟩ := h' tm w cs hsim hon hcs
  exact ⟨v, w', h2, a, b, c, .of_steps (.one (hs tm cs w hsim)) d⟩

theorem Run.skip (h' : Run P fn ro n k D e h R) : Run P fn ro n (.code .skip :: k) D e h R := h'.step_of fun _ _ _ _ => st_skip
theorem Run.label {l} (h' : Run P fn ro n k D e h R) : Run P fn ro n (.code (.label l) :: k) D e h R := h'.step_of fun _ _ _ _ => st_label
theorem Run.inBlock {id} (h' : Run P fn ro n k D e h R) : Run P fn ro n (.inBlock id :: k) D e h R := h'.step_of fun _ _ _ _ => st_inBlock
theorem Run.inScope {c} (h' : Run P fn ro n k D e h R) : Run P fn ro n (.inScope c :: k) D e h R := h'.step_of fun _ _ _ _ => st_inScope
theorem Run.seq {a b} (h' : Run P fn ro n (.code a :: .code b :: k) D e h R) : Run P fn ro n (.code (.seq a b) :: k) D e h R := h'.step_of fun _ _ _ _ => st_seq
theorem Run.block {id b} (h' : Run P fn ro n (.code b :: .inBlock id :: k) D e h R) : Run P fn ro n (.code (.block id b) :: k) D e h R := h'.step_of fun _ _ _ _ => st_block
theorem Run.scope {b} (h' : Run P fn ro n (.code b :: .inScope b :: k) D e h R) : Run P fn ro n (.code (.scope b) :: k) D e h R := h'.step_of fun _ _ _ _ => st_scope
theorem Run.loop1 {b} (h' : Run P fn ro n (.code b :: .inLoop b :: k) D e h R) : Run P fn ro n (.code (.loop b) :: k) D e h R := h'.step_of fun _ _ _ _ => st_loop
theorem Run.inLoop1 {b} (h' : Run P fn ro n (.code b :: .inLoop b :: k) D e h R) : Run P fn ro n (.inLoop b :: k) D e h R := h'.step_of fun _ _ _ _ => st_inLoop
theorem Run.inv {b} (I : Nat → List Nat → Env → Hp → Prop) {m : Nat} (h0 : I m D e h)
    (round : ∀ m D e h, I m D e h → (∀ m' D' e' h', m' < m → I m' D' e' h' → Run P fn ro n (.inLoop b :: k) D' e' h' R) → Run P fn ro n (.code b :: .inLoop b :: k) D e h R) :
    Run P fn ro n (.code (.loop b) :: k) D e h R := by
  have key : ∀ m D e h, I m D e h → Run P fn ro n (.code b :: .inLoop b :: k) D e h R := by
    intro m
    induction m using Nat.strongRecOn with
    | _ m ih => intro D e h hI; exact round m D e h hI fun m' D' e' h' hm hI' => (ih m' hm D' e' h' hI').inLoop1
  exact (key m D e h h0).loop1
theorem Run.exit {id} {k' : List Item} (hk : exitTo id k = some k') (h' : Run P fn ro n k' D e h R) : Run P fn ro n (.code (.exit id) :: k) D e h R := h'.step_of fun _ _ _ _ => st_exit hk
theorem Run.cond {c x y} {t : Bool} (hc : evalE e c = .bool t) (h' : Run P fn ro n (.code (if t then x else y) :: k) D e h R) : Run P fn ro n (.code (.cond c x y) :: k) D e h R :=
  h'.step_of fun _ _ _ s => st_cond (by rw [s.eval]; exact hc)
theorem Run.region {id ops} (h' : Run P fn ro n (.inRegion ops (List.range ops.size) :: k) D e h R) : Run P fn ro n (.code (.region id ops false) :: k) D e h R := h'.step_of fun _ _ _ _ => st_region
theorem Run.region_end {ops} (h' : Run P fn ro n k D e h R) : Run P fn ro n (.inRegion ops [] :: k) D e h R := h'.step_of fun _ _ _ _ => st_region_end
theorem Run.region_draw {id ops} (h' : ∀ t, Run P fn ro n (.inRegion ops (Region.schedule (P.follows .mixedOrders) ops t) :: k) D e h R) : Run P fn ro n (.code (.region id ops true) :: k) D e h R := by
  intro tm w cs hsim hon hcs
  obtain ⟨v, w', h2, a, b, c, d⟩ := h' (w.tape w.drawn (.order fn id)) tm _ cs hsim hon.drew hcs
  exact ⟨v, w', h2, a, b, (Keep.drew w).trans c, .of_steps (.one st_region_draw) d⟩

end
end Go.Eng
namespace Go.Eng
open Go

/-! ### Loads and stores of whole variables -/
def ldCells (h : Hp) (a : Addr) : Nat → Nat → Option (List Value)
  | _, 0 => some []
  | i, n + 1 => match h.cell (a.add i) with
    | some v => (ldCells h a (i + 1) n).map (v :: ·)
    | none => none

def TI.agg (i : TI) : Bool := match i.td with | .struct _ => true | .arr _ _ => true | _ => false
def TI.known (i : TI) : Bool := match i.td with | .other => false | _ => true

def ldv (T : TT) (h : Hp) (t : Nat) (a : Addr) : Option Value :=
  match tget T t with
  | some i => if i.known then (if i.agg then (ldCells h a 0 i.size).map (fun l => .agg l.toArray) else h.cell a) else none
  | none => none

def Hp.frozen (h : Hp) (a : Addr) : Bool :=
  match h a.block with
  | some (.cells _ _ (lo, hi)) => lo ≤ a.off && a.off < hi
  | _ => false
theorem On.frozen {w : World} {h : Hp} (o : On w h) (a : Addr) : w.frozen? a = h.frozen a := by
  simp only [World.frozen?, Hp.frozen, o a.block]
  rfl

def setc (h : Hp) (a : Addr) (v : Value) : Hp :=
  match h a.block with
  | some (.cells c t fr) => upd h a.block (.cells (if a.spot.isSome then c else c.setIfInBounds a.off v) t fr)
  | _ => h

def one : Value → Bool
  | .agg _ | .tuple _ => false
  | _ => true

def stCells (h : Hp) (a : Addr) : Nat → List Value → Option Hp
  | _, [] => some h
  | i, v :: r =>
    match h.cell (a.add i) with
    | some _ => if one v && !h.frozen (a.add i) then stCells (setc h (a.add i) v) a (i + 1) r else none
    | none => none

def stv (T : TT) (h : Hp) (t : Nat) (a : Addr) (v : Value) : Option Hp :=
  match tget T t with
  | some i => if v.cells.size = i.size then stCells h a 0 v.cells.toList else none
  | none => none

section
variable {P : Program} {T : TT} {w : World} {h : Hp}

theorem run_underlying' {t i} (hT : TOk P T) (ht : tget T t = some i) : ∃ d, (underlying t).run P w = .ok d w ∧ i.td.fits d := by
  obtain ⟨d, hd, hf⟩ := (tget_ok hT ht).desc
  exact ⟨d, by simp [underlying, program, Sem.run, hd, pure], hf⟩
theorem run_sizeOf' {t i} (hT : TOk P T) (ht : tget T t = some i) : (sizeOf t).run P w = .ok i.size w := by
  obtain ⟨x, hx, h1, _⟩ := (tget_ok hT ht).info
  simp [sizeOf, typeInfo, program, Sem.run, hx, pure, h1]
theorem run_isAgg' {t i} (hT : TOk P T) (ht : tget T t = some i) (hk : i.known = true) : (isAgg t).run P w = .ok i.agg w := by
  obtain ⟨d, hd, hf⟩ := run_underlying' (w := w) hT ht
  obtain ⟨td, s, b, z⟩ := i
  simp only [isAgg, Sem.run_bind, hd]
  cases td <;> simp only [TD.fits, TI.agg, TI.known] at hf hk ⊢ <;> first
    | (exact (Bool.false_ne_true hk).elim)
    | (subst hf; simp)
    | (obtain ⟨a, rfl, _⟩ := hf; simp)
    | (obtain ⟨a, b, c, rfl⟩ := hf; simp)

theorem run_loadCells (o : On w h) {a : Addr} : ∀ (n i : Nat) (acc : Array Value) (l : List Value), ldCells h a i n = some l →
    (loadCellsFrom a i n acc).run P w = .ok (acc ++ l.toArray) w := by
  intro n
  induction n with
  | zero => intro i acc l hl; simp only [ldCells, Option.some.injEq] at hl; subst hl; simp [loadCellsFrom, Sem.run, pure]
  | succ n ih =>
    intro i acc l hl
    simp only [ldCells] at hl
    cases hc : h.cell (a.add i) with
    | none => rw [hc] at hl; cases hl
    | some v =>
      rw [hc] at hl
      cases hr : ldCells h a (i + 1) n with
      | none => simp [hr] at hl
      | some r =>
        simp [hr] at hl; subst hl
        simp only [loadCellsFrom, Sem.run_bind, load, Sem.run, o.cell, hc, Result.andThen]
        rw [ih _ _ _ hr]; simp

theorem run_loadVar (hT : TOk P T) (o : On w h) {t a v} (hl : ldv T h t a = some v) : (loadVar t a).run P w = .ok v w := by
  unfold ldv at hl
  cases ht : tget T t with
  | none => rw [ht] at hl; cases hl
  | some i =>
    rw [ht] at hl
    simp only at hl
    cases hk : i.known with
    | false => simp [hk] at hl
    | true =>
      rw [hk] at hl
      simp only [if_true] at hl
      simp only [loadVar, Sem.run_bind, run_isAgg' hT ht hk]
      cases ha : i.agg with
      | true =>
        rw [ha] at hl; simp only [if_true] at hl
        cases hr : ldCells h a 0 i.size with
        | none => simp [hr] at hl
        | some l =>
          simp [hr] at hl; subst hl
          simp only [if_true, Sem.run_bind, run_sizeOf' hT ht, loadCells, Result.andThen]
          rw [run_loadCells o _ _ _ _ hr]
          simp
      | false =>
        rw [ha] at hl
        simp [load, Sem.run, o.cell] at hl ⊢
        simp [hl]

theorem On.setCell (o : On w h) {a : Addr} {v x : Value} (hc : h.cell a = some x) : On (w.setCell a v) (setc h a v) := by
  intro c
  unfold Hp.cell at hc
  cases hb : h a.block with
  | none => simp [hb] at hc
  | some ob =>
    cases ob <;> simp [hb] at hc
    rename_i cs t fr
    have hlt : a.block < w.heap.size := by have := o a.block; rw [hb] at this; exact (Array.getElem?_eq_some_iff.1 this).1
    have hg := o a.block
    rw [hb] at hg
    simp only [World.setCell, setc, hb, upd, Array.getElem?_modify]
    by_cases e : a.block = c
    · subst e; rw [if_pos rfl, if_pos rfl, hg]; rfl
    · rw [if_neg e, if_neg (fun h => e h.symm)]; exact o c

theorem setCell_keep (w : World) (a v) : Keep w (w.setCell a v) := ⟨rfl, rfl, rfl, by simp [World.setCell], Nat.le_refl _⟩

theorem run_storeCells {a : Addr} : ∀ (l : List Value) (i : Nat) (w : World) (h h' : Hp), On w h → stCells h a i l = some h' →
    ∃ w', (storeCells a l i).run P w = .ok () w' ∧ On w' h' ∧ Keep w w' := by
  intro l
  induction l with
  | nil => intro i w h h' o hs; simp only [stCells, Option.some.injEq] at hs; subst hs; exact ⟨w, by simp [storeCells, Sem.run, pure], o, .refl w⟩
  | cons v r ih =>
    intro i w h h' o hs
    simp only [stCells] at hs
    cases hc : h.cell (a.add i) with
    | none => rw [hc] at hs; cases hs
    | some x =>
      rw [hc] at hs
      simp only at hs
      split at hs
      · rename_i hcond
        simp only [Bool.and_eq_true, Bool.not_eq_true'] at hcond
        obtain ⟨w', hr, o', kp⟩ := ih (i + 1) (w.setCell (a.add i) v) _ h' (o.setCell hc) hs
        refine ⟨w', ?_, o', (setCell_keep _ _ _).trans kp⟩
        simp only [storeCells, Sem.run_bind]
        have hst : (store (a.add i) v).run P w = .ok () (w.setCell (a.add i) v) := by
          have hf : w.frozen? (a.add i) = false := by rw [o.frozen]; exact hcond.2
          have hcell : w.cell? (a.add i) = some x := by rw [o.cell]; exact hc
          cases v <;> simp [one] at hcond <;> simp [store, Sem.run, hcell, hf]
        rw [hst]; simpa [Result.andThen] using hr
      · cases hs

theorem run_storeVar (hT : TOk P T) (o : On w h) {t a v h'} (hs : stv T h t a v = some h') :
    ∃ w', (storeVar t a v).run P w = .ok () w' ∧ On w' h' ∧ Keep w w' := by
  unfold stv at hs
  cases ht : tget T t with
  | none => rw [ht] at hs; cases hs
  | some i =>
    rw [ht] at hs
    simp only at hs
    split at hs
    · rename_i hz
      obtain ⟨w', hr, o', kp⟩ := run_storeCells (P := P) v.cells.toList 0 w h h' o hs
      refine ⟨w', ?_, o', kp⟩
      simp only [storeVar, Sem.run_bind, run_sizeOf' hT ht]
      simp [hz, hr]
    · cases hs
end
end Go.Eng
namespace Go.Eng
open Go

inductive Cls where
  | pure | read | new | callE | other
  deriving DecidableEq

structure XO where
  o : Oper
  g : Option (Nat × Bool)
  cl : Cls

def clsOf : Op → Cls
  | .load .. | .lookup .. => .read
  | .alloc _ | .box .. | .buildSlice .. => .new
  | .makeMap _ none => .new
  | .move _ | .assign _ | .pick .. | .build .. | .nilCheck _ | .binOp .. | .unOp .. | .makeFunc .. | .fieldAddr .. | .field .. | .indexAddr .. | .index .. | .extract .. | .slice .. => .pure
  | .call c => match c.callee with
    | .builtin .len | .builtin .cap | .builtin .min | .builtin .max => .read
    | _ => .other
  | .convert .. => .read
  | _ => .other

/-- the slot that a guard looks at -/
def gslot (ops : List Oper) : Option (Nat × Bool) → Option (Option (Nat × Bool))
  | none => some none
  | some (j, want) => match ops[j]? with
    | some o => match o.dst with
      | some d => some (some (d, want))
      | none => none
    | none => none

def gOk (n : Nat) : Option (Nat × Bool) → Bool
  | some (s, _) => Nat.blt s n
  | none => true

def okOp : Op → Bool
  | .defer _ | .go _ | .select .. | .send .. | .recv .. => false
  | _ => true

def prep1 (n : Nat) (ops : List Oper) (ec : List Nat) (i : Nat) : Option XO :=
  match ops[i]? with
  | some o =>
    match gslot ops o.guard with
    | some g => if dstOk n o.dst && okOp o.op && gOk n g then some { o := o, g := g, cl := if ec.contains i then .callE else clsOf o.op } else none
    | none => none
  | none => none

def prep (n : Nat) (ops : List Oper) (ec : List Nat) : List Nat → Option (List XO)
  | [] => some []
  | i :: r => match prep1 n ops ec i with
    | some x => match prep n ops ec r with
      | some l => some (x :: l)
      | none => none
    | none => none

def Sub (h h' : Hp) : Prop := ∀ b o, h b = some o → h' b = some o
theorem Sub.refl (h : Hp) : Sub h h := fun _ _ x => x
theorem Sub.trans {a b c : Hp} (h : Sub a b) (k : Sub b c) : Sub a c := fun x o hx => k x o (h x o hx)
theorem Sub.upd {h : Hp} {b : Nat} {o : Obj} (hb : h b = none) : Sub h (upd h b o) := fun x o' hx => by
  simp only [Eng.upd]; split
  · subst_vars; rw [hb] at hx; cases hx
  · exact hx
def Disj (a b : Hp) : Prop := ∀ x, a x = none ∨ b x = none
def Fin (h : Hp) : Prop := ∃ N, ∀ b, N ≤ b → h b = none
theorem On.fin {w : World} {h : Hp} (o : On w h) : Fin h := ⟨w.heap.size, fun b hb => by rw [← o]; simp [hb]⟩
theorem Fin.upd {h : Hp} {b o} (f : Fin h) : Fin (upd h b o) := by
  obtain ⟨N, hN⟩ := f
  refine ⟨max N (b + 1), fun x hx => ?_⟩
  simp only [Eng.upd]
  rw [if_neg (by omega)]
  exact hN x (by omega)

/-- What becomes of an operation's run. -/
def Upon (P : Program) (w : World) (K : Value → Hp → Prop) : Result Next → Prop
  | .ok (.value v) w' => ∃ h', On w' h' ∧ Keep w w' ∧ K v h'
  | .ok .skip w' => ∃ h', On w' h' ∧ Keep w w' ∧ K undef h'
  | .ok (.enter f args) w' => ∃ h', On w' h' ∧ Keep w w' ∧ Ent P (Frame.enter P f args .normal) h' K
  | .ok (.round l f tmps a b) w' => ∃ h', On w' h' ∧ Keep w w' ∧ Ent P (Frame.round l f tmps a b .normal) h' K
  | _ => False

def Oth (P : Program) (e : Env) (o : Oper) (K : Value → Hp → Prop) (h : Hp) : Prop :=
  ∀ w, On w h → Upon P w K ((execOp (evalE e) o).run P w)
def Pur (P : Program) (e : Env) (o : Oper) (v : Value) : Prop := ∀ w, (execOp (evalE e) o).run P w = .ok (.value v) w
def Rd (P : Program) (e : Env) (o : Oper) (h : Hp) (v : Value) : Prop := ∀ w h2, Sub h h2 → On w h2 → (execOp (evalE e) o).run P w = .ok (.value v) w
def New (P : Program) (e : Env) (o : Oper) (ob : Obj) (f : Nat → Value) : Prop :=
  ∀ w : World, (execOp (evalE e) o).run P w = .ok (.value (f w.heap.size)) { w with heap := w.heap.push ob }
structure CallE (P : Program) (e : Env) (o : Oper) (h : Hp) (Q : Value → Hp → Prop) : Prop where
  call : ∀ w h2, Sub h h2 → On w h2 → Upon P w (fun v h' => ∃ m, Q v m ∧ Disj h2 m ∧ Sub h2 h' ∧ Sub m h') ((execOp (evalE e) o).run P w)

abbrev EK := Env → Hp → Prop
abbrev VK := Value → Hp → Prop

def aop1 (P : Program) (x : XO) (C : VK) (e : Env) (h : Hp) : Prop :=
  match x.cl with
  | .pure => ∃ v, Pur P e x.o v ∧ C v h
  | .read => ∃ v, Rd P e x.o h v ∧ C v h
  | .new => ∃ ob f, New P e x.o ob f ∧ ∀ b, h b = none → C (f b) (upd h b ob)
  | .callE => ∃ Q, CallE P e x.o h Q ∧ ∀ v m h', Q v m → Disj h m → Sub h h' → Sub m h' → Fin h' → C v h'
  | .other => Oth P e x.o C h

def gval : Value → Option Bool
  | .bool b => some b
  | _ => none

def aopv (P : Program) (x : XO) (C : VK) (e : Env) (h : Hp) : Prop :=
  match x.g with
  | none => aop1 P x C e h
  | some (s, want) => ∃ b, gval (e s) = b ∧ if b = some want then aop1 P x C e h else C undef h

def aop (P : Program) (x : XO) (K : EK) (e : Env) (h : Hp) : Prop := aopv P x (fun v h' => K (put e x.o.dst v) h') e h

def aops (P : Program) : List XO → EK → EK
  | [], K => K
  | x :: l, K => aop P x (aops P l K)

theorem Ent.mono' {P : Program} {fr : Frame} {h : Hp} {R R' : Value → Hp → Prop} (he : Ent P fr h R) (hr : ∀ v h', Fin h' → R v h' → R' v h') : Ent P fr h R' :=
  fun w hw c cs => let ⟨v, w', h', a, b, d, e⟩ := he w hw c cs; ⟨v, w', h', a, hr _ _ a.fin b, d, e⟩

theorem Upon.mono {P w r} {C C' : VK} (hk : ∀ v h, Fin h → C v h → C' v h) (this : Upon P w C r) : Upon P w C' r := by
  unfold Upon at *
  split at this
  · exact let ⟨h', a, b, c⟩ := this; ⟨h', a, b, hk _ _ a.fin c⟩
  · exact let ⟨h', a, b, c⟩ := this; ⟨h', a, b, hk _ _ a.fin c⟩
  · exact let ⟨h', a, b, c⟩ := this; ⟨h', a, b, c.mono' hk⟩
  · exact let ⟨h', a, b, c⟩ := this; ⟨h', a, b, c.mono' hk⟩
  · exact this.elim

theorem aop1_mono {P x e h} {C C' : VK} (hf : Fin h) (hk : ∀ v h, Fin h → C v h → C' v h) (ha : aop1 P x C e h) : aop1 P x C' e h := by
  unfold aop1 at *
  split at ha <;> rename_i hc <;> simp only [hc] at *
  · exact let ⟨v, a, b⟩ := ha; ⟨v, a, hk _ _ hf b⟩
  · exact let ⟨v, a, b⟩ := ha; ⟨v, a, hk _ _ hf b⟩
  · exact let ⟨o, f, a, b⟩ := ha; ⟨o, f, a, fun x hx => hk _ _ hf.upd (b x hx)⟩
  · exact let ⟨Q, a, b⟩ := ha; ⟨Q, a, fun v m h' q d s t u => hk _ _ u (b v m h' q d s t u)⟩
  · exact fun w hw => (ha w hw).mono hk

theorem aopv_mono {P x e h} {C C' : VK} (hf : Fin h) (hk : ∀ v h, Fin h → C v h → C' v h) (ha : aopv P x C e h) : aopv P x C' e h := by
  unfold aopv at *
  split at ha
  · exact aop1_mono hf hk ha
  · obtain ⟨b, hb, ha⟩ := ha
    refine ⟨b, hb, ?_⟩
    split at ha <;> rename_i hc
    · rw [if_pos hc]; exact aop1_mono hf hk ha
    · rw [if_neg hc]; exact hk _ _ hf ha

theorem aop_mono {P x e h} {K K' : EK} (hf : Fin h) (hk : ∀ v h, Fin h → K (put e x.o.dst v) h → K' (put e x.o.dst v) h) (ha : aop P x K e h) : aop P x K' e h :=
  aopv_mono hf hk ha

theorem aops_mono {P} {K K' : EK} (hk : ∀ e h, Fin h → K e h → K' e h) : ∀ {l e h}, Fin h → aops P l K e h → aops P l K' e h
  | [], _, _, hf, ha => hk _ _ hf ha
  | _ :: _, _, _, hf, ha => aop_mono hf (fun _ _ hf' => aops_mono hk hf') ha

section
variable {P : Program} {fn : FuncId} {ro : Option Nat} {n : Nat} {k : List Item} {D : List Nat} {e : Env} {h : Hp} {R : Value → Hp → Prop} {ops : Array Oper}

/-- An operation that comes to K's state, and on from there. -/
theorem Run.upon {i : Nat} {rest : List Nat} {o : Oper} (ho : ops[i]? = some o) (hd : dstOk n o.dst = true) (hok : okOp o.op = true)
    {tm w cs} (hsim : Sim n e tm) (hcs : ro.isSome → cs ≠ [])
    (hw : Region.wanted o (yielded ops tm) = true)
    (hu : Upon P w (fun v h' => Run P fn ro n (.inRegion ops rest :: k) D (put e o.dst v) h' R) ((execOp (evalE e) o).run P w)) :
    ∃ v w' h', On w' h' ∧ R v h' ∧ Keep w w' ∧ Ends P fn ro (lone (mk fn ro tm (.inRegion ops (i :: rest) :: k) (marks D)) cs w) cs v w' := by
  have hdef : notDefer o.op = true := by cases hop : o.op <;> simp [hop, okOp, notDefer] at *
  rw [← hsim.eval] at hu
  generalize hr : (execOp (evalT tm) o).run P w = r at hu
  unfold Upon at hu
  split at hu
  · obtain ⟨h', hon, hk, hrun⟩ := hu
    obtain ⟨v, w', h2, a, b, c, d⟩ := hrun _ _ cs (hsim.put hd) hon hcs
    exact ⟨v, w', h2, a, b, hk.trans c, .of_steps (.one (st_op_value ho hw hdef hr)) d⟩
  · obtain ⟨h', hon, hk, hrun⟩ := hu
    obtain ⟨v, w', h2, a, b, c, d⟩ := hrun _ _ cs (hsim.put hd) hon hcs
    exact ⟨v, w', h2, a, b, hk.trans c, .of_steps (.one (st_op_skip ho hw hdef hr)) d⟩
  · obtain ⟨h', hon, hk, hent⟩ := hu
    obtain ⟨u, w1, h1, hon1, hrun, hk1, hst⟩ := hent _ hon (mk fn ro tm (.inRegion ops (i :: rest) :: k) (marks D)) cs
    obtain ⟨v, w', h2, a, b, c, d⟩ := hrun _ _ cs (hsim.put (v := u) hd) hon1 hcs
    refine ⟨v, w', h2, a, b, hk.trans (hk1.trans c), .of_steps (.head (st_op_enter ho hw hdef hr) hst) ?_⟩
    rw [mk_finish, ho]; exact d
  · obtain ⟨h', hon, hk, hent⟩ := hu
    obtain ⟨u, w1, h1, hon1, hrun, hk1, hst⟩ := hent _ hon (mk fn ro tm (.inRegion ops (i :: rest) :: k) (marks D)) cs
    obtain ⟨v, w', h2, a, b, c, d⟩ := hrun _ _ cs (hsim.put (v := u) hd) hon1 hcs
    refine ⟨v, w', h2, a, b, hk.trans (hk1.trans c), .of_steps (.head (st_op_round ho hw hdef hr) hst) ?_⟩
    rw [mk_finish, ho]; exact d
  · exact hu.elim

theorem Upon.of_aop1 {x : XO} {C : VK} (ha : aop1 P x C e h) {w} (hw : On w h) : Upon P w C ((execOp (evalE e) x.o).run P w) := by
  unfold aop1 at ha
  split at ha
  · obtain ⟨v, a, b⟩ := ha; rw [a w]; exact ⟨h, hw, .refl w, b⟩
  · obtain ⟨v, a, b⟩ := ha; rw [a w h (.refl h) hw]; exact ⟨h, hw, .refl w, b⟩
  · obtain ⟨ob, f, a, b⟩ := ha; rw [a w]; exact ⟨_, hw.push ob, .push w ob, b _ hw.new⟩
  · obtain ⟨Q, ⟨a⟩, b⟩ := ha
    exact (a w h (.refl h) hw).mono fun v h' hf ⟨m, q, d, s, t⟩ => b v m h' q d s t hf
  · exact ha w hw

theorem gslot_spec {l : List Oper} {o : Oper} {g} (hg : gslot l o.guard = some g) {tm} (hl : ops.toList = l) {n e} (hs : Sim n e tm) (hn : gOk n g = true) :
    (g = none → Region.wanted o (yielded ops tm) = true) ∧
    (∀ s want, g = some (s, want) → ∀ b, gval (e s) = b → (Region.wanted o (yielded ops tm) = true ↔ b = some want)) := by
  unfold gslot at hg
  cases ho : o.guard with
  | none =>
    rw [ho] at hg; simp only [Option.some.injEq] at hg; subst hg
    exact ⟨fun _ => by simp [Region.wanted, ho], fun _ _ h => by cases h⟩
  | some jw =>
    obtain ⟨j, want⟩ := jw
    rw [ho] at hg
    simp only at hg
    cases hj : l[j]? with
    | none => rw [hj] at hg; cases hg
    | some oj =>
      rw [hj] at hg; simp only at hg
      cases hd : oj.dst with
      | none => rw [hd] at hg; cases hg
      | some d =>
        rw [hd] at hg; simp only [Option.some.injEq] at hg; subst hg
        refine ⟨fun h => (by cases h), fun s want' h b hb => ?_⟩
        simp only [Option.some.injEq, Prod.mk.injEq] at h
        obtain ⟨rfl, rfl⟩ := h
        have hops : ops[j]? = some oj := by rw [← hl] at hj; simpa using hj
        have hlt : d < tm.size := by rw [hs.size]; exact Nat.blt_eq.mp hn
        have hv := hs.val d
        have hy : tm[d]? = some (e d) := by
          rw [Array.getD_eq_getD_getElem?, Array.getElem?_eq_getElem hlt] at hv
          rw [Array.getElem?_eq_getElem hlt, ← hv]; rfl
        subst hb
        cases he : e d <;> simp [Region.wanted, ho, yielded, hops, hd, hy, he, gval]

theorem Run.of_aops : ∀ (idx : List Nat) (l : List XO) (ec : List Nat) (e : Env) (h : Hp), prep n ops.toList ec idx = some l →
    aops P l (fun e h => Run P fn ro n k D e h R) e h → Run P fn ro n (.inRegion ops idx :: k) D e h R := by
  intro idx
  induction idx with
  | nil => intro l ec e h hp ha; simp only [prep, Option.some.injEq] at hp; subst hp; exact Run.region_end ha
  | cons i rest ih =>
    intro l ec e h hp ha
    simp only [prep] at hp
    cases h1 : prep1 n ops.toList ec i with
    | none => rw [h1] at hp; cases hp
    | some x =>
      rw [h1] at hp; simp only at hp
      cases h2 : prep n ops.toList ec rest with
      | none => rw [h2] at hp; cases hp
      | some l' =>
        rw [h2] at hp; simp only [Option.some.injEq] at hp; subst hp
        simp only [aops] at ha
        -- the operation
        unfold prep1 at h1
        cases hoi : ops.toList[i]? with
        | none => rw [hoi] at h1; cases h1
        | some o =>
          rw [hoi] at h1; simp only at h1
          cases hg : gslot ops.toList o.guard with
          | none => rw [hg] at h1; cases h1
          | some g =>
            rw [hg] at h1; simp only at h1
            by_cases hcond : (dstOk n o.dst && okOp o.op && gOk n g) = true
            · rw [if_pos hcond] at h1
              rw [Bool.and_eq_true, Bool.and_eq_true] at hcond
              obtain ⟨⟨hd, hok⟩, hgn⟩ := hcond
              simp only [Option.some.injEq] at h1
              subst h1
              have ho : ops[i]? = some o := by simpa using hoi
              intro tm w cs hsim hon hcs
              obtain ⟨hs1, hs2⟩ := gslot_spec hg rfl hsim hgn
              have main : ∀ (hw : Region.wanted o (yielded ops tm) = true) (ha : aop1 P { o := o, g := g, cl := if ec.contains i then .callE else clsOf o.op } (fun v h' => aops P l' (fun e h => Run P fn ro n k D e h R) (Eng.put e o.dst v) h') e h),
                  ∃ v w' h', On w' h' ∧ R v h' ∧ Keep w w' ∧ Ends P fn ro (lone (mk fn ro tm (.inRegion ops (i :: rest) :: k) (marks D)) cs w) cs v w' := by
                intro hw ha
                have hu := Upon.of_aop1 ha hon
                refine Run.upon ho hd hok hsim hcs hw ?_
                exact hu.mono fun v h' _ q => ih _ _ _ _ h2 q
              unfold aop aopv at ha
              cases g with
              | none => exact main (hs1 rfl) ha
              | some sw =>
                obtain ⟨s, want⟩ := sw
                obtain ⟨b, hb, ha⟩ := ha
                by_cases hbw : b = some want
                · simp only [if_pos hbw] at ha
                  exact main ((hs2 s want rfl b hb).2 hbw) ha
                · simp only [if_neg hbw] at ha
                  have hnw : Region.wanted o (yielded ops tm) = false := by
                    cases hx : Region.wanted o (yielded ops tm) with
                    | false => rfl
                    | true => exact absurd ((hs2 s want rfl b hb).1 hx) hbw
                  obtain ⟨v, w', h', a1, a2, a3, a4⟩ := ih _ _ _ _ h2 ha _ _ cs (hsim.put (v := undef) hd) hon hcs
                  refine ⟨v, w', h', a1, a2, a3, .of_steps (.one (st_op_not (by rw [ho]; simpa using hnw))) ?_⟩
                  rw [ho]; exact a4
            · rw [if_neg hcond] at h1; cases h1
end
end Go.Eng
namespace Go.Eng
open Go

/-! ### Two operations change places -/
def otmps (o : Op) : List Nat := o.operands.toList.filterMap fun | .tmp t => some t | _ => none
def XO.looks (x : XO) : List Nat := (match x.g with | some (s, _) => [s] | none => []) ++ otmps x.o.op

def apart (a b : XO) : Bool :=
  (match a.o.dst with | some d => !(b.looks).contains d && b.o.dst != some d | none => true) &&
  (match b.o.dst with | some d => !(a.looks).contains d | none => true)

def swapCls : Cls → Cls → Bool
  | .pure, _ => true
  | .read, .read => true
  | .read, .pure => true
  | .read, .new => true
  | .read, .callE => true
  | .new, .new => true
  | _, _ => false

theorem put_comm {e : Env} {x y : Option Nat} {v u : Value} (h : ∀ d, x = some d → y ≠ some d) : put (put e x v) y u = put (put e y u) x v := by
  cases x with
  | none => rfl
  | some a =>
    cases y with
    | none => rfl
    | some b =>
      have hab : b ≠ a := fun hh => h a rfl (by rw [hh])
      funext t
      simp only [put]
      by_cases h1 : t = b
      · rw [if_pos h1, if_neg (by omega), if_pos h1]
      · rw [if_neg h1, if_neg h1]

section
variable {P : Program} {e : Env}

theorem aop1_congr {x : XO} {C : VK} {h : Hp} {e' : Env} (hx : execOp (evalE e) x.o = execOp (evalE e') x.o) : aop1 P x C e h = aop1 P x C e' h := by
  have hc : ∀ Q, CallE P e x.o h Q = CallE P e' x.o h Q := fun Q => propext ⟨fun k => ⟨by have := k.call; rwa [hx] at this⟩, fun k => ⟨by have := k.call; rwa [← hx] at this⟩⟩
  simp only [aop1, Pur, Rd, New, Oth, hx, hc]

theorem okOp_noSelect {o : Op} (h : okOp o = true) : ∀ cs b, o ≠ .select cs b := by
  intro cs b hh; subst hh; simp [okOp] at h

theorem exec_put {o : Oper} {d : Option Nat} {v : Value} (hok : okOp o.op = true) (hd : ∀ x, d = some x → x ∉ otmps o.op) : execOp (evalE (put e d v)) o = execOp (evalE e) o := by
  refine execOp_congr o (okOp_noSelect hok) fun x hx => ?_
  cases x with
  | tmp t =>
    cases d with
    | none => rfl
    | some d =>
      have : t ≠ d := by
        rintro rfl
        refine hd t rfl ?_
        simp only [otmps, List.mem_filterMap]
        exact ⟨.tmp t, by simpa using hx, rfl⟩
      simp [evalE, put, this]
  | _ => rfl

theorem aopv_put {x : XO} {C : VK} {h : Hp} {d : Option Nat} {v : Value} (hok : okOp x.o.op = true) (hd : ∀ t, d = some t → t ∉ x.looks) : aopv P x C (put e d v) h = aopv P x C e h := by
  have hex : execOp (evalE (put e d v)) x.o = execOp (evalE e) x.o := exec_put hok fun t ht hm => hd t ht (by simp [XO.looks, hm])
  unfold aopv
  cases hg : x.g with
  | none => exact aop1_congr hex
  | some sw =>
    obtain ⟨s, want⟩ := sw
    have hs : put e d v s = e s := by
      cases d with
      | none => rfl
      | some t =>
        have : s ≠ t := by rintro rfl; exact hd s rfl (by simp [XO.looks, hg])
        simp [put, this]
    simp only [hs]
    have := aop1_congr (P := P) (C := C) (h := h) hex
    simp only [this]

theorem New.unique {o : Oper} {ob ob' : Obj} {f f' : Nat → Value} (h : New P e o ob f) (h' : New P e o ob' f') : ob = ob' ∧ ∀ b, f b = f' b := by
  have key : ∀ b, ob = ob' ∧ f b = f' b := by
    intro b
    have h1 := h { (default : World) with heap := Array.replicate b default }
    rw [h' { (default : World) with heap := Array.replicate b default }] at h1
    simp only [Array.size_replicate, Result.ok.injEq, Next.value.injEq, World.mk.injEq] at h1
    refine ⟨?_, h1.1.symm⟩
    have := congrArg (fun a => a[b]?) h1.2.1
    simp only [Array.getElem?_push, Array.size_replicate, if_true] at this
    exact (Option.some.inj this).symm
  exact ⟨(key 0).1, fun b => (key b).2⟩

/-- at one environment -/
theorem swapv {a i : XO} {C : Value → VK} {h : Hp} (hf : Fin h) (hc : swapCls a.cl i.cl = true)
    (H : aopv P a (fun va h1 => aopv P i (C va) e h1) e h) : aopv P i (fun vi h1 => aopv P a (fun va h2 => C va vi h2) e h1) e h := by
  have pureCase : ∀ va, (∀ C' h', C' va h' → aopv P a C' e h') → aopv P i (C va) e h → aopv P i (fun vi h1 => aopv P a (fun va h2 => C va vi h2) e h1) e h := by
    intro va hva hi
    exact aopv_mono hf (fun vi h1 _ hx => hva _ _ hx) hi
  obtain ⟨ao, ag, acl⟩ := a
  obtain ⟨io, ig, icl⟩ := i
  -- the guard of a
  have mainA : ∀ (H : aop1 P ⟨ao, ag, acl⟩ (fun va h1 => aopv P ⟨io, ig, icl⟩ (C va) e h1) e h) (hA : ∀ C' h', aop1 P ⟨ao, ag, acl⟩ C' e h' → aopv P ⟨ao, ag, acl⟩ C' e h'),
      aopv P ⟨io, ig, icl⟩ (fun vi h1 => aopv P ⟨ao, ag, acl⟩ (fun va h2 => C va vi h2) e h1) e h := by
    intro H hA
    cases acl with
    | pure =>
      obtain ⟨va, hp, hi⟩ := H
      exact pureCase va (fun C' h' hx => hA _ _ ⟨va, hp, hx⟩) hi
    | callE => cases icl <;> simp [swapCls] at hc
    | other => cases icl <;> simp [swapCls] at hc
    | read =>
      obtain ⟨va, hr, hi⟩ := H
      have hrA : ∀ C' h', Sub h h' → C' va h' → aopv P ⟨ao, ag, .read⟩ C' e h' := fun C' h' hs hx => hA _ _ ⟨va, fun w h2 h3 h4 => hr w h2 (hs.trans h3) h4, hx⟩
      unfold aopv at hi ⊢
      have main : ∀ (hi : aop1 P ⟨io, ig, icl⟩ (C va) e h), aop1 P ⟨io, ig, icl⟩ (fun vi h1 => aopv P ⟨ao, ag, .read⟩ (fun va h2 => C va vi h2) e h1) e h := by
        intro hi
        cases icl with
        | read => obtain ⟨vi, hri, hx⟩ := hi; exact ⟨vi, hri, hrA _ _ (.refl h) hx⟩
        | new => obtain ⟨ob, f, hn, hx⟩ := hi; exact ⟨ob, f, hn, fun b hb => hrA _ _ (.upd hb) (hx b hb)⟩
        | callE => obtain ⟨Q, hq, hx⟩ := hi; exact ⟨Q, hq, fun v m h' q d s t u => hrA _ _ s (hx v m h' q d s t u)⟩
        | pure => obtain ⟨vi, hri, hx⟩ := hi; exact ⟨vi, hri, hrA _ _ (.refl h) hx⟩
        | other => simp [swapCls] at hc
      cases ig with
      | none => exact main hi
      | some sw =>
        obtain ⟨s, want⟩ := sw
        obtain ⟨b, hb, hi⟩ := hi
        refine ⟨b, hb, ?_⟩
        by_cases hbw : b = some want
        · rw [if_pos hbw] at hi ⊢; exact main hi
        · rw [if_neg hbw] at hi ⊢; exact hrA _ _ (.refl h) hi
    | new =>
      obtain ⟨ob, f, hn, hi⟩ := H
      have hnA : ∀ C' h', (∀ b, h' b = none → C' (f b) (upd h' b ob)) → aopv P ⟨ao, ag, .new⟩ C' e h' := fun C' h' hx => hA _ _ ⟨ob, f, hn, hx⟩
      obtain ⟨N, hN⟩ := hf
      have h0 := hi N (hN N (Nat.le_refl _))
      have hc' : icl = .new := by cases icl <;> simp [swapCls] at hc ⊢
      subst hc'
      have main : ∀ (h0 : aop1 P ⟨io, ig, .new⟩ (C (f N)) e (upd h N ob)) (hi : ∀ b, h b = none → aop1 P ⟨io, ig, .new⟩ (C (f b)) e (upd h b ob)),
          aop1 P ⟨io, ig, .new⟩ (fun vi h1 => aopv P ⟨ao, ag, .new⟩ (fun va h2 => C va vi h2) e h1) e h := by
        intro h0 hi
        obtain ⟨ob', f', hn', _⟩ := h0
        refine ⟨ob', f', hn', fun b hb => hnA _ _ fun b' hb' => ?_⟩
        have hbb : b' ≠ b := by rintro rfl; simp [upd] at hb'
        have hb'0 : h b' = none := by simpa [upd, hbb] using hb'
        obtain ⟨ob2, f2, hn2, hx2⟩ := hi b' hb'0
        obtain ⟨rfl, hff⟩ := hn'.unique hn2
        have e1 : upd (upd h b' ob) b ob' = upd (upd h b ob') b' ob := by
          funext x; simp only [upd]
          by_cases h1 : x = b
          · rw [if_pos h1, if_neg (by omega), if_pos h1]
          · rw [if_neg h1]
            by_cases h2 : x = b'
            · rw [if_pos h2, if_pos h2]
            · rw [if_neg h2, if_neg h2, if_neg h1]
        have hb1 : upd h b' ob b = none := by simp only [upd]; rw [if_neg (fun hh => hbb hh.symm)]; exact hb
        have := hx2 b hb1
        rw [e1, ← hff] at this
        exact this
      unfold aopv
      unfold aopv at h0 hi
      cases ig with
      | none => exact main h0 hi
      | some sw =>
        obtain ⟨s, want⟩ := sw
        obtain ⟨b, hb, h0⟩ := h0
        refine ⟨b, hb, ?_⟩
        by_cases hbw : b = some want
        · rw [if_pos hbw] at h0 ⊢
          refine main h0 fun b' hb' => ?_
          obtain ⟨b2, hb2, hx⟩ := hi b' hb'
          rw [hb] at hb2; cases hb2
          rw [if_pos hbw] at hx; exact hx
        · rw [if_neg hbw] at h0 ⊢
          refine hnA _ _ fun b' hb' => ?_
          obtain ⟨b2, hb2, hx⟩ := hi b' hb'
          rw [hb] at hb2; cases hb2
          rw [if_neg hbw] at hx; exact hx
  unfold aopv at H
  cases ag with
  | none => exact mainA H fun _ _ hx => hx
  | some sw =>
    obtain ⟨s, want⟩ := sw
    obtain ⟨b, hb, H⟩ := H
    by_cases hbw : b = some want
    · rw [if_pos hbw] at H
      exact mainA H fun C' h' hx => ⟨b, hb, by rw [if_pos hbw]; exact hx⟩
    · rw [if_neg hbw] at H
      exact pureCase undef (fun C' h' hx => ⟨b, hb, by rw [if_neg hbw]; exact hx⟩) H

theorem swap {a i : XO} {K : EK} {h : Hp} (hf : Fin h) (hc : swapCls a.cl i.cl = true) (hap : apart a i = true) (oka : okOp a.o.op = true) (oki : okOp i.o.op = true)
    (H : aop P a (aop P i K) e h) : aop P i (aop P a K) e h := by
  simp only [apart, Bool.and_eq_true] at hap
  obtain ⟨h1, h2⟩ := hap
  have ha1 : ∀ d, a.o.dst = some d → d ∉ i.looks ∧ i.o.dst ≠ some d := by
    intro d hd; rw [hd] at h1; simp only [Bool.and_eq_true, Bool.not_eq_true', bne_iff_ne, ne_eq] at h1
    exact ⟨by simpa using h1.1, h1.2⟩
  have hi1 : ∀ d, i.o.dst = some d → d ∉ a.looks := by
    intro d hd; rw [hd] at h2; simp only [Bool.not_eq_true'] at h2; simpa using h2
  have H1 : aopv P a (fun va h1 => aopv P i (fun vi h2 => K (put (put e a.o.dst va) i.o.dst vi) h2) e h1) e h := by
    refine aopv_mono hf (fun va h' _ hx => ?_) H
    unfold aop at hx
    rwa [aopv_put oki (fun t ht => (ha1 t ht).1)] at hx
  have H2 := swapv (C := fun va vi h2 => K (put (put e a.o.dst va) i.o.dst vi) h2) hf hc H1
  refine aopv_mono hf (fun vi h' _ hx => ?_) H2
  unfold aop
  rw [aopv_put oka (fun t ht => hi1 t ht)]
  refine aopv_mono (by assumption) (fun va h'' _ hy => ?_) hx
  rw [← put_comm (fun d hd => (ha1 d hd).2)]; exact hy

end

/-! ### Every order -/
/-- what an operation must come behind -/
def needs (ops : List Oper) (i : Nat) : List Nat :=
  match ops[i]? with | some o => (o.after.toList.filter (Region.binds .any)).map (·.on) | none => []

/-- all orders from a state on: done have been; rem are to come -/
def anyO (P : Program) (ops : List Oper) (X : Nat → XO) (K : EK) : Nat → List Nat → List Nat → EK
  | 0, _, _ => fun e h => K e h
  | f + 1, done, rem => fun e h => ((∀ i ∈ rem, ∃ j ∈ needs ops i, j ∉ done) → K e h) ∧ ∀ i, i ∈ rem → (∀ j ∈ needs ops i, j ∈ done) → aop P (X i) (anyO P ops X K f (i :: done) (rem.filter (· != i))) e h

section
variable {P : Program} {ops : List Oper} {X : Nat → XO} {K : EK}

theorem List.mem_of_mem_filter' {α} {p : α → Bool} {l : List α} {x : α} (h : x ∈ l.filter p) : x ∈ l := (List.mem_filter.1 h).1

theorem anyO_congr : ∀ {f done done' rem e h}, Fin h → (∀ x, x ∈ done ↔ x ∈ done') → anyO P ops X K f done rem e h → anyO P ops X K f done' rem e h := by
  intro f
  induction f with
  | zero => intro done done' rem e h _ _ H; exact H
  | succ f ih =>
    intro done done' rem e h hf hd H
    refine ⟨fun hh => H.1 fun i hi => (hh i hi).imp fun j hj => ⟨hj.1, fun hx => hj.2 ((hd j).1 hx)⟩, fun i hi hn => ?_⟩
    refine aop_mono hf (fun v h' hf' hx => ih hf' ?_ hx) (H.2 i hi fun j hj => (hd j).2 (hn j hj))
    intro x; simp [hd]

/-- later a i: by the edges, i comes behind a in every order -/
def Later (ops : List Oper) (a i : Nat) : Prop := ∀ done : List Nat, (∀ d ∈ done, ∀ j ∈ needs ops d, j ∈ done) → (∀ j ∈ needs ops i, j ∈ done) → a ∈ done

def okPair (X : Nat → XO) (a i : Nat) : Bool := swapCls (X a).cl (X i).cl && apart (X a) (X i) && okOp (X a).o.op && okOp (X i).o.op

theorem anyO_take {a : Nat} : ∀ {f done rem e h}, Fin h → (∀ d ∈ done, ∀ j ∈ needs ops d, j ∈ done) → a ∉ rem → a ∉ done → rem.Nodup → rem.length = f →
    (∀ i ∈ rem, Later ops a i ∨ okPair X a i = true) → (∀ j ∈ needs ops a, j ∈ done) →
    aop P (X a) (anyO P ops X K f (a :: done) rem) e h → ∀ rem', (∀ x, x ∈ rem' ↔ x = a ∨ x ∈ rem) → rem'.filter (· != a) = rem → anyO P ops X K (f + 1) done rem' e h := by
  intro f
  induction f with
  | zero =>
    intro done rem e h hf hcl har had hnod hlen hok hn H rem' hr' hrf
    have hrem : rem = [] := List.length_eq_zero_iff.1 hlen
    subst hrem
    refine ⟨fun h0 => (let ⟨j, hj, hjn⟩ := h0 a ((hr' a).2 (.inl rfl)); absurd (hn j hj) hjn), fun i hi hni => ?_⟩
    have : i = a := by simpa using (hr' i).1 hi
    subst this
    rw [hrf]; exact H
  | succ f ih =>
    intro done rem e h hf hcl har had hnod hlen hok hn H rem' hr' hrf
    refine ⟨fun h0 => (let ⟨j, hj, hjn⟩ := h0 a ((hr' a).2 (.inl rfl)); absurd (hn j hj) hjn), fun i hi hni => ?_⟩
    rcases (hr' i).1 hi with rfl | hir
    · rw [hrf]; exact H
    · have hia : i ≠ a := fun hh => har (hh ▸ hir)
      rcases hok i hir with hl | hp
      · exact absurd (hl done hcl hni) had
      · have H1 : aop P (X a) (aop P (X i) (anyO P ops X K f (i :: a :: done) (rem.filter (· != i)))) e h :=
          aop_mono hf (fun v h' _ hx => hx.2 i hir fun j hj => List.mem_cons_of_mem _ (hni j hj)) H
        simp only [okPair, Bool.and_eq_true] at hp
        have H2 := swap hf hp.1.1.1 hp.1.1.2 hp.1.2 hp.2 H1
        refine aop_mono hf (fun v h' hf' hx => ?_) H2
        -- rem' without i
        have hcount : (rem.filter (· != i)).length = f := by
          have h1 : rem.erase i = rem.filter (· != i) := hnod.erase_eq_filter i
          rw [← h1, List.length_erase_of_mem hir, hlen]; rfl
        refine ih (done := i :: done) (rem := rem.filter (· != i)) hf' ?_ ?_ ?_ (hnod.filter _) hcount ?_ ?_ (aop_mono hf' (fun v h'' hf'' hy => anyO_congr hf'' (fun x => by simp only [List.mem_cons]; constructor <;> rintro (h | h | h) <;> simp [h]) hy) hx) _ ?_ ?_
        · intro d hd j hj
          rcases List.mem_cons.1 hd with rfl | hd
          · exact List.mem_cons_of_mem _ (hni j hj)
          · exact List.mem_cons_of_mem _ (hcl d hd j hj)
        · intro hh; exact har (List.mem_of_mem_filter' hh)
        · intro hh; rcases List.mem_cons.1 hh with h1 | h1
          · exact hia h1.symm
          · exact had h1
        · intro x hx'; exact hok x (List.mem_of_mem_filter' hx')
        · intro j hj; exact List.mem_cons_of_mem _ (hn j hj)
        · intro x
          simp only [List.mem_filter, bne_iff_ne, ne_eq, hr']
          constructor
          · rintro ⟨rfl | hx1, hx2⟩
            · exact .inl rfl
            · exact .inr ⟨hx1, hx2⟩
          · rintro (rfl | ⟨hx1, hx2⟩)
            · exact ⟨.inl rfl, fun hh => hia hh.symm⟩
            · exact ⟨.inr hx1, hx2⟩
        · rw [← hrf, List.filter_filter, List.filter_filter]
          congr 1; funext x; exact Bool.and_comm _ _
end
end Go.Eng
namespace Go.Eng
open Go

instance : Inhabited XO := ⟨⟨default, none, .other⟩⟩

section
variable {P : Program} {fn : FuncId} {ro : Option Nat} {n : Nat} {k : List Item} {D : List Nat} {e : Env} {h : Hp} {R : Value → Hp → Prop} {ops : Array Oper}

theorem prep_get {ec : List Nat} : ∀ {idx : List Nat} {l : List XO} {j i : Nat}, prep n ops.toList ec idx = some l → idx[j]? = some i → ∃ x, l[j]? = some x ∧ prep1 n ops.toList ec i = some x := by
  intro idx
  induction idx with
  | nil => intro l j i _ hj; simp at hj
  | cons a r ih =>
    intro l j i hp hj
    simp only [prep] at hp
    cases h1 : prep1 n ops.toList ec a with
    | none => rw [h1] at hp; cases hp
    | some x =>
      rw [h1] at hp; simp only at hp
      cases h2 : prep n ops.toList ec r with
      | none => rw [h2] at hp; cases hp
      | some l' =>
        rw [h2] at hp; simp only [Option.some.injEq] at hp; subst hp
        cases j with
        | zero => simp at hj; subst hj; exact ⟨x, rfl, h1⟩
        | succ j => simp at hj; obtain ⟨y, hy, hp⟩ := ih h2 hj; exact ⟨y, by simpa using hy, hp⟩

/-- one operation of a region, whatever comes behind -/
theorem Run.one {i : Nat} {rest : List Nat} {ec : List Nat} {x : XO} (h1 : prep1 n ops.toList ec i = some x)
    (ha : aop P x (fun e h => Run P fn ro n (.inRegion ops rest :: k) D e h R) e h) : Run P fn ro n (.inRegion ops (i :: rest) :: k) D e h R := by
  unfold prep1 at h1
  cases hoi : ops.toList[i]? with
  | none => rw [hoi] at h1; cases h1
  | some o =>
    rw [hoi] at h1; simp only at h1
    cases hg : gslot ops.toList o.guard with
    | none => rw [hg] at h1; cases h1
    | some g =>
      rw [hg] at h1; simp only at h1
      by_cases hcond : (dstOk n o.dst && okOp o.op && gOk n g) = true
      · rw [if_pos hcond] at h1
        rw [Bool.and_eq_true, Bool.and_eq_true] at hcond
        obtain ⟨⟨hd, hok⟩, hgn⟩ := hcond
        simp only [Option.some.injEq] at h1
        subst h1
        have ho : ops[i]? = some o := by simpa using hoi
        intro tm w cs hsim hon hcs
        obtain ⟨hs1, hs2⟩ := gslot_spec hg rfl hsim hgn
        have main : ∀ (hw : Region.wanted o (yielded ops tm) = true) (ha : aop1 P { o := o, g := g, cl := if ec.contains i then .callE else clsOf o.op } (fun v h' => Run P fn ro n (.inRegion ops rest :: k) D (Eng.put e o.dst v) h' R) e h),
            ∃ v w' h', On w' h' ∧ R v h' ∧ Keep w w' ∧ Ends P fn ro (lone (mk fn ro tm (.inRegion ops (i :: rest) :: k) (marks D)) cs w) cs v w' :=
          fun hw ha => Run.upon ho hd hok hsim hcs hw (Upon.of_aop1 ha hon)
        unfold aop aopv at ha
        cases g with
        | none => exact main (hs1 rfl) ha
        | some sw =>
          obtain ⟨s, want⟩ := sw
          obtain ⟨b, hb, ha⟩ := ha
          by_cases hbw : b = some want
          · simp only [if_pos hbw] at ha
            exact main ((hs2 s want rfl b hb).2 hbw) ha
          · simp only [if_neg hbw] at ha
            have hnw : Region.wanted o (yielded ops tm) = false := by
              cases hx : Region.wanted o (yielded ops tm) with
              | false => rfl
              | true => exact absurd ((hs2 s want rfl b hb).1 hx) hbw
            obtain ⟨v, w', h', a1, a2, a3, a4⟩ := ha _ _ cs (hsim.put (v := undef) hd) hon hcs
            refine ⟨v, w', h', a1, a2, a3, .of_steps (.one (st_op_not (by rw [ho]; simpa using hnw))) ?_⟩
            rw [ho]; exact a4
      · rw [if_neg hcond] at h1; cases h1

theorem Run.linearise {ec : List Nat} {xs : List XO} (hp : prep n ops.toList ec (List.range ops.size) = some xs) :
    ∀ (fuel t : Nat) (listed : Array Bool) (done rem : List Nat) (e : Env) (h : Hp), listed.size = ops.size → Fin h →
      (∀ i, i < ops.size → (listed.getD i false = true ↔ i ∈ done)) → (∀ i, i ∈ rem ↔ (i < ops.size ∧ i ∉ done)) → (∀ d ∈ done, d < ops.size) →
      anyO P ops.toList (fun i => xs.getD i default) (fun e h => Run P fn ro n k D e h R) fuel done rem e h →
      Run P fn ro n (.inRegion ops (Region.linearise.go .any ops fuel t listed []) :: k) D e h R := by
  intro fuel
  induction fuel with
  | zero =>
    intro t listed done rem e h _ _ _ _ _ H
    simp only [Region.linearise.go]
    exact Run.region_end H
  | succ fuel ih =>
    intro t listed done rem e h hsz hf hl hrm hdl H
    have hready : ∀ i, i ∈ Region.ready .any ops listed ↔ (i ∈ rem ∧ ∀ j ∈ needs ops.toList i, j ∈ done) := by
      intro i
      rw [mem_ready, hrm]
      have hgt : ∀ j, j < ops.size → listed.getD j true = listed.getD j false := by
        intro j hj
        have : j < listed.size := by omega
        simp [Array.getD_eq_getD_getElem?, Array.getElem?_eq_getElem this]
      constructor
      · rintro ⟨h0, o, ho, hall⟩
        have hi : i < ops.size := (Array.getElem?_eq_some_iff.1 ho).1
        refine ⟨⟨hi, fun hd => ?_⟩, fun j hj => ?_⟩
        · rw [hgt i hi, (hl i hi).2 hd] at h0; cases h0
        · have hot : ops.toList[i]? = some o := by simpa using ho
          simp only [needs, hot, List.mem_map, List.mem_filter] at hj
          obtain ⟨ed, ⟨hed, hb⟩, rfl⟩ := hj
          have := hall ed (by simpa using hed) hb
          by_cases hlt : ed.on < ops.size
          · exact (hl _ hlt).1 this
          · have : listed.size ≤ ed.on := by omega
            simp [Array.getD_eq_getD_getElem?, Array.getElem?_eq_none this] at *
      · rintro ⟨⟨hi, hd⟩, hall⟩
        refine ⟨?_, ops[i], by simp [hi], fun ed hed hb => ?_⟩
        · rw [hgt i hi]
          cases hx : listed.getD i false with
          | false => rfl
          | true => exact absurd ((hl i hi).1 hx) hd
        · have hot : ops.toList[i]? = some ops[i] := by simp [hi]
          have : ed.on ∈ done := hall _ (by
            simp only [needs, hot, List.mem_map, List.mem_filter]
            exact ⟨ed, ⟨by simpa using hed, hb⟩, rfl⟩)
          exact (hl _ (hdl _ this)).2 this
    simp only [Region.linearise.go]
    change Run P fn ro n (.inRegion ops (match (Region.ready .any ops listed)[t % (Region.ready .any ops listed).length]? with
      | some i => Region.linearise.go .any ops fuel (t / (Region.ready .any ops listed).length) (listed.setIfInBounds i true) [i]
      | none => [].reverse) :: k) D e h R
    cases hi : (Region.ready .any ops listed)[t % (Region.ready .any ops listed).length]? with
    | none =>
      have hnil : Region.ready .any ops listed = [] := by
        cases hr : Region.ready .any ops listed with
        | nil => rfl
        | cons x xs =>
          rw [hr] at hi
          have hlt : t % (x :: xs).length < (x :: xs).length := Nat.mod_lt _ (by simp)
          simp at hi
          simp at hlt
          omega
      refine Run.region_end (H.1 fun i hir => ?_)
      have hn : ¬ (i ∈ rem ∧ ∀ j ∈ needs ops.toList i, j ∈ done) := by rw [← hready, hnil]; simp
      by_cases hex : ∃ j ∈ needs ops.toList i, j ∉ done
      · exact hex
      · exact absurd ⟨hir, fun j hj => Classical.byContradiction fun hh => hex ⟨j, hj, hh⟩⟩ hn
    | some i =>
      simp only []
      rw [linearise_go_acc, List.reverse_singleton, List.singleton_append]
      have hir := (hready i).1 (List.mem_of_getElem? hi)
      have hlt := ((hrm i).1 hir.1).1
      obtain ⟨x, hx, hp1⟩ := prep_get hp (j := i) (i := i) (by simp [hlt])
      refine Run.one hp1 ?_
      have hH := H.2 i hir.1 hir.2
      simp only [List.getD_eq_getElem?_getD, hx, Option.getD_some] at hH
      refine aop_mono hf (fun v h' hf' hx' => ?_) hH
      refine ih _ _ (i :: done) (rem.filter (· != i)) _ _ (by simp [hsz]) hf' ?_ ?_ ?_ (by simpa only [List.getD_eq_getElem?_getD] using hx')
      · intro j hj
        by_cases hij : i = j
        · subst hij; simp [hsz, hj]
        · rw [getD_set_ne false hij, hl j hj]; simp [Ne.symm hij]
      · intro j
        simp only [List.mem_filter, hrm, bne_iff_ne, ne_eq, List.mem_cons, not_or]
        constructor
        · rintro ⟨⟨a, b⟩, c⟩; exact ⟨a, c, b⟩
        · rintro ⟨a, c, b⟩; exact ⟨⟨a, b⟩, c⟩
      · intro d hd; rcases List.mem_cons.1 hd with rfl | hd
        · exact hlt
        · exact hdl d hd
end
end Go.Eng
namespace Go.Eng
open Go
section
variable {P : Program} {fn : FuncId} {ro : Option Nat} {n : Nat} {k : List Item} {D : List Nat} {e : Env} {h : Hp} {R : Value → Hp → Prop} {ops : Array Oper}
theorem Run.draw {id : Nat} {ec : List Nat} {xs : List XO} (hm : P.follows .mixedOrders = true) (hp : prep n ops.toList ec (List.range ops.size) = some xs)
    (H : Fin h → anyO P ops.toList (fun i => xs.getD i default) (fun e h => Run P fn ro n k D e h R) ops.size [] (List.range ops.size) e h) :
    Run P fn ro n (.code (.region id ops true) :: k) D e h R := by
  refine Run.region_draw fun t => ?_
  intro tm w cs hsim hon hcs
  have hf := hon.fin
  simp only [Region.schedule, hm, Bool.true_or, if_true, Region.linearise]
  exact Run.linearise hp ops.size t _ [] (List.range ops.size) e h (by simp) hf (fun i hi => by simp [hi]) (fun i => by simp) (by simp) (H hf) tm w cs hsim hon hcs
end
end Go.Eng
namespace Go.Eng
open Go

/-! ### Assertions -/
abbrev HProp := Hp → Prop
inductive HA where
  | pt (b : Nat) (o : Obj)
  | pred (A : HProp)
  | emp

def single (b : Nat) (o : Obj) : Hp := fun x => if x = b then some o else none
def HA.den : HA → HProp
  | .pt b o => fun m => m = single b o
  | .pred A => A
  | .emp => fun m => ∀ b, m b = none

def SatL : List HA → HProp
  | [] => fun m => ∀ b, m b = none
  | A :: L => fun m => ∃ m1 m2, A.den m1 ∧ SatL L m2 ∧ Disj m1 m2 ∧ ∀ b, m b = (m1 b).or (m2 b)

def Sat (R : Hp) (L : List HA) (h : Hp) : Prop := Fin h ∧ ∃ m, SatL L m ∧ Disj R m ∧ Sub R h ∧ Sub m h

theorem Disj.symm {a b : Hp} (d : Disj a b) : Disj b a := fun x => (d x).symm
theorem or_some {a b : Option Obj} {o} : a.or b = some o ↔ a = some o ∨ (a = none ∧ b = some o) := by cases a <;> simp
theorem or_none {a b : Option Obj} : a.or b = none ↔ a = none ∧ b = none := by cases a <;> simp

theorem disj_or {a m1 m2 m : Hp} (hm : ∀ b, m b = (m1 b).or (m2 b)) : Disj a m ↔ Disj a m1 ∧ Disj a m2 := by
  constructor
  · intro d
    refine ⟨fun x => ?_, fun x => ?_⟩
    · rcases d x with h | h
      · exact .inl h
      · rw [hm, or_none] at h; exact .inr h.1
    · rcases d x with h | h
      · exact .inl h
      · rw [hm, or_none] at h; exact .inr h.2
  · rintro ⟨d1, d2⟩ x
    rcases d1 x with h | h
    · exact .inl h
    · rcases d2 x with h' | h'
      · exact .inl h'
      · exact .inr (by rw [hm, or_none]; exact ⟨h, h'⟩)

theorem sub_or {m1 m2 m h : Hp} (hm : ∀ b, m b = (m1 b).or (m2 b)) (d : Disj m1 m2) : Sub m h ↔ Sub m1 h ∧ Sub m2 h := by
  constructor
  · intro s
    refine ⟨fun b o hb => s b o (by rw [hm, hb]; rfl), fun b o hb => s b o ?_⟩
    rw [hm, or_some]
    rcases d b with h1 | h1
    · exact .inr ⟨h1, hb⟩
    · rw [h1] at hb; cases hb
  · rintro ⟨s1, s2⟩ b o hb
    rw [hm, or_some] at hb
    rcases hb with hb | ⟨_, hb⟩
    · exact s1 b o hb
    · exact s2 b o hb

/-- take one out: any place -/
theorem SatL.take : ∀ {L : List HA} {i : Nat} {A : HA} {m : Hp}, L[i]? = some A → SatL L m →
    ∃ m1 m2, A.den m1 ∧ Disj m1 m2 ∧ (∀ b, m b = (m1 b).or (m2 b)) ∧
      ∀ A' m1', A'.den m1' → Disj m1' m2 → ∀ m', (∀ b, m' b = (m1' b).or (m2 b)) → SatL (L.set i A') m' := by
  intro L
  induction L with
  | nil => intro i A m h; simp at h
  | cons B L ih =>
    intro i A m hi hs
    obtain ⟨ma, mb, ha, hb, d, hm⟩ := hs
    cases i with
    | zero =>
      simp at hi; subst hi
      exact ⟨ma, mb, ha, d, hm, fun A' m1' h1 d1 m' hm' => ⟨m1', mb, h1, hb, d1, hm'⟩⟩
    | succ i =>
      simp at hi
      obtain ⟨m1, m2, h1, d1, hm1, hput⟩ := ih hi hb
      have d2 := (disj_or hm1).1 d
      refine ⟨m1, fun b => (ma b).or (m2 b), h1, ?_, ?_, ?_⟩
      · exact (disj_or (fun b => rfl)).2 ⟨d2.1.symm, d1⟩
      · intro b
        rw [hm, hm1]
        rcases d2.1 b with h | h <;> simp [h]
      · intro A' m1' h1' d1' m' hm'
        have dd := (disj_or (fun b => rfl)).1 d1'
        refine ⟨ma, fun b => (m1' b).or (m2 b), ha, hput A' m1' h1' dd.2 _ (fun b => rfl), ?_, ?_⟩
        · exact (disj_or (fun b => rfl)).2 ⟨dd.1.symm, d2.2⟩
        · intro b
          rw [hm']
          rcases dd.1 b with h | h <;> simp [h]

theorem SatL.append : ∀ {L1 L2 : List HA} {m : Hp}, SatL (L1 ++ L2) m ↔ ∃ m1 m2, SatL L1 m1 ∧ SatL L2 m2 ∧ Disj m1 m2 ∧ ∀ b, m b = (m1 b).or (m2 b) := by
  intro L1
  induction L1 with
  | nil =>
    intro L2 m
    constructor
    · intro h; exact ⟨fun _ => none, m, fun _ => rfl, h, fun _ => .inl rfl, fun b => by simp⟩
    · rintro ⟨m1, m2, h1, h2, _, hm⟩
      have : m = m2 := by funext b; rw [hm, h1 b]; simp
      rw [this]; exact h2
  | cons A L1 ih =>
    intro L2 m
    constructor
    · rintro ⟨ma, mb, ha, hb, d, hm⟩
      obtain ⟨m1, m2, h1, h2, d1, hm1⟩ := ih.1 hb
      have d2 := (disj_or hm1).1 d
      refine ⟨fun b => (ma b).or (m1 b), m2, ⟨ma, m1, ha, h1, d2.1, fun _ => rfl⟩, h2, ?_, ?_⟩
      · exact ((disj_or (fun b => rfl)).2 ⟨d2.2.symm, d1.symm⟩).symm
      · intro b; rw [hm, hm1]; simp [Option.or_assoc]
    · rintro ⟨m1, m2, ⟨ma, mb, ha, hb, d, hm⟩, h2, d1, hm1⟩
      have d2 := (disj_or hm).1 d1.symm
      refine ⟨ma, fun b => (mb b).or (m2 b), ha, ih.2 ⟨mb, m2, hb, h2, d2.2.symm, fun _ => rfl⟩, ?_, ?_⟩
      · exact (disj_or (fun b => rfl)).2 ⟨d, d2.1.symm⟩
      · intro b; rw [hm1, hm]; simp [Option.or_assoc]

theorem single_at (b : Nat) (o : Obj) : single b o b = some o := by simp [single]
theorem single_ne {b x : Nat} {o : Obj} (h : x ≠ b) : single b o x = none := by simp [single, h]

section
variable {R : Hp} {L : List HA} {h : Hp} {i b : Nat} {o : Obj}

theorem Sat.fin (s : Sat R L h) : Fin h := s.1
theorem Sat.sub (s : Sat R L h) : Sub R h := s.2.choose_spec.2.2.1

theorem Sat.get (s : Sat R L h) (hi : L[i]? = some (.pt b o)) : h b = some o := by
  obtain ⟨_, m, hL, d, sR, sm⟩ := s
  obtain ⟨m1, m2, h1, d1, hm, _⟩ := hL.take hi
  have h1 : m1 = single b o := h1
  exact sm b o (by rw [hm, h1, single_at]; rfl)

theorem Sat.set (s : Sat R L h) (hi : L[i]? = some (.pt b o)) (o' : Obj) : Sat R (L.set i (.pt b o')) (upd h b o') := by
  obtain ⟨hf, m, hL, d, sR, sm⟩ := s
  obtain ⟨m1, m2, h1, d1, hm, hput⟩ := hL.take hi
  have h1 : m1 = single b o := h1
  have hmb : m b = some o := by rw [hm, h1, single_at]; rfl
  have hRb : R b = none := by rcases d b with h | h; exact h; rw [hmb] at h; cases h
  have d1' : Disj (single b o') m2 := fun x => by
    by_cases hx : x = b
    · subst hx; rcases d1 x with h | h
      · rw [h1, single_at] at h; cases h
      · exact .inr h
    · exact .inl (single_ne hx)
  have hm2b : m2 b = none := by rcases d1' b with h | h; rw [single_at] at h; cases h; exact h
  refine ⟨hf.upd, fun x => (single b o' x).or (m2 x), hput (.pt b o') (single b o') rfl d1' _ (fun _ => rfl), ?_, ?_, ?_⟩
  · intro x
    by_cases hx : x = b
    · subst hx; exact .inl hRb
    · rcases d x with h | h
      · exact .inl h
      · rw [hm, or_none] at h; exact .inr (by simp [single_ne hx, h.2])
  · intro x o2 hx
    have hne : x ≠ b := fun hh => by rw [hh, hRb] at hx; cases hx
    simp only [upd]; rw [if_neg hne]; exact sR x o2 hx
  · intro x o2 hx
    rw [or_some] at hx
    by_cases hxb : x = b
    · subst hxb; simp only [single_at] at hx; simp only [upd, if_true]; rcases hx with hx | hx; exact hx; cases hx.1
    · simp only [upd]; rw [if_neg hxb]
      rcases hx with hx | hx
      · rw [single_ne hxb] at hx; cases hx
      · exact sm x o2 (by rw [hm, or_some]; exact .inr ⟨by rw [h1, single_ne hxb], hx.2⟩)

theorem Sat.push (s : Sat R L h) (hb : h b = none) (o : Obj) : Sat R (L ++ [.pt b o]) (upd h b o) := by
  obtain ⟨hf, m, hL, d, sR, sm⟩ := s
  have hmb : m b = none := by cases hx : m b with | none => rfl | some o' => rw [sm b o' hx] at hb; cases hb
  have hRb : R b = none := by cases hx : R b with | none => rfl | some o' => rw [sR b o' hx] at hb; cases hb
  have d1 : Disj m (single b o) := fun x => by
    by_cases hx : x = b
    · subst hx; exact .inl hmb
    · exact .inr (single_ne hx)
  refine ⟨hf.upd, fun x => (m x).or (single b o x), SatL.append.2 ⟨m, single b o, hL, ⟨single b o, fun _ => none, rfl, fun _ => rfl, fun _ => .inr rfl, fun x => by simp⟩, d1, fun _ => rfl⟩, ?_, ?_, ?_⟩
  · intro x
    by_cases hx : x = b
    · subst hx; exact .inl hRb
    · rcases d x with h | h
      · exact .inl h
      · exact .inr (by simp [h, single_ne hx])
  · exact fun x o' hx => Sub.upd hb x o' (sR x o' hx)
  · intro x o' hx
    rw [or_some] at hx
    rcases hx with hx | hx
    · exact Sub.upd hb x o' (sm x o' hx)
    · by_cases hxb : x = b
      · subst hxb; rw [single_at] at hx; simp only [upd, if_true]; exact hx.2
      · rw [single_ne hxb] at hx; cases hx.2
end
end Go.Eng
namespace Go.Eng
open Go

/-! ### What is known of the temporaries -/
inductive SV where
  | v (x : Value)
  | sb (b : Bool)
  | tt
  | ff
def SV.den : SV → Value
  | .v x => x
  | .sb b => .bool b
  | .tt => .bool true
  | .ff => .bool false
abbrev PE := List (Nat × SV)
def pget : PE → Nat → Option SV
  | [], _ => none
  | (k, s) :: r, t => if Nat.beq k t then some s else pget r t
def Ext (pe : PE) (e : Env) : Prop := ∀ t s, pget pe t = some s → e t = s.den
def pput (pe : PE) (d : Option Nat) (s : SV) : PE := match d with | some d => (d, s) :: pe | none => pe

theorem Ext.put {pe e d s} (h : Ext pe e) : Ext (pput pe d s) (put e d s.den) := by
  cases d with
  | none => exact h
  | some d =>
    intro t s' hs
    simp only [pput, pget] at hs
    simp only [Eng.put]
    split at hs
    · rename_i hk; cases hs; rw [if_pos (Nat.eq_of_beq_eq_true hk).symm]
    · rename_i hk
      have : t ≠ d := fun hh => hk (by rw [hh]; exact Nat.beq_refl d)
      rw [if_neg this]; exact h t s' hs

def opv (pe : PE) : Operand → Option SV
  | .tmp t => pget pe t
  | .const (.bool true) => some .tt
  | .const (.bool false) => some .ff
  | .const v => some (.v v)
  | .global g => some (.v (.pointer (some ⟨g, 0, none⟩)))
  | .func f => some (.v (.func (.func f) #[] #[]))

theorem opv_sound {pe e x s} (h : Ext pe e) (hs : opv pe x = some s) : evalE e x = s.den := by
  cases x with
  | tmp t => exact h t s hs
  | const v =>
    cases v with
    | bool b => cases b <;> (simp only [opv, Option.some.injEq] at hs; subst hs; rfl)
    | _ => simp only [opv, Option.some.injEq] at hs; subst hs; rfl
  | global g => simp only [opv, Option.some.injEq] at hs; subst hs; rfl
  | func f => simp only [opv, Option.some.injEq] at hs; subst hs; rfl

/-! ### Operations that need no word -/
def forceL {α β : Type} : List α → (List α → β) → β
  | [], k => k []
  | x :: xs, k => forceL xs fun ys => k (x :: ys)
theorem forceL_eq {α β : Type} (l : List α) (k : List α → β) : forceL l k = k l := by
  induction l generalizing k with
  | nil => rfl
  | cons x xs ih => simp only [forceL, ih]

def cmpI (op : BinOp) (x y : Int) : Option Bool :=
  match op with
  | .eql => some (decide (x = y))
  | .neq => some (!decide (x = y))
  | .lss => some (decide (x < y))
  | .leq => some (decide (x ≤ y))
  | .gtr => some (decide (y < x))
  | .geq => some (decide (y ≤ x))
  | _ => none

def isShift : BinOp → Bool | .shl => true | .shr => true | _ => false

def pbin (op : BinOp) (a b : SV) : Option SV :=
  match a, b with
  | .v (.int k x), .v (.int k' y) => if k = k' then (cmpI op x y).map .sb else none
  | .v (.pointer none), .v (.pointer none) => none
  | _, _ => none

/-- a pointer, slice, map against nil -/
def pnil (T : TT) (op : BinOp) (t : Nat) (a b : SV) : Option SV :=
  match tget T t with
  | some i =>
    match op with
    | .eql => match i.td, a, b with
      | .ptr _, .v (.pointer (some _)), .v (.pointer none) => some .ff
      | .ptr _, .v (.pointer none), .v (.pointer none) => some .tt
      | .slice _, .v (.slice (some _) _ _), .v (.slice none _ _) => some .ff
      | .slice _, .v (.slice none _ _), .v (.slice none _ _) => some .tt
      | .map _ _, .v (.map (some _)), .v (.map none) => some .ff
      | .map _ _, .v (.map none), .v (.map none) => some .tt
      | _, _, _ => none
    | .neq => match i.td, a, b with
      | .ptr _, .v (.pointer (some _)), .v (.pointer none) => some .tt
      | .ptr _, .v (.pointer none), .v (.pointer none) => some .ff
      | .slice _, .v (.slice (some _) _ _), .v (.slice none _ _) => some .tt
      | .slice _, .v (.slice none _ _), .v (.slice none _ _) => some .ff
      | .map _ _, .v (.map (some _)), .v (.map none) => some .tt
      | .map _ _, .v (.map none), .v (.map none) => some .ff
      | _, _, _ => none
    | _ => none
  | none => none

def notS : SV → Option SV
  | .tt => some .ff
  | .ff => some .tt
  | .sb b => some (.sb (!b))
  | .v (.bool b) => some (.sb (!b))
  | _ => none

def mapV (pe : PE) : List Operand → Option (List Value)
  | [] => some []
  | x :: r => match opv pe x with
    | some s => match mapV pe r with
      | some l => some (s.den :: l)
      | none => none
    | none => none

theorem mapV_sound {pe e} (h : Ext pe e) : ∀ {l vs}, mapV pe l = some vs → l.map (evalE e) = vs := by
  intro l
  induction l with
  | nil => intro vs hv; simp only [mapV, Option.some.injEq] at hv; subst hv; rfl
  | cons x r ih =>
    intro vs hv
    simp only [mapV] at hv
    cases ho : opv pe x with
    | none => rw [ho] at hv; cases hv
    | some s =>
      rw [ho] at hv; simp only at hv
      cases hr : mapV pe r with
      | none => rw [hr] at hv; cases hv
      | some l =>
        rw [hr] at hv; simp only [Option.some.injEq] at hv; subst hv
        simp [opv_sound h ho, ih hr]

/-- the parts of a struct, put in their places -/
def splice (cells : List Value) (off : Nat) (vc : List Value) : List Value := cells.take off ++ vc ++ cells.drop (off + vc.length)
def fillL (place : Nat → Option (Nat × Nat)) (cells : List Value) : List (Nat × Value) → Option (List Value)
  | [] => some cells
  | (i, v) :: r => match place i with
    | none => none
    | some (off, size) => if v.cells.toList.length = size then (if off + v.cells.toList.length ≤ cells.length then fillL place (splice cells off v.cells.toList) r else none) else none

def mapPV (pe : PE) : List (Nat × Operand) → Option (List (Nat × Value))
  | [] => some []
  | (i, x) :: r => match opv pe x with
    | some s => match mapPV pe r with
      | some l => some ((i, s.den) :: l)
      | none => none
    | none => none
theorem mapPV_sound {pe e} (h : Ext pe e) : ∀ {l vs}, mapPV pe l = some vs → l.map (fun p => (p.1, evalE e p.2)) = vs := by
  intro l
  induction l with
  | nil => intro vs hv; simp only [mapPV, Option.some.injEq] at hv; subst hv; rfl
  | cons x r ih =>
    obtain ⟨i, x⟩ := x
    intro vs hv
    simp only [mapPV] at hv
    cases ho : opv pe x with
    | none => rw [ho] at hv; cases hv
    | some s =>
      rw [ho] at hv; simp only at hv
      cases hr : mapPV pe r with
      | none => rw [hr] at hv; cases hv
      | some l =>
        rw [hr] at hv; simp only [Option.some.injEq] at hv; subst hv
        simp [opv_sound h ho, ih hr]

def placesS (T : TT) : List (Nat × Nat) → Option (List (Nat × Nat))
  | [] => some []
  | (t, off) :: r => match tget T t with
    | some i => match placesS T r with
      | some l => some ((off, i.size) :: l)
      | none => none
    | none => none

def pbuild (T : TT) (t : Nat) (ps : List (Nat × Value)) : Option (List Value) :=
  match tget T t with
  | some i => match i.td with
    | .struct fs => match placesS T fs with
      | some pl => fillL (fun j => pl[j]?) i.zero ps
      | none => none
    | .arr _ e => match tget T e with
      | some j => fillL (fun x => some (x * j.size, j.size)) i.zero ps
      | none => none
    | _ => none
  | none => none

def ppart (T : TT) (t : Nat) (cs : List Value) (off : Nat) : Option Value :=
  match tget T t with
  | some i => if i.known then (if i.agg then forceL ((cs.drop off).take i.size) fun l => some (.agg l.toArray) else cs[off]?) else none
  | none => none

def pstep (T : TT) (pe : PE) (o : Op) : Option SV :=
  match o with
  | .move x => opv pe x
  | .assign x => opv pe x
  | .pick c a b => match opv pe c with
    | some .tt => opv pe a
    | some .ff => opv pe b
    | _ => none
  | .unOp .not _ x => match opv pe x with
    | some s => notS s
    | none => none
  | .binOp op t x y _ => match opv pe x with
    | some a => match opv pe y with
      | some b => if isShift op then none else match pbin op a b with
        | some s => some s
        | none => pnil T op t a b
      | none => none
    | none => none
  | .nilCheck x => match opv pe x with
    | some (.v (.pointer (some a))) => some (.v (.pointer (some a)))
    | _ => none
  | .fieldAddr s x f => match opv pe x with
    | some (.v (.pointer (some ⟨b, o, none⟩))) => match tget T s with
      | some i => match i.td with
        | .struct fs => match fs[f]? with
          | some (ft, off) => match tget T ft with
            | some j => if Nat.beq j.size 0 then none else some (.v (.pointer (some ⟨b, o + off, none⟩)))
            | none => none
          | none => none
        | _ => none
      | none => none
    | _ => none
  | .extract x i => match opv pe x with
    | some (.v (.tuple vs)) => match vs.toList[i]? with
      | some u => some (.v u)
      | none => none
    | _ => none
  | .build t ps => match mapPV pe ps.toList with
    | some l => match pbuild T t l with
      | some cells => forceL cells fun cs => some (.v (.agg cs.toArray))
      | none => none
    | none => none
  | .field t x f => match opv pe x with
    | some (.v (.agg cs)) => match tget T t with
      | some i => match i.td with
        | .struct fs => match fs[f]? with
          | some (ft, off) => match ppart T ft cs.toList off with
            | some u => some (.v u)
            | none => none
          | none => none
        | _ => none
      | none => none
    | _ => none
  | .makeFunc fn first captured => match mapV pe first.toList with
    | some a => match mapV pe captured.toList with
      | some b => some (.v (.func fn a.toArray b.toArray))
      | none => none
    | none => none
  | .call c => match c.callee with
    | .builtin .len => match c.argTypes.toList with
      | t :: _ => match tget T t with
        | some i => match i.td with
          | .slice _ => match c.args.toList with
            | [x] => match opv pe x with
              | some (.v (.slice _ n _)) => some (.v (.int .i64 n))
              | _ => none
            | _ => none
          | .arr n _ => match c.args.toList with
            | [x] => match opv pe x with
              | some _ => some (.v (.int .i64 n))
              | _ => none
            | _ => none
          | _ => none
        | none => none
      | [] => none
    | _ => none
  | _ => none
end Go.Eng
namespace Go.Eng
open Go

theorem foldl_splice (off : Nat) : ∀ (vc : List Value) (j : Nat) (A B : List Value), A.length = off + j → vc.length ≤ B.length →
    (vc.zipIdx j).foldl (fun cs p => cs.setIfInBounds (off + p.2) p.1) (A ++ B).toArray = (A ++ vc ++ B.drop vc.length).toArray := by
  intro vc
  induction vc with
  | nil => intro j A B _ _; simp
  | cons v r ih =>
    intro j A B hA hle
    cases B with
    | nil => simp at hle
    | cons b B =>
      simp only [List.zipIdx_cons, List.foldl_cons]
      have h1 : (A ++ b :: B).toArray.setIfInBounds (off + j) v = ((A ++ [v]) ++ B).toArray := by
        rw [← hA]; simp
      rw [h1, ih (j + 1) (A ++ [v]) B (by simp [hA]; omega) (by simpa using hle)]
      simp

theorem fill_of (place place' : Nat → Option (Nat × Nat)) (hpl : ∀ i, place i = place' i) : ∀ (ps : List (Nat × Value)) (cells : List Value) (out : List Value), fillL place cells ps = some out → Instr.fill place' cells.toArray ps = some out.toArray := by
  intro ps
  induction ps with
  | nil => intro cells out h; simp only [fillL, Option.some.injEq] at h; subst h; rfl
  | cons p r ih =>
    obtain ⟨i, v⟩ := p
    intro cells out h
    simp only [fillL] at h
    simp only [Instr.fill, ← hpl]
    cases hp : place i with
    | none => rw [hp] at h; cases h
    | some q =>
      obtain ⟨off, size⟩ := q
      rw [hp] at h; simp only at h ⊢
      split at h
      · rename_i h1
        split at h
        · rename_i h2
          have hs : v.cells.size = size := by simpa using h1
          have hs2 : off + v.cells.size ≤ cells.length := by simpa using h2
          rw [if_neg (by simp [hs]; omega)]
          have he : v.cells.zipIdx.foldl (fun cs x => cs.setIfInBounds (off + x.2) x.1) cells.toArray = (splice cells off v.cells.toList).toArray := by
            have hf := foldl_splice off v.cells.toList 0 (cells.take off) (cells.drop off) (by simp; omega) (by simp; omega)
            rw [List.take_append_drop] at hf
            rw [← Array.foldl_toList, Array.toList_zipIdx, hf]
            simp [splice]
          have he' : (Array.foldl (fun cs x => match x with | (c, j) => cs.setIfInBounds (off + j) c) cells.toArray v.cells.zipIdx) = (splice cells off v.cells.toList).toArray := he
          rw [he']
          exact ih _ _ h
        · cases h
      · cases h

theorem placesS_ok {P : Program} {T : TT} (hT : TOk P T) : ∀ (fs : List Field) (pl : List (Nat × Nat)), placesS T (fs.map fun f => (f.type, f.offset)) = some pl →
    fs.mapM (fun f => (P.info? f.type).map fun i => (f.offset, i.size)) = some pl := by
  intro fs
  induction fs with
  | nil => intro pl h; simp only [List.map_nil, placesS, Option.some.injEq] at h; subst h; rfl
  | cons f r ih =>
    intro pl h
    simp only [List.map_cons, placesS] at h
    cases ht : tget T f.type with
    | none => rw [ht] at h; cases h
    | some i =>
      rw [ht] at h; simp only at h
      cases hr : placesS T (r.map fun f => (f.type, f.offset)) with
      | none => rw [hr] at h; cases h
      | some l =>
        rw [hr] at h; simp only [Option.some.injEq] at h; subst h
        obtain ⟨x, hx, h1, _⟩ := (tget_ok hT ht).info
        simp [List.mapM_cons, hx, ih l hr, h1]

theorem pbuild_ok {P : Program} {T : TT} (hT : TOk P T) {t ps cells} (h : pbuild T t ps = some cells) : P.built t ps = some cells.toArray := by
  unfold pbuild at h
  cases ht : tget T t with
  | none => rw [ht] at h; cases h
  | some i =>
    rw [ht] at h; simp only at h
    obtain ⟨x, hx, h1, h2, z, hz, hzz⟩ := (tget_ok hT ht).info
    obtain ⟨d, hd, hf⟩ := (tget_ok hT ht).desc
    have hzc : z.cells = i.zero.toArray := by rw [← hzz]
    cases htd : i.td with
    | struct fs =>
      rw [htd] at h hf; simp only at h
      obtain ⟨a, rfl, ha⟩ := hf
      cases hp : placesS T fs with
      | none => rw [hp] at h; cases h
      | some pl =>
        rw [hp] at h; simp only at h
        rw [← ha] at hp
        simp only [Program.built, hx, hd, hz, placesS_ok hT _ _ hp, hzc]
        exact fill_of _ _ (fun j => by simp) _ _ _ h
    | arr n e =>
      rw [htd] at h hf; simp only [TD.fits] at h hf
      subst hf
      cases he : tget T e with
      | none => rw [he] at h; cases h
      | some j =>
        rw [he] at h; simp only at h
        obtain ⟨y, hy, h3, _⟩ := (tget_ok hT he).info
        simp only [Program.built, hx, hd, hz, hy, hzc, h3]
        exact fill_of _ _ (fun j => rfl) _ _ _ h
    | _ => rw [htd] at h; cases h

section
variable {P : Program} {T : TT} {w : World}

theorem run_part {t cs off v} (hT : TOk P T) (h : ppart T t cs off = some v) : (part t cs.toArray off).run P w = .ok v w := by
  unfold ppart at h
  cases ht : tget T t with
  | none => rw [ht] at h; cases h
  | some i =>
    rw [ht] at h; simp only at h
    cases hk : i.known with
    | false => rw [hk] at h; simp at h
    | true =>
      rw [hk] at h; simp only [if_true] at h
      simp only [part, Sem.run_bind, run_isAgg' hT ht hk, Result.andThen]
      cases ha : i.agg with
      | true =>
        rw [ha] at h; simp only [if_true, forceL_eq, Option.some.injEq] at h; subst h
        simp [run_sizeOf' hT ht, Result.andThen, List.extract_eq_take_drop]
      | false =>
        rw [ha] at h; simp only [Bool.false_eq_true, if_false] at h ⊢
        simp only [List.getElem?_toArray, h]
        rfl
end
end Go.Eng
namespace Go.Eng
open Go

section
variable {P : Program} {T : TT} {e : Env} {pe : PE} {w : World}

theorem run_binop_int {op : BinOp} {t : TypeId} {k : IntKind} {x y : Operand} {a b : Int} : (do eqGuard op t x y (.int k a) (.int k b); binOp op t (.int k a) (.int k b) : Sem Value) = binOp op t (.int k a) (.int k b) := by
  unfold eqGuard
  cases op <;> simp

theorem pbin_sound {op : BinOp} {t x y a b s} (hsh : isShift op = false) (h : pbin op a b = some s) (w : World) :
    (do eqGuard op t x y a.den b.den; binOp op t a.den b.den : Sem Value).run P w = .ok s.den w := by
  unfold pbin at h
  split at h
  · rename_i k x' k' y'
    split at h
    · rename_i hk
      subst hk
      simp only [SV.den]
      rw [run_binop_int]
      cases op <;> simp only [cmpI, Option.map_some, Option.map_none, Option.some.injEq, reduceCtorEq] at h <;> first
        | (subst h; simp [binOp, Op.intCmp, SV.den]; done)
        | (subst h; simp [binOp, Op.intCmp, SV.den]; by_cases hh : x' = y' <;> simp [hh]; done)
    · cases h
  · cases h
  · cases h

theorem pnil_sound (hT : TOk P T) {op : BinOp} {t x y a b s} (h : pnil T op t a b = some s) (w : World) :
    (do eqGuard op t x y a.den b.den; binOp op t a.den b.den : Sem Value).run P w = .ok s.den w := by
  unfold pnil at h
  split at h
  · rename_i i hi
    obtain ⟨d, hu, hfit⟩ := (tget_ok hT hi).desc
    have close : ∀ (A B : Value) (r : Bool), (∀ n, (Op.equalIn (n + 1) t A B).run P w = .ok r w) → (∀ op, eqGuard op t x y A B = pure ()) →
        (∀ op, op = .eql → binOp op t A B = (do pure (.bool (← Op.equal t A B)))) → (∀ op, op = .neq → binOp op t A B = (do pure (.bool (!(← Op.equal t A B))))) →
        (do eqGuard .eql t x y A B; binOp .eql t A B : Sem Value).run P w = .ok (.bool r) w ∧ (do eqGuard .neq t x y A B; binOp .neq t A B : Sem Value).run P w = .ok (.bool (!r)) w := by
      intro A B r h1 h2 h3 h4
      have h5 : (Op.equal t A B).run P w = .ok r w := h1 9999
      rw [h2, h2, h3 _ rfl, h4 _ rfl]
      simp only [Sem.run_bind, Sem.run_pure, Result.andThen, h5]
      exact ⟨trivial, trivial⟩
    have closeN : ∀ (A B : Value) (r : Bool), (∀ n, (Op.equalIn (n + 1) t A B).run P w = .ok (!r) w) → (∀ op, eqGuard op t x y A B = pure ()) →
        (∀ op, op = .eql → binOp op t A B = (do pure (.bool (← Op.equal t A B)))) → (∀ op, op = .neq → binOp op t A B = (do pure (.bool (!(← Op.equal t A B))))) →
        (do eqGuard .neq t x y A B; binOp .neq t A B : Sem Value).run P w = .ok (.bool r) w := by
      intro A B r h1 h2 h3 h4
      have := (close A B (!r) h1 h2 h3 h4).2
      rwa [Bool.not_not] at this
    have g : ∀ (A B : Value), (match A, B with | .nilIface, .nilIface => False | .agg _, .agg _ => False | _, _ => True) → ∀ op, eqGuard op t x y A B = pure () := by
      intro A B hAB op
      cases op <;> simp only [eqGuard] <;> first
        | rfl
        | (cases A <;> cases B <;> first | rfl | exact hAB.elim)
    split at h
    · split at h <;> first
        | (cases h; done)
        | (rename_i htd; rw [htd] at hfit; simp only [TD.fits] at hfit; subst hfit
           simp only [Option.some.injEq] at h; subst h
           refine And.left (close _ _ _ ?_ (g _ _ ?_) ?_ ?_)
           · intro n; simp [Op.equalIn, run_underlying hu, SV.den]
           · trivial
           · intro op ho; subst ho; rfl
           · intro op ho; subst ho; rfl)
    · split at h <;> first
        | (cases h; done)
        | (rename_i htd; rw [htd] at hfit; simp only [TD.fits] at hfit; subst hfit
           simp only [Option.some.injEq] at h; subst h
           refine closeN _ _ _ ?_ (g _ _ ?_) ?_ ?_
           · intro n; simp [Op.equalIn, run_underlying hu, SV.den]
           · trivial
           · intro op ho; subst ho; rfl
           · intro op ho; subst ho; rfl)
    · cases h
  · cases h

theorem Pur.def {o : Oper} {v : Value} : Pur P e o v ↔ ∀ w, (execOp (evalE e) o).run P w = .ok (.value v) w := Iff.rfl

theorem pstep_sound (hT : TOk P T) (hx : Ext pe e) {o : Oper} {s : SV} (h : pstep T pe o.op = some s) : Pur P e o s.den := by
  intro w
  obtain ⟨dst, op, ty, ps, af, gd⟩ := o
  simp only at h
  unfold pstep at h
  split at h
  · -- move
    simp [execOp, opv_sound hx h]
  · simp [execOp, opv_sound hx h]
  · -- pick
    rename_i c a b
    split at h
    · rename_i hc; simp [execOp, opv_sound hx hc, SV.den, asBool, opv_sound hx h]
    · rename_i hc; simp [execOp, opv_sound hx hc, SV.den, asBool, opv_sound hx h]
    · cases h
  · -- not
    rename_i t x
    split at h
    · rename_i a ha
      unfold notS at h
      split at h <;> first
        | (simp only [Option.some.injEq] at h; subst h; simp [execOp, opv_sound hx ha, SV.den, Op.unary]; done)
        | (cases h; done)
    · cases h
  · -- binOp
    rename_i op t x y yt
    split at h
    · rename_i a ha
      split at h
      · rename_i b hb
        split at h
        · cases h
        · rename_i hsh
          have hrun : (do eqGuard op t x y a.den b.den; binOp op t a.den b.den : Sem Value).run P w = .ok s.den w := by
            split at h
            · rename_i s' hp; cases h
              exact pbin_sound (P := P) (t := t) (x := x) (y := y) (by simpa using hsh) hp w
            · exact pnil_sound hT h w
          simp only [Sem.run_bind] at hrun
          simp only [execOp, opv_sound hx ha, opv_sound hx hb, Sem.run_bind]
          simp [hrun]
      · cases h
    · cases h
  · -- nilCheck
    rename_i x
    split at h
    · rename_i a ha; simp only [Option.some.injEq] at h; subst h; simp [execOp, opv_sound hx ha, SV.den]
    · cases h
  · -- fieldAddr
    rename_i s' x f
    split at h
    · rename_i b o ha
      split at h
      · rename_i i hi
        split at h
        · rename_i fs hfs
          split at h
          · rename_i ft off hf
            split at h
            · rename_i j hj
              split at h
              · cases h
              · rename_i hz
                simp only [Option.some.injEq] at h; subst h
                obtain ⟨d, hd, hfit⟩ := run_underlying' (w := w) hT hi
                rw [hfs] at hfit
                obtain ⟨arr, rfl, harr⟩ := hfit
                rw [← harr] at hf
                simp only [List.getElem?_map, Option.map_eq_some_iff] at hf
                obtain ⟨fd, hfd, hfe⟩ := hf
                simp only [Prod.mk.injEq] at hfe
                obtain ⟨rfl, rfl⟩ := hfe
                have hz' : j.size ≠ 0 := by intro hh; exact hz (by rw [hh]; rfl)
                have hfd' : arr[f]? = some fd := by simpa using hfd
                simp [execOp, opv_sound hx ha, SV.den, Instr.fieldAt, hd, hfd', Instr.sureAddr, fieldPlace, run_sizeOf' hT hj, hz', Addr.add]
            · cases h
          · cases h
        · cases h
      · cases h
    · cases h
  · -- extract
    rename_i x i
    split at h
    · rename_i vs ha
      split at h
      · rename_i u hu; simp only [Option.some.injEq] at h; subst h
        have hu' : vs[i]? = some u := by simpa using hu
        simp [execOp, opv_sound hx ha, SV.den, Instr.extract, hu']
      · cases h
    · cases h
  · -- build
    rename_i t ps
    split at h
    · rename_i l hl
      split at h
      · rename_i cells hc
        rw [forceL_eq] at h; simp only [Option.some.injEq] at h; subst h
        have hp := mapPV_sound hx hl
        have hb := pbuild_ok hT hc
        simp only [execOp, Sem.run_bind, SV.den]
        rw [run_build (P := P) w t (ps.map fun p => (p.1, evalE e p.2)) cells.toArray (by simpa [hp] using hb)]
        rfl
      · cases h
    · cases h
  · -- field
    rename_i t x f
    split at h
    · rename_i cs ha
      split at h
      · rename_i i hi
        split at h
        · rename_i fs hfs
          split at h
          · rename_i ft off hf
            split at h
            · rename_i u hu
              simp only [Option.some.injEq] at h; subst h
              obtain ⟨d, hd, hfit⟩ := run_underlying' (w := w) hT hi
              rw [hfs] at hfit
              obtain ⟨arr, rfl, harr⟩ := hfit
              rw [← harr] at hf
              simp only [List.getElem?_map, Option.map_eq_some_iff] at hf
              obtain ⟨fd, hfd, hfe⟩ := hf
              simp only [Prod.mk.injEq] at hfe
              obtain ⟨rfl, rfl⟩ := hfe
              have hfd' : arr[f]? = some fd := by simpa using hfd
              have hpt := run_part (w := w) hT hu
              have hcs : cs.toList.toArray = cs := by simp
              rw [hcs] at hpt
              simp [execOp, opv_sound hx ha, SV.den, Instr.field, hd, hfd', asAgg, hpt]
            · cases h
          · cases h
        · cases h
      · cases h
    · cases h
  · -- makeFunc
    rename_i fn first captured
    split at h
    · rename_i a ha
      split at h
      · rename_i b hb
        simp only [Option.some.injEq] at h; subst h
        have h1 := mapV_sound hx ha
        have h2 := mapV_sound hx hb
        have h1' : first.map (evalE e) = a.toArray := by apply Array.ext'; simpa using h1
        have h2' : captured.map (evalE e) = b.toArray := by apply Array.ext'; simpa using h2
        simp [execOp, Instr.makeFunc, h1', h2', SV.den]
      · cases h
    · cases h
  · -- len
    rename_i c
    split at h
    · rename_i hcal
      split at h
      · rename_i t tr hat
        split at h
        · rename_i i hi
          obtain ⟨d, hd, hfit⟩ := run_underlying' (w := w) hT hi
          have hat' : c.argTypes[0]? = some t := by rw [← Array.getElem?_toList, hat]; rfl
          split at h
          · rename_i el htd
            rw [htd] at hfit
            split at h
            · rename_i x hargs
              split at h
              · rename_i a nn cc hx2
                simp only [Option.some.injEq] at h; subst h
                have hargs' : c.args = #[x] := by apply Array.ext'; simpa using hargs
                subst hfit
                simp [execOp, resolve, hcal, invoke, builtin, Builtin.len_, hat', hargs', opv_sound hx hx2, SV.den, hd, goInt]
              · cases h
            · cases h
          · rename_i nn el htd
            rw [htd] at hfit
            split at h
            · rename_i x hargs
              split at h
              · rename_i a hx2
                simp only [Option.some.injEq] at h; subst h
                have hargs' : c.args = #[x] := by apply Array.ext'; simpa using hargs
                subst hfit
                simp [execOp, resolve, hcal, invoke, builtin, Builtin.len_, hat', hargs', opv_sound hx hx2, SV.den, hd, goInt]
              · cases h
            · cases h
          · cases h
        · cases h
      · cases h
    · cases h
  · cases h
end
end Go.Eng
namespace Go.Eng
open Go

/-! ### The walk by reckoning -/
inductive Stop where
  | op (x : XO) (l : List XO) (k : List Item) (pe : PE)
  | guard (s : Nat) (b : Bool) (want : Bool) (x : XO) (l : List XO) (k : List Item) (pe : PE)
  | cond (b : Bool) (c : Operand) (x y : Code) (k : List Item) (pe : PE)
  | loop (b : Code) (k : List Item) (pe : PE)
  | inLoop (b : Code) (k : List Item) (pe : PE)
  | draw (id : Nat) (ops : Array Oper) (k : List Item) (pe : PE)
  | range (f : Operand) (ps : Array Nat) (a b : Code) (k : List Item) (pe : PE)
  | beginRound (k : List Item) (pe : PE)
  | ret (k : List Item) (pe : PE)
  | exitOut (id : Nat) (k : List Item) (pe : PE)
  | fin (pe : PE)
  | bad

def okCls : Cls → Bool
  | .pure => true
  | .read => true
  | .other => true
  | _ => false

def adv (n : Nat) (T : TT) : Nat → List XO → List Item → PE → Stop
  | 0, _, _, _ => .bad
  | f + 1, x :: l, k, pe =>
    match x.g with
    | none =>
      if okCls x.cl then
        match pstep T pe x.o.op with
        | some s => adv n T f l k (pput pe x.o.dst s)
        | none => .op x l k pe
      else .op x l k pe
    | some (s, want) =>
      match pget pe s with
      | some .tt => if want then adv n T f (⟨x.o, none, x.cl⟩ :: l) k pe else adv n T f l k (pput pe x.o.dst (.v undef))
      | some .ff => if want then adv n T f l k (pput pe x.o.dst (.v undef)) else adv n T f (⟨x.o, none, x.cl⟩ :: l) k pe
      | some (.sb b) => .guard s b want x l k pe
      | some (.v (.bool b)) => .guard s b want x l k pe
      | some (.v (.tuple _)) => adv n T f l k (pput pe x.o.dst (.v undef))
      | _ => .bad
  | f + 1, [], .code c :: k, pe =>
    match c with
    | .skip => adv n T f [] k pe
    | .label _ => adv n T f [] k pe
    | .seq a b => adv n T f [] (.code a :: .code b :: k) pe
    | .block id b => adv n T f [] (.code b :: .inBlock id :: k) pe
    | .scope b => adv n T f [] (.code b :: .inScope b :: k) pe
    | .exit id => match exitTo id k with
      | some k' => adv n T f [] k' pe
      | none => .exitOut id k pe
    | .region id ops false => match prep n ops.toList [] (List.range ops.size) with
      | some l => adv n T f l k pe
      | none => .bad
    | .region id ops true => .draw id ops k pe
    | .cond c a b => match opv pe c with
      | some .tt => adv n T f [] (.code a :: k) pe
      | some .ff => adv n T f [] (.code b :: k) pe
      | some (.sb t) => .cond t c a b k pe
      | some (.v (.bool t)) => .cond t c a b k pe
      | _ => .bad
    | .loop b => .loop b k pe
    | .rangeFunc fv ps a b => .range fv ps a b k pe
    | .ret => .ret k pe
    | _ => .bad
  | f + 1, [], .inBlock _ :: k, pe => adv n T f [] k pe
  | f + 1, [], .inScope _ :: k, pe => adv n T f [] k pe
  | _ + 1, [], .inLoop b :: k, pe => .inLoop b k pe
  | _ + 1, [], .beginRound :: k, pe => .beginRound k pe
  | _ + 1, [], _ :: _, _ => .bad
  | _ + 1, [], [], pe => .fin pe

/-- what holds for a whole function's walk -/
structure Cx where
  P : Program
  T : TT
  fn : FuncId
  ro : Option Nat
  n : Nat
  R : Value → Hp → Prop
  hT : TOk P T
  hM : P.follows .mixedOrders = true

def marksH (D : List Nat) : HA := .pred fun m => D.Nodup ∧ ∀ b, m b = if b ∈ D then some (.deferred (some [])) else none

/-- THE WALK's GOAL: from the operations l, then the items k, with the temporaries pe, and memory L (beside R, which stays). -/
def Y (c : Cx) (R : Hp) (l : List XO) (k : List Item) (pe : PE) (L : List HA) : Prop :=
  ∀ D e h, Ext pe e → Sat R (marksH D :: L) h → aops c.P l (fun e h => Run c.P c.fn c.ro c.n k D e h c.R) e h

def YS (c : Cx) (R : Hp) (L : List HA) : Stop → Prop
  | .op x l k pe => Y c R (⟨x.o, none, x.cl⟩ :: l) k pe L
  | .guard _ _ _ x l k pe => Y c R (x :: l) k pe L
  | .cond _ o x y k pe => Y c R [] (.code (.cond o x y) :: k) pe L
  | .loop b k pe => Y c R [] (.code (.loop b) :: k) pe L
  | .inLoop b k pe => Y c R [] (.inLoop b :: k) pe L
  | .draw id ops k pe => Y c R [] (.code (.region id ops true) :: k) pe L
  | .range f ps a b k pe => Y c R [] (.code (.rangeFunc f ps a b) :: k) pe L
  | .beginRound k pe => Y c R [] (.beginRound :: k) pe L
  | .ret k pe => Y c R [] (.code .ret :: k) pe L
  | .exitOut id k pe => Y c R [] (.code (.exit id) :: k) pe L
  | .fin pe => Y c R [] [] pe L
  | .bad => False

section
variable {c : Cx} {R : Hp} {L : List HA} {l : List XO} {k : List Item} {pe : PE}

theorem aop1_of_pur {P x e v} {C : VK} {h : Hp} (hc : okCls x.cl = true) (hp : Pur P e x.o v) (hC : C v h) : aop1 P x C e h := by
  unfold aop1
  cases hx : x.cl <;> rw [hx] at hc <;> first
    | (cases hc; done)
    | exact ⟨v, hp, hC⟩
    | exact ⟨v, fun w _ _ _ => hp w, hC⟩
    | exact fun w hw => by rw [hp w]; exact ⟨h, hw, .refl w, hC⟩

theorem Y.pure {x : XO} {s : SV} (hg : x.g = none) (hc : okCls x.cl = true) (hp : pstep c.T pe x.o.op = some s) (H : Y c R l k (pput pe x.o.dst s) L) : Y c R (x :: l) k pe L := by
  intro D e h hx hs
  show aopv _ _ _ _ _
  unfold aopv
  rw [hg]
  exact aop1_of_pur hc (pstep_sound c.hT hx hp) (H D _ h hx.put hs)

theorem Y.code {i i' : List Item} (H : Y c R [] i' pe L) (hs : ∀ D e h, Ext pe e → Run c.P c.fn c.ro c.n i' D e h c.R → Run c.P c.fn c.ro c.n i D e h c.R) : Y c R [] i pe L :=
  fun D e h hx hsat => hs D e h hx (H D e h hx hsat)

theorem Y.region {id ops lx} (hp : prep c.n ops.toList [] (List.range ops.size) = some lx) (H : Y c R lx k pe L) : Y c R [] (.code (.region id ops false) :: k) pe L :=
  fun D e h hx hsat => Run.region (Run.of_aops _ _ _ _ _ hp (H D e h hx hsat))

theorem adv_sound : ∀ (f : Nat) (l : List XO) (k : List Item) (pe : PE), YS c R L (adv c.n c.T f l k pe) → Y c R l k pe L := by
  intro f
  induction f with
  | zero => intro l k pe h; exact h.elim
  | succ f ih =>
    intro l k pe h
    cases l with
    | cons x l =>
      simp only [adv] at h
      cases hg : x.g with
      | none =>
        rw [hg] at h; simp only at h
        have hxe : (⟨x.o, none, x.cl⟩ : XO) = x := by rw [← hg]
        split at h
        · rename_i hc
          cases hp : pstep c.T pe x.o.op with
          | none => rw [hp] at h; simp only [YS] at h; rwa [hxe] at h
          | some s => rw [hp] at h; exact Y.pure hg hc hp (ih _ _ _ h)
        · simp only [YS] at h; rwa [hxe] at h
      | some sw =>
        obtain ⟨s, want⟩ := sw
        rw [hg] at h; simp only at h
        have run : ∀ b, pget pe s = some b → b.den = .bool want → Y c R (⟨x.o, none, x.cl⟩ :: l) k pe L → Y c R (x :: l) k pe L := by
          intro b hb hbd H D e h' hx hs
          have := H D e h' hx hs
          show aopv _ _ _ _ _
          unfold aopv
          rw [hg]
          exact ⟨some want, by rw [hx s b hb, hbd]; rfl, by rw [if_pos rfl]; exact this⟩
        have skip : ∀ b, pget pe s = some b → b.den = .bool (!want) → Y c R l k (pput pe x.o.dst (.v undef)) L → Y c R (x :: l) k pe L := by
          intro b hb hbd H D e h' hx hs
          have := H D _ h' (hx.put (d := x.o.dst) (s := .v undef)) hs
          show aopv _ _ _ _ _
          unfold aopv
          rw [hg]
          exact ⟨some (!want), by rw [hx s b hb, hbd]; rfl, by rw [if_neg (by cases want <;> simp)]; exact this⟩
        split at h
        · rename_i hb
          cases want with
          | true => exact run _ hb rfl (ih _ _ _ h)
          | false => exact skip _ hb rfl (ih _ _ _ h)
        · rename_i hb
          cases want with
          | true => exact skip _ hb rfl (ih _ _ _ h)
          | false => exact run _ hb rfl (ih _ _ _ h)
        · exact h
        · exact h
        · rename_i a hb
          intro D e h' hx hs
          have := (ih _ _ _ h) D _ h' (hx.put (d := x.o.dst) (s := .v undef)) hs
          show aopv _ _ _ _ _
          unfold aopv
          rw [hg]
          exact ⟨none, by rw [hx s _ hb]; rfl, by rw [if_neg (by simp)]; exact this⟩
        · exact h.elim
    | nil =>
      cases k with
      | nil => exact h
      | cons it k =>
        cases it with
        | code co =>
          simp only [adv] at h
          cases co with
          | skip => exact (ih _ _ _ h).code fun _ _ _ _ => Run.skip
          | label l => exact (ih _ _ _ h).code fun _ _ _ _ => Run.label
          | seq a b => exact (ih _ _ _ h).code fun _ _ _ _ => Run.seq
          | block id b => exact (ih _ _ _ h).code fun _ _ _ _ => Run.block
          | scope b => exact (ih _ _ _ h).code fun _ _ _ _ => Run.scope
          | exit id =>
            simp only at h
            cases hk : exitTo id k with
            | none => rw [hk] at h; exact h
            | some k' => rw [hk] at h; exact (ih _ _ _ h).code fun _ _ _ _ => Run.exit hk
          | region id ops d =>
            cases d with
            | true => exact h
            | false =>
              simp only at h
              cases hp : prep c.n ops.toList [] (List.range ops.size) with
              | none => rw [hp] at h; exact h.elim
              | some lx => rw [hp] at h; exact Y.region hp (ih _ _ _ h)
          | cond o a b =>
            simp only at h
            split at h
            · rename_i ho
              refine (ih _ _ _ h).code fun D e hh hx hr => ?_
              exact Run.cond (t := true) (opv_sound hx ho) hr
            · rename_i ho
              refine (ih _ _ _ h).code fun D e hh hx hr => ?_
              exact Run.cond (t := false) (opv_sound hx ho) hr
            · exact h
            · exact h
            · exact h.elim
          | loop b => exact h
          | rangeFunc a b c' d => exact h
          | ret => exact h
          | goto l => exact h.elim
          | refuse w => exact h.elim
        | inBlock id => exact (ih _ _ _ h).code fun _ _ _ _ => Run.inBlock
        | inScope id => exact (ih _ _ _ h).code fun _ _ _ _ => Run.inScope
        | inLoop b => exact h
        | beginRound => exact h
        | _ => exact h.elim
end
end Go.Eng
namespace Go.Eng
open Go

/-! ### Lists of assertions -/
def pickI : List Nat → List HA → List HA
  | [], _ => []
  | i :: r, L => (match L[i]? with | some A => A | none => .emp) :: pickI r (L.set i .emp)
def dropI : List Nat → List HA → List HA
  | [], L => L
  | i :: r, L => dropI r (L.set i .emp)
def fillI : List Nat → List HA → List HA → List HA
  | [], [], L => L
  | [], A :: L', L => L ++ A :: L'
  | i :: r, [], L => fillI r [] (L.set i .emp)
  | i :: r, A :: L', L => fillI r L' (L.set i A)

theorem emp_or {m1 m2 m : Hp} (h1 : ∀ b, m1 b = none) (hm : ∀ b, m b = (m1 b).or (m2 b)) : m = m2 := by
  funext b; rw [hm, h1]; simp

/-- into the places i of the first and behind -/
theorem SatL.split : ∀ {idx : List Nat} {L : List HA} {m : Hp}, SatL L m → ∃ m1 m2, SatL (pickI idx L) m1 ∧ SatL (dropI idx L) m2 ∧ Disj m1 m2 ∧ ∀ b, m b = (m1 b).or (m2 b) := by
  intro idx
  induction idx with
  | nil => intro L m h; exact ⟨fun _ => none, m, fun _ => rfl, h, fun _ => .inl rfl, fun b => by simp⟩
  | cons i r ih =>
    intro L m h
    cases hi : L[i]? with
    | none =>
      have hset : L.set i .emp = L := List.set_eq_of_length_le (by simpa using hi)
      obtain ⟨m1, m2, h1, h2, d, hm⟩ := ih h
      simp only [pickI, dropI, hi, hset]
      exact ⟨m1, m2, ⟨fun _ => none, m1, fun _ => rfl, h1, fun _ => .inl rfl, fun b => by simp⟩, h2, d, hm⟩
    | some A =>
      obtain ⟨ma, mb, ha, d, hm, hput⟩ := h.take hi
      have h' := hput .emp (fun _ => none) (fun _ => rfl) (fun _ => .inl rfl) mb (fun b => by simp)
      obtain ⟨m1, m2, h1, h2, d1, hm1⟩ := ih h'
      have dd := (disj_or hm1).1 d
      simp only [pickI, dropI, hi]
      refine ⟨fun b => (ma b).or (m1 b), m2, ⟨ma, m1, ha, h1, dd.1, fun _ => rfl⟩, h2, ?_, ?_⟩
      · exact ((disj_or (fun b => rfl)).2 ⟨dd.2.symm, d1.symm⟩).symm
      · intro b; rw [hm, hm1]; simp [Option.or_assoc]

theorem SatL.fill0 : ∀ {idx : List Nat} {L' L : List HA} {m1 m2 m : Hp}, (∀ i ∈ idx, L[i]? = some .emp) → SatL L' m1 → SatL L m2 → Disj m1 m2 → (∀ b, m b = (m1 b).or (m2 b)) → idx.Nodup → SatL (fillI idx L' L) m := by
  intro idx
  induction idx with
  | nil =>
    intro L' L m1 m2 m _ h1 h2 d hm _
    have he : fillI [] L' L = L ++ L' := by cases L' <;> simp [fillI]
    rw [he]
    exact SatL.append.2 ⟨m2, m1, h2, h1, d.symm, fun b => by
      rw [hm]; rcases d b with h | h <;> simp [h]⟩
  | cons i r ih =>
    intro L' L m1 m2 m hi h1 h2 d hm hnd
    obtain ⟨hni, hnr⟩ := List.nodup_cons.1 hnd
    have hother : ∀ A, ∀ j ∈ r, (L.set i A)[j]? = some .emp := by
      intro A j hj
      have hne : i ≠ j := fun hh => hni (hh ▸ hj)
      rw [List.getElem?_set_ne hne]; exact hi j (List.mem_cons_of_mem _ hj)
    obtain ⟨ma, mb, ha, dab, hmab, hput⟩ := h2.take (hi i (by simp))
    have hmb : m2 = mb := emp_or ha hmab
    subst hmb
    cases L' with
    | nil =>
      simp only [fillI]
      have hs := hput .emp (fun _ => none) (fun _ => rfl) (fun _ => .inl rfl) m2 (fun b => by simp)
      exact ih (hother _) h1 hs d hm hnr
    | cons A L' =>
      obtain ⟨x1, x2, hA, hL', dx, hmx⟩ := h1
      have dd := (disj_or hmx).1 d.symm
      simp only [fillI]
      have hs := hput A x1 hA dd.1.symm _ (fun b => rfl)
      refine ih (hother _) hL' hs ((disj_or (fun b => rfl)).2 ⟨dx.symm, dd.2.symm⟩) ?_ hnr
      intro b; rw [hm, hmx]
      rcases dx b with h | h <;> simp [h]

def idxB : List Nat → Nat → Bool
  | [], _ => true
  | i :: r, n => Nat.blt i n && !(r.any (Nat.beq i)) && idxB r n

theorem dropI_len : ∀ {idx : List Nat} {L : List HA}, (dropI idx L).length = L.length := by
  intro idx
  induction idx with
  | nil => intro L; rfl
  | cons i r ih => intro L; simp only [dropI]; rw [ih]; simp

theorem dropI_keep : ∀ {r : List Nat} {L : List HA} {j : Nat}, L[j]? = some .emp → (dropI r L)[j]? = some .emp := by
  intro r
  induction r with
  | nil => intro L j h; exact h
  | cons i r ih =>
    intro L j h
    refine ih ?_
    by_cases e : i = j
    · subst e
      have : i < L.length := (List.getElem?_eq_some_iff.1 h).1
      simp [this]
    · rw [List.getElem?_set_ne e]; exact h

theorem dropI_emp : ∀ {idx : List Nat} {L : List HA}, idxB idx L.length = true → (∀ i ∈ idx, (dropI idx L)[i]? = some .emp) ∧ idx.Nodup := by
  intro idx
  induction idx with
  | nil => intro L _; exact ⟨fun i hi => by simp at hi, List.nodup_nil⟩
  | cons i r ih =>
    intro L h
    simp only [idxB, Bool.and_eq_true, Bool.not_eq_true'] at h
    obtain ⟨⟨h1, h2⟩, h3⟩ := h
    have hlt : i < L.length := Nat.blt_eq.mp h1
    have hni : i ∉ r := by
      intro hm
      have := List.any_eq_false.1 h2 i hm
      exact this (Nat.beq_refl i)
    obtain ⟨ha, hn⟩ := ih (L := L.set i .emp) (by simpa using h3)
    refine ⟨fun j hj => ?_, List.nodup_cons.2 ⟨hni, hn⟩⟩
    rcases List.mem_cons.1 hj with rfl | hj
    · simp only [dropI]
      exact dropI_keep (by simp [hlt])
    · exact ha j hj

theorem SatL.fill {idx : List Nat} {L' L : List HA} {m1 m2 m : Hp} (hi : idxB idx L.length = true) (h1 : SatL L' m1) (h2 : SatL (dropI idx L) m2) (d : Disj m1 m2) (hm : ∀ b, m b = (m1 b).or (m2 b)) :
    SatL (fillI idx L' (dropI idx L)) m :=
  SatL.fill0 (dropI_emp hi).1 h1 h2 d hm (dropI_emp hi).2

theorem Sat.pick {R : Hp} {A : HA} {L : List HA} {h : Hp} (idx : List Nat) (s : Sat R (A :: L) h) : Sat R (A :: pickI idx L) h := by
  obtain ⟨hf, m, ⟨ma, mb, ha, hb, dab, hmab⟩, d, sR, sm⟩ := s
  obtain ⟨m1, m2, h1, h2, d12, hm12⟩ := hb.split (idx := idx)
  have dd := (disj_or hm12).1 dab
  refine ⟨hf, fun b => (ma b).or (m1 b), ⟨ma, m1, ha, h1, dd.1, fun _ => rfl⟩, ?_, sR, ?_⟩
  · have := (disj_or hmab).1 d
    exact (disj_or (fun b => rfl)).2 ⟨this.1, ((disj_or hm12).1 this.2).1⟩
  · have := (sub_or hmab dab).1 sm
    exact (sub_or (fun b => rfl) dd.1).2 ⟨this.1, ((sub_or hm12 d12).1 this.2).1⟩

theorem Sat.pick0 {R : Hp} {L : List HA} {h : Hp} (idx : List Nat) (s : Sat R L h) : Sat R (pickI idx L) h := by
  obtain ⟨hf, m, hL, d, sR, sm⟩ := s
  obtain ⟨m1, m2, h1, h2, d12, hm12⟩ := hL.split (idx := idx)
  exact ⟨hf, m1, h1, ((disj_or hm12).1 d).1, sR, ((sub_or hm12 d12).1 sm).1⟩

/-! ### What a function does -/
def Callable (P : Program) (g : FuncId) : Prop := ∃ F, P.funcs[g]? = some F ∧ (F.name == "runtime.NumGoroutine") = false ∧ F.body.isNone = false

structure Tr (P : Program) (g : FuncId) (args : List Value) (R : Hp) (L : List HA) (Q : Value → List HA → Prop) : Prop where
  callable : Callable P g
  ent : ∀ h, Sat R L h → Ent P (Frame.enter P g args.toArray .normal) h fun v h' => ∃ L', Q v L' ∧ Sat R L' h'

/-- the rest of the heap beside a part -/
def restOf (h m : Hp) : Hp := fun b => match m b with | some _ => none | none => h b

theorem Sat.frame {R : Hp} {A : HA} {L : List HA} {h : Hp} {idx : List Nat} (hi : idxB idx L.length = true) (s : Sat R (A :: L) h) :
    ∃ r, Sat R (dropI idx L) r ∧ Sat r (pickI idx L) h ∧ ∀ L' h', Sat r L' h' → Sat R (A :: fillI idx L' (dropI idx L)) h' := by
  obtain ⟨hf, m, ⟨ma, mb, ha, hb, dab, hmab⟩, d, sR, sm⟩ := s
  obtain ⟨m1, m2, h1, h2, d12, hm12⟩ := hb.split (idx := idx)
  have dA := (disj_or hm12).1 dab
  have dR := (disj_or hmab).1 d
  have dR2 := (disj_or hm12).1 dR.2
  have sAB := (sub_or hmab dab).1 sm
  have s12 := (sub_or hm12 d12).1 sAB.2
  have subrest : ∀ x, Sub x h → Disj x m1 → Sub x (restOf h m1) := by
    intro x sx dx b o hb
    simp only [restOf]
    rcases dx b with hh | hh
    · rw [hh] at hb; cases hb
    · rw [hh]; exact sx b o hb
  have drest : Disj (restOf h m1) m1 := by
    intro b
    cases hb : m1 b with
    | none => exact .inr rfl
    | some o => exact .inl (by simp [restOf, hb])
  have frest : Fin (restOf h m1) := by
    obtain ⟨N, hN⟩ := hf
    refine ⟨N, fun b hb => ?_⟩
    simp only [restOf]
    cases m1 b with
    | none => exact hN b hb
    | some o => rfl
  refine ⟨restOf h m1, ?_, ?_, ?_⟩
  · exact ⟨frest, m2, h2, dR2.2, subrest R sR dR2.1, subrest m2 s12.2 d12.symm⟩
  · have hsub : Sub (restOf h m1) h := by
      intro b o hb
      simp only [restOf] at hb
      cases hm : m1 b with
      | none => rw [hm] at hb; exact hb
      | some o' => rw [hm] at hb; cases hb
    exact ⟨hf, m1, h1, drest, hsub, s12.1⟩
  · rintro L' h' ⟨hf', m', hL', d', sr', sm'⟩
    have sR' : Sub R (restOf h m1) := subrest R sR dR2.1
    have sA' : Sub ma (restOf h m1) := subrest ma sAB.1 dA.1
    have s2' : Sub m2 (restOf h m1) := subrest m2 s12.2 d12.symm
    have dOf : ∀ x, Sub x (restOf h m1) → Disj x m' := by
      intro x sx b
      cases hb : x b with
      | none => exact .inl rfl
      | some o => rcases d' b with hh | hh
                  · rw [sx b o hb] at hh; cases hh
                  · exact .inr hh
    have dm2 : Disj m' m2 := (dOf m2 s2').symm
    have hfill := SatL.fill hi hL' h2 dm2 (m := fun b => (m' b).or (m2 b)) (fun _ => rfl)
    have dAf : Disj ma (fun b => (m' b).or (m2 b)) := (disj_or (fun b => rfl)).2 ⟨dOf ma sA', dA.2⟩
    refine ⟨hf', fun b => (ma b).or ((m' b).or (m2 b)), ⟨ma, _, ha, hfill, dAf, fun _ => rfl⟩, ?_, sR'.trans sr', ?_⟩
    · exact (disj_or (fun b => rfl)).2 ⟨dR.1, (disj_or (fun b => rfl)).2 ⟨dOf R sR', dR2.2⟩⟩
    · exact (sub_or (fun b => rfl) dAf).2 ⟨sA'.trans sr', (sub_or (fun b => rfl) dm2).2 ⟨sm', s2'.trans sr'⟩⟩
end Go.Eng
