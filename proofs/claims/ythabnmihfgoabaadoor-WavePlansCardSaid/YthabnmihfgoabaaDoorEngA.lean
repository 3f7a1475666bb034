/-
  Lemmas for the walk: how the machine steps, and what each step needs; no condition.
-/
import Derived.Calls
namespace Go.Eng
open Go

/-- A frame in the middle of its run: a function's (ro = none), or a loop body's round (ro = some l). -/
def mk (fn : FuncId) (ro : Option Nat) (tmps : Array Value) (todo : List Item) (D : List Deferred) : Frame :=
  { fn := fn, tmps := tmps, todo := todo, defers := D, mode := .run, kind := .normal, roundOf := ro }

def evalT (tmps : Array Value) : Operand → Value
  | .tmp t => tmps.getD t undef
  | .const v => v
  | .global g => .pointer (some ⟨g, 0, none⟩)
  | .func f => .func (.func f) #[] #[]

theorem mk_eval (fn ro tmps todo D) : (mk fn ro tmps todo D).eval = evalT tmps := by
  funext x; cases x <;> rfl

def putT (tmps : Array Value) (d : Option Tmp) (v : Value) : Array Value :=
  match d with
  | some d => tmps.setIfInBounds d v
  | none => tmps

section
variable {P : Program} {fn : FuncId} {ro : Option Nat} {tm : Array Value} {k : List Item} {D : List Deferred} {cs : List Frame} {w : World}

theorem st_skip : step P (lone (mk fn ro tm (.code .skip :: k) D) cs w) = .next (lone (mk fn ro tm k D) cs w) :=
  step_lone_go (by simp [stepG, stepG.exec, mk])
theorem st_label {l} : step P (lone (mk fn ro tm (.code (.label l) :: k) D) cs w) = .next (lone (mk fn ro tm k D) cs w) :=
  step_lone_go (by simp [stepG, stepG.exec, mk])
theorem st_inBlock {id} : step P (lone (mk fn ro tm (.inBlock id :: k) D) cs w) = .next (lone (mk fn ro tm k D) cs w) :=
  step_lone_go (by simp [stepG, stepG.exec, mk])
theorem st_inScope {c} : step P (lone (mk fn ro tm (.inScope c :: k) D) cs w) = .next (lone (mk fn ro tm k D) cs w) :=
  step_lone_go (by simp [stepG, stepG.exec, mk])
theorem st_seq {a b} : step P (lone (mk fn ro tm (.code (.seq a b) :: k) D) cs w) = .next (lone (mk fn ro tm (.code a :: .code b :: k) D) cs w) :=
  step_lone_go (by simp [stepG, stepG.exec, mk])
theorem st_cond {c x y} {t : Bool} (h : evalT tm c = .bool t) :
    step P (lone (mk fn ro tm (.code (.cond c x y) :: k) D) cs w) = .next (lone (mk fn ro tm (.code (if t then x else y) :: k) D) cs w) :=
  step_lone_go (by
    have h' := mk_eval fn ro tm (.code (.cond c x y) :: k) D
    simp only [mk] at h'
    simp [stepG, stepG.exec, mk, h', h])
theorem st_block {id b} : step P (lone (mk fn ro tm (.code (.block id b) :: k) D) cs w) = .next (lone (mk fn ro tm (.code b :: .inBlock id :: k) D) cs w) :=
  step_lone_go (by simp [stepG, stepG.exec, mk])
theorem st_scope {b} : step P (lone (mk fn ro tm (.code (.scope b) :: k) D) cs w) = .next (lone (mk fn ro tm (.code b :: .inScope b :: k) D) cs w) :=
  step_lone_go (by simp [stepG, stepG.exec, mk])
theorem st_loop {b} : step P (lone (mk fn ro tm (.code (.loop b) :: k) D) cs w) = .next (lone (mk fn ro tm (.code b :: .inLoop b :: k) D) cs w) :=
  step_lone_go (by simp [stepG, stepG.exec, mk])
theorem st_inLoop {b} : step P (lone (mk fn ro tm (.inLoop b :: k) D) cs w) = .next (lone (mk fn ro tm (.code b :: .inLoop b :: k) D) cs w) :=
  step_lone_go (by simp [stepG, stepG.exec, mk])
theorem st_exit {id} {k' : List Item} (h : exitTo id k = some k') :
    step P (lone (mk fn ro tm (.code (.exit id) :: k) D) cs w) = .next (lone (mk fn ro tm k' D) cs w) :=
  step_lone_go (by simp [stepG, stepG.exec, mk, h])
theorem st_region {id ops} : step P (lone (mk fn ro tm (.code (.region id ops false) :: k) D) cs w) = .next (lone (mk fn ro tm (.inRegion ops (List.range ops.size) :: k) D) cs w) :=
  step_lone_go (by simp [stepG, stepG.exec, mk])
theorem st_region_draw {id ops} : step P (lone (mk fn ro tm (.code (.region id ops true) :: k) D) cs w) =
    .next (lone (mk fn ro tm (.inRegion ops (Region.schedule (P.follows .mixedOrders) ops (w.tape w.drawn (.order fn id))) :: k) D) cs { w with drawn := w.drawn + 1 }) :=
  step_lone_go (by simp [stepG, stepG.exec, mk, choose, Sem.run, Question.forced, Question.cut])
theorem st_region_end {ops} : step P (lone (mk fn ro tm (.inRegion ops [] :: k) D) cs w) = .next (lone (mk fn ro tm k D) cs w) :=
  step_lone_go (by simp [stepG, stepG.exec, mk])

theorem mk_finish {ops i rest v} : (mk fn ro tm (.inRegion ops (i :: rest) :: k) D).finish v =
    mk fn ro (putT tm ((ops[i]?).bind (·.dst)) v) (.inRegion ops rest :: k) D := by
  cases h : (ops[i]?).bind (·.dst) <;> simp [Frame.finish, mk, putT, h]

theorem st_op_not {ops : Array Oper} {i rest} (h : ((ops[i]?).map (Region.wanted · (yielded ops tm))).getD false = false) :
    step P (lone (mk fn ro tm (.inRegion ops (i :: rest) :: k) D) cs w) =
      .next (lone (mk fn ro (putT tm ((ops[i]?).bind (·.dst)) undef) (.inRegion ops rest :: k) D) cs w) := by
  rw [← mk_finish]
  exact step_lone_go (by
    have h' := h
    simp only [mk] at *
    simp [stepG, stepG.exec, h'])

def notDefer : Op → Bool
  | .defer _ => false
  | _ => true

theorem stepG_op' {ops : Array Oper} {i : Nat} {rest : List Nat} {o : Oper} (ho : ops[i]? = some o) (hw : Region.wanted o (yielded ops tm) = true) (hd : notDefer o.op = true) :
    stepG P true { frame := mk fn ro tm (.inRegion ops (i :: rest) :: k) D, callers := cs, status := .running, dying := none } w =
      stepG.apply P true (mk fn ro tm (.inRegion ops (i :: rest) :: k) D) cs none (execOp (evalT tm) o) w := by
  have he := mk_eval fn ro tm (.inRegion ops (i :: rest) :: k) D
  simp only [mk] at he
  have hd' : ∀ c, o.op ≠ .defer c := by intro c hc; rw [hc] at hd; simp [notDefer] at hd
  cases ro with
  | none => simp [stepG, stepG.exec, stepG.oper, Frame.oper?, mk, ho, hw, he]
  | some l =>
    simp only [stepG, stepG.exec, stepG.oper, Frame.oper?, mk, ho, hw, he, Option.map_some, Option.getD_some, if_true]
    split
    · rename_i l' c h1 h2; exact absurd h2 (hd' c)
    · rfl

variable {ops : Array Oper} {i : Nat} {rest : List Nat} {o : Oper}

theorem st_op_value {v w'} (ho : ops[i]? = some o) (hw : Region.wanted o (yielded ops tm) = true) (hd : notDefer o.op = true)
    (hr : (execOp (evalT tm) o).run P w = .ok (.value v) w') :
    step P (lone (mk fn ro tm (.inRegion ops (i :: rest) :: k) D) cs w) = .next (lone (mk fn ro (putT tm o.dst v) (.inRegion ops rest :: k) D) cs w') := by
  have hf : mk fn ro (putT tm o.dst v) (.inRegion ops rest :: k) D = (mk fn ro tm (.inRegion ops (i :: rest) :: k) D).finish v := by
    rw [mk_finish, ho]; rfl
  rw [hf]
  exact step_lone_go (by rw [stepG_op' ho hw hd]; simp [stepG.apply, hr])

theorem st_op_skip {w'} (ho : ops[i]? = some o) (hw : Region.wanted o (yielded ops tm) = true) (hd : notDefer o.op = true)
    (hr : (execOp (evalT tm) o).run P w = .ok .skip w') :
    step P (lone (mk fn ro tm (.inRegion ops (i :: rest) :: k) D) cs w) = .next (lone (mk fn ro (putT tm o.dst undef) (.inRegion ops rest :: k) D) cs w') := by
  have hf : mk fn ro (putT tm o.dst undef) (.inRegion ops rest :: k) D = (mk fn ro tm (.inRegion ops (i :: rest) :: k) D).finish undef := by
    rw [mk_finish, ho]; rfl
  rw [hf]
  exact step_lone_go (by rw [stepG_op' ho hw hd]; simp [stepG.apply, hr])

theorem st_op_enter {f args w'} (ho : ops[i]? = some o) (hw : Region.wanted o (yielded ops tm) = true) (hd : notDefer o.op = true)
    (hr : (execOp (evalT tm) o).run P w = .ok (.enter f args) w') :
    step P (lone (mk fn ro tm (.inRegion ops (i :: rest) :: k) D) cs w) = .next (lone (Frame.enter P f args .normal) (mk fn ro tm (.inRegion ops (i :: rest) :: k) D :: cs) w') :=
  step_lone_go (by rw [stepG_op' ho hw hd]; simp [stepG.apply, hr, mk])

theorem st_op_round {l f tmps a b w'} (ho : ops[i]? = some o) (hw : Region.wanted o (yielded ops tm) = true) (hd : notDefer o.op = true)
    (hr : (execOp (evalT tm) o).run P w = .ok (.round l f tmps a b) w') :
    step P (lone (mk fn ro tm (.inRegion ops (i :: rest) :: k) D) cs w) = .next (lone (Frame.round l f tmps a b .normal) (mk fn ro tm (.inRegion ops (i :: rest) :: k) D :: cs) w') :=
  step_lone_go (by rw [stepG_op' ho hw hd]; simp [stepG.apply, hr, mk])

/-- ret, or the end, in a function's frame -/
theorem st_ret : step P (lone (mk fn none tm (.code .ret :: k) D) cs w) = .next (lone { mk fn none tm (.code .ret :: k) D with mode := .returning } cs w) :=
  step_lone_go (by simp [stepG, stepG.exec, mk])
theorem st_end : step P (lone (mk fn none tm [] D) cs w) = .next (lone { mk fn none tm [] D with mode := .returning } cs w) :=
  step_lone_go (by simp [stepG, stepG.exec, mk])

end
end Go.Eng
namespace Go.Eng
open Go
section
variable {P : Program} {fn : FuncId} {ro : Option Nat} {tm : Array Value} {k : List Item} {D : List Deferred} {cs : List Frame} {w w' : World}

def putO (w : World) (l : Nat) (o : Obj) : World := { w with heap := w.heap.setIfInBounds l o }

theorem run_getLoop {l r} (h : w.heap[l]? = some (.loop r)) : (Instr.getLoop l).run P w = .ok r w := by
  simp [Instr.getLoop, getObj, bind, Sem.bind, Sem.run, h, pure]

theorem run_enterLoop_none {f params a b} :
    (Instr.enterLoop f tm params a b none).run P w =
      .ok (w.heap.size + 1, [{ target := .collected w.heap.size, args := #[] }])
        { w with heap := (w.heap.push (.deferred (some []))).push (.loop { state := .ready, pending := none, fn := f, tmps := tm, params := params, assign := a, body := b, defers := w.heap.size }) } := by
  simp [Instr.enterLoop, newObj, bind, Sem.bind, Sem.run, pure]

theorem run_enterLoop_some {f params a b l0 r0} (h : w.heap[l0]? = some (.loop r0)) :
    (Instr.enterLoop f tm params a b (some l0)).run P w =
      .ok (w.heap.size, [])
        { w with heap := (w.heap.push (.loop { state := .ready, pending := none, fn := f, tmps := tm, params := params, assign := a, body := b, defers := r0.defers })) } := by
  simp [Instr.enterLoop, Instr.getLoop, getObj, newObj, bind, Sem.bind, Sem.run, pure, h]

/-- the call that a range over a function makes -/
def rangeCall (f : Value) (l : Nat) : Sem Next := do
  let d ← Deferred.ofValue f #[.func (.yield l) #[] #[]]
  invoke d.target d.args

theorem st_rangeFunc {f params a b l mark w1 g args} (he : (Instr.enterLoop fn tm params a b ro).run P w = .ok (l, mark) w1)
    (hr : (rangeCall (evalT tm f) l).run P w1 = .ok (.enter g args) w') :
    step P (lone (mk fn ro tm (.code (.rangeFunc f params a b) :: k) D) cs w) =
      .next (lone (Frame.enter P g args .normal) (mk fn ro tm (.inRangeFunc l :: k) (mark ++ D) :: cs) w') := by
  have he' : (Instr.enterLoop fn tm params a b ro).runT P w #[] = (.ok (l, mark) w1, Sem.events P (Instr.enterLoop fn tm params a b ro) w #[]) := by
    rw [Sem.runT_eq, he]
  have hm := mk_eval fn ro tm (.inRangeFunc l :: k) (mark ++ D)
  refine step_lone_go ?_
  simp only [stepG, mk] at *
  simp only [stepG.exec, he', GStep.bare_after]
  have hres : ∀ x, (do let d ← resolve (evalT tm) { callee := .value f, args := #[.const (.func (.yield l) #[] #[])], argTypes := #[] } x; invoke d.target d.args) = rangeCall (evalT tm f) l := by
    intro x; simp [resolve, rangeCall, evalT]
  simp only [hm, hres]
  simp [stepG.apply, hr]

theorem mk_finish_range {l v} : (mk fn ro tm (.inRangeFunc l :: k) D).finish v = mk fn ro tm (.endRangeFunc l :: k) D := rfl

theorem st_endRange {l r} (h : w.heap[l]? = some (.loop r)) (hs : r.state ≠ .busy) :
    step P (lone (mk fn ro tm (.endRangeFunc l :: k) D) cs w) =
      .next (lone (mk fn ro tm ((r.pending.map Item.code).toList ++ k) D) cs (putO w l (.loop { r with state := .exhausted }))) := by
  have hr : (Instr.endLoop l).run P w = .ok r.pending (putO w l (.loop { r with state := .exhausted })) := by
    simp [Instr.endLoop, Instr.getLoop, getObj, setObj, bind, Sem.bind, Sem.run, pure, h, hs, putO]
  refine step_lone_go ?_
  simp [stepG, stepG.exec, mk, Sem.runT_eq, hr]

theorem st_beginRound {l r} (h : w.heap[l]? = some (.loop r)) (hs : r.state = .ready) :
    step P (lone (mk fn (some l) tm (.beginRound :: k) D) cs w) =
      .next (lone (mk fn (some l) tm k D) cs (putO w l (.loop { r with state := .busy }))) := by
  have hr : (Instr.beginRound l).run P w = .ok () (putO w l (.loop { r with state := .busy })) := by
    simp [Instr.beginRound, Instr.getLoop, getObj, setObj, bind, Sem.bind, Sem.run, pure, h, hs, putO]
  have hr2 : (do Instr.beginRound l; pure Next.skip : Sem Next).run P w = .ok .skip (putO w l (.loop { r with state := .busy })) := by
    have hb : ∀ (s : Sem Unit) (w w' : World), s.run P w = .ok () w' → (do s; pure Next.skip : Sem Next).run P w = .ok .skip w' := by
      intro s
      induction s with
      | pure a => intro w w' h; simp [Sem.run] at h; subst h; simp [bind, Sem.bind, Sem.run, pure]
      | load m a k ih => 
        intro w w' h
        simp only [bind, Sem.bind, Sem.run] at h ⊢
        split at h
        · exact ih _ _ _ h
        · split at h
          · exact ih _ _ _ h
          · cases h
      | store m a v k ih =>
        intro w w' h
        cases v <;> simp only [bind, Sem.bind, Sem.run] at h ⊢ <;> first
          | (cases h; done)
          | (split at h
             · split at h
               · cases h
               · rename_i hz; rw [if_neg hz]; exact ih _ _ h
             · split at h
               · exact ih _ _ h
               · cases h)
      | new o k ih => intro w w' h; simp only [bind, Sem.bind, Sem.run] at h ⊢; exact ih _ _ _ h
      | shape r k ih => intro w w' h; simp only [bind, Sem.bind, Sem.run] at h ⊢; exact ih _ _ _ h
      | freeze a n k ih => intro w w' h; simp only [bind, Sem.bind, Sem.run] at h ⊢; exact ih _ _ h
      | frozen a k ih => intro w w' h; simp only [bind, Sem.bind, Sem.run] at h ⊢; exact ih _ _ _ h
      | getObj r k ih =>
        intro w w' h; simp only [bind, Sem.bind, Sem.run] at h ⊢
        split at h
        · cases h
        · exact ih _ _ _ h
        · cases h
      | setObj r o k ih =>
        intro w w' h; simp only [bind, Sem.bind, Sem.run] at h ⊢
        split at h
        · cases h
        · exact ih _ _ h
        · cases h
      | choose q k ih =>
        intro w w' h; simp only [bind, Sem.bind, Sem.run] at h ⊢
        split at h
        · rename_i hz; rw [if_pos hz]; exact ih _ _ _ h
        · rename_i hz; rw [if_neg hz]; exact ih _ _ _ h
      | sys c k ih => intro w w' h; simp only [bind, Sem.bind, Sem.run] at h ⊢; exact ih _ _ _ h
      | program k ih => intro w w' h; simp only [bind, Sem.bind, Sem.run] at h ⊢; exact ih _ _ _ h
      | mark m k ih => intro w w' h; simp only [bind, Sem.bind, Sem.run] at h ⊢; exact ih _ _ h
      | halt h => intro w w' h; cases h
    exact hb _ _ _ hr
  refine step_lone_go ?_
  simp [stepG, stepG.exec, mk, stepG.apply, hr2, Frame.finish]

theorem run_endRound {l r j} (h : w.heap[l]? = some (.loop r)) :
    (Instr.endRound l j).run P w = .ok (.bool j.isNone) (putO w l (.loop { r with state := if j.isNone then .ready else .done, pending := j })) := by
  simp [Instr.endRound, Instr.getLoop, getObj, setObj, bind, Sem.bind, Sem.run, pure, h, putO]

theorem st_round_end {l r c} (h : w.heap[l]? = some (.loop r)) :
    step P (lone (mk fn (some l) tm [] D) (c :: cs) w) =
      .next (lone (c.finish (.bool true)) cs (putO w l (.loop { r with state := .ready, pending := none }))) := by
  refine step_lone_go ?_
  simp [stepG, stepG.exec, mk, Sem.runT_eq, run_endRound h, doReturn]

theorem st_round_ret {l r c} (h : w.heap[l]? = some (.loop r)) :
    step P (lone (mk fn (some l) tm (.code .ret :: k) D) (c :: cs) w) =
      .next (lone (c.finish (.bool false)) cs (putO w l (.loop { r with state := .done, pending := some .ret }))) := by
  refine step_lone_go ?_
  simp [stepG, stepG.exec, mk, Sem.runT_eq, run_endRound h, doReturn]

theorem st_round_exit {l r c id} (h : w.heap[l]? = some (.loop r)) (hk : exitTo id k = none) :
    step P (lone (mk fn (some l) tm (.code (.exit id) :: k) D) (c :: cs) w) =
      .next (lone (c.finish (.bool false)) cs (putO w l (.loop { r with state := .done, pending := some (.exit id) }))) := by
  refine step_lone_go ?_
  simp [stepG, stepG.exec, mk, Sem.runT_eq, run_endRound h, doReturn, hk]

/-- a function's frame that returns takes the marks off its deferred calls -/
theorem st_unwind {fr : Frame} {r ds ds'} (hm : fr.mode = .returning) (hd : fr.defers = { target := .collected r, args := #[] } :: ds) (h : w.heap[r]? = some (.deferred (some ds'))) :
    step P (lone fr cs w) = .next (lone { fr with defers := ds' ++ ds } cs (putO w r (.deferred none))) := by
  have hr : (Instr.takeDeferred r).run P w = .ok ds' (putO w r (.deferred none)) := by
    simp [Instr.takeDeferred, getObj, setObj, bind, Sem.bind, Sem.run, pure, h, putO]
  obtain ⟨a, b, c, d, e, f, g⟩ := fr
  simp at hm hd
  subst hm; subst hd
  refine step_lone_go ?_
  simp [stepG, unwind, Sem.runT_eq, hr]

end
end Go.Eng
