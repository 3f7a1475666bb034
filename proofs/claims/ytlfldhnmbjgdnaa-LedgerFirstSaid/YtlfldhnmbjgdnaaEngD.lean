/-
  Lemmas for the walk: how the machine steps, and what each step needs; no condition.
-/
import Derived.Test.YtlfldhnmbjgdnaaEngC
import Derived.Shelf.SlSortCmp.WholeK
namespace Go.Eng
open Go

/-! ### The library's contracts, for the walk -/
theorem Tr.of_calls {P : Program} {g : FuncId} {args : List Value} {R : Hp} {L : List HA} {Q : Value → List HA → Prop} (hc : Callable P g)
    (H : ∀ w h, On w h → Sat R L h → Calls P g args.toArray w fun e w' => ∃ v h' L', e = .returned v ∧ On w' h' ∧ Keep w w' ∧ Q v L' ∧ Sat R L' h') : Tr P g args R L Q := by
  refine ⟨hc, fun h hs w hon c cs => ?_⟩
  obtain ⟨e, w', fr, ⟨v, h', L', rfl, h1, h2, h3, h4⟩, h5, h6, h7⟩ := H w h hon hs (c :: cs)
  exact ⟨v, w', h', h1, ⟨L', h3, h4⟩, h2, Steps.trans h5 (.one (step_leave_returned h7))⟩

theorem grown_of {w w' : World} {h h' : Hp} (o : On w h) (o' : On w' h') (s : Sub h h') (k : Keep w w') : ∃ q os', w' = Sort.grow (w.drewN q) os' := by
  refine ⟨w'.drawn - w.drawn, w'.heap.extract w.heap.size w'.heap.size, ?_⟩
  have hheap : w'.heap = w.heap ++ w'.heap.extract w.heap.size w'.heap.size := by
    apply Array.ext_getElem?
    intro i
    by_cases hi : i < w.heap.size
    · rw [Array.getElem?_append_left hi, o' i]
      have e : h i = some w.heap[i] := by rw [← o i]; exact Array.getElem?_eq_getElem hi
      rw [s i _ e, Array.getElem?_eq_getElem hi]
    · rw [Array.getElem?_append_right (by omega), Array.getElem?_extract]
      have := k.size
      split
      · congr 1; omega
      · rw [Array.getElem?_eq_none (by omega)]
  have hd : w.drawn + (w'.drawn - w.drawn) = w'.drawn := by have := k.drawn; omega
  obtain ⟨h1, h2, h3, h4, h5⟩ := w'
  have k1 := k.os; have k2 := k.tape; have k3 := k.output
  simp only at hheap hd k1 k2 k3
  simp only [Sort.grow, World.drewN, World.mk.injEq]
  exact ⟨hheap, k2, hd.symm, k1, k3⟩

theorem flatK_list {α : Type} [Inhabited α] {enc : α → List Value} {k : Nat} (hk : ∀ x, (enc x).length = k) (hk0 : 0 < k) (d : Array α) : (Sort.flatK enc k d).toList = (d.toList.map enc).flatten := by
  have hlen : ∀ xs : List α, (xs.map enc).flatten.length = xs.length * k := by
    intro xs
    induction xs with
    | nil => simp
    | cons x r ih => simp only [List.map_cons, List.flatten_cons, List.length_append, hk, ih, List.length_cons, Nat.add_mul]; omega
  apply List.ext_getElem?
  intro j
  have hl : (d.toList.map enc).flatten.length = d.size * k := hlen d.toList
  by_cases hj : j < d.size * k
  · have h1 : (d.toList.map enc).flatten[j]? = some ((d.toList.map enc).flatten[j]'(by rw [hl]; exact hj)) := List.getElem?_eq_getElem _
    obtain ⟨x, h2, h3⟩ := flat_at hk hk0 _ _ _ h1
    rw [h1, Array.getElem?_toList, Sort.flatK, Array.getElem?_map, Array.getElem?_range, if_pos hj]
    simp only [Option.map_some, Option.some.injEq]
    have h4 : d[j / k]! = x := by
      rw [Array.getElem?_toList] at h2
      simp [Array.getElem!_eq_getD, Array.getD_eq_getD_getElem?, h2]
    rw [h4]
    simp [List.getElem!_eq_getElem?_getD, h3]
  · rw [List.getElem?_eq_none (by simp; omega), List.getElem?_eq_none (by rw [hl]; omega)]

/-- the array's cells, turned: the block -/
theorem mapBlock_at (w : World) (g : Nat) (f : Array Value → Array Value) {cur t fr} (hg : w.heap[g]? = some (.cells cur t fr)) : (Sort.mapBlock w g f).heap[g]? = some (.cells (f cur) t fr) := by
  have hlt : g < w.heap.size := (Array.getElem?_eq_some_iff.1 hg).1
  simp only [Sort.mapBlock, Array.getElem?_modify]
  simp [hg, Sort.onCells]
theorem mapBlock_ne (w : World) (g k : Nat) (f : Array Value → Array Value) (h : k ≠ g) : (Sort.mapBlock w g f).heap[k]? = w.heap[k]? := by
  simp [Sort.mapBlock, Array.getElem?_modify, Ne.symm h]

theorem Tr.sort {α : Type} [Inhabited α] {P : Program} {ρ : Go.Shelf.Ren} (Ly : Go.Proofs.SlLaysF0.n6 P ρ) (hcall : Callable P (ρ.f 6)) (k : Nat) (hk0 : 0 < k) (aE : ∀ w, (isAgg (ρ.t 24)).run P w = .ok true w) (zE : ∀ w, (Go.sizeOf (ρ.t 24)).run P w = .ok k w)
    (enc : α → List Value) (hk : ∀ x, (enc x).length = k) (h1 : ∀ x, ∀ v ∈ enc x, v.oneCell' = true) (cf : α → α → Int) (hO : Sort.SWO (Go.Proofs.ltOf cf)) (g : Nat)
    (eg : ∀ args w, (callFunc g args).run P w = .ok (.enter g args) w)
    (hcmp : ∀ x y (w : World), Calls P g #[.agg (enc x).toArray, .agg (enc y).toArray] w fun e w' => e = .returned (.int .i64 (cf x y)) ∧ ∃ q os', w' = Sort.grow (w.drewN q) os')
    (hnone : ∀ (p : Option Addr) (cap : Nat) (fv : Value) (w : World), Calls P (ρ.f 6) #[.slice p 0 cap, fv] w fun e w' => e = .returned (.tuple #[]) ∧ w' = w)
    (t n c : Nat) (a : Option Addr) (es : List α) (R : Hp) (hsz : n < 4611686018427387904) :
    Tr P (ρ.f 6) [.slice a n c, .func (.func g) #[] #[]] R [ownS t k a n c (es.map enc).flatten]
      fun _ L' => ∃ es' : List α, es'.Perm es ∧ es'.Pairwise (fun x y => Go.Proofs.ltOf cf y x = false) ∧ L' = [ownS t k a n c (es'.map enc).flatten] := by
  refine Tr.of_calls hcall fun w h hon hs => ?_
  obtain ⟨hlen, hcase⟩ := hs.own (i := 0) rfl
  have hel : es.length = n := by
    have : (es.map enc).flatten.length = es.length * k := by
      clear hlen hcase hs
      induction es with
      | nil => simp
      | cons x r ih => simp only [List.map_cons, List.flatten_cons, List.length_append, hk, ih, List.length_cons, Nat.add_mul]; omega
    rw [this] at hlen
    exact Nat.eq_of_mul_eq_mul_right hk0 hlen
  by_cases hn : n = 0
  · subst hn
    have hes : es = [] := List.eq_nil_of_length_eq_zero hel
    subst hes
    refine (hnone a c _ w).mono fun e w' ⟨he, hw⟩ => ?_
    subst hw
    exact ⟨_, h, _, he, hon, .refl _, ⟨[], .refl [], List.Pairwise.nil, rfl⟩, hs⟩
  · rcases hcase with ⟨rfl, rfl, rfl⟩ | ⟨b, cur, rfl, hb, h3, h4, h5, h6⟩
    · exact absurd rfl hn
    · have hwb : w.heap[b]? = some (.cells cur t (0, 0)) := by rw [hon]; exact hb
      have hblk : b < w.heap.size := (Array.getElem?_eq_some_iff.1 hwb).1
      have hdsz : es.toArray.size = n := by simpa using hel
      have hF : (Sort.flatK enc k es.toArray).toList = (es.map enc).flatten := by rw [flatK_list hk hk0]
      have hnk : n * k ≤ cur.size := by rw [h5]; exact Nat.mul_le_mul_right _ h3
      have hH : Sort.HoldsK enc k w b 0 es.toArray := by
        intro j hj
        simp only [Sort.size_flatK, hdsz] at hj
        have hjc : j < cur.size := Nat.lt_of_lt_of_le hj hnk
        have e1 : (Sort.flatK enc k es.toArray)[j]! = cur[j] := by
          have e2 : (Sort.flatK enc k es.toArray).toList[j]? = some cur[j] := by
            rw [hF, ← h6, List.getElem?_take, if_pos hj]; simp [hjc]
          rw [Array.getElem?_toList] at e2
          simp [Array.getElem!_eq_getD, Array.getD_eq_getD_getElem?, e2]
        constructor
        · simp only [World.cell?, hwb, Nat.zero_add, e1]
          simp [hjc]
        · simp [World.frozen?, hwb]
      have hc := Go.Proofs.AnyQ.slices_SortFunc Ly k aE zE enc hk h1 cf hO g #[] b 0 c es.toArray w eg (fun _ _ _ _ x y => by simpa using hcmp x y _) hH hblk (by rw [hdsz]; exact hsz)
      rw [hdsz] at hc
      refine hc.mono fun e w' ⟨he, d', q, os, hp, hsrt, hw⟩ => ?_
      obtain ⟨hp1, -, hp3⟩ := hp
      have hd' : d'.size = n := by rw [hp1, hdsz]
      have hF' : (Sort.flatK enc k d').toList = (d'.toList.map enc).flatten := flatK_list hk hk0 d'
      have hFs : (Sort.flatK enc k d').size = n * k := by rw [Sort.size_flatK, hd']
      generalize hFd : Sort.flatK enc k d' = F at hF' hFs
      have hwe : w' = Sort.grow (Sort.mapBlock (Sort.ahead w q) b (Sort.putCells id 0 F)) os := by rw [hw, ← hFd]; rfl
      have hbs : (Sort.mapBlock (Sort.ahead w q) b (Sort.putCells id 0 F)).heap.size = w.heap.size := by simp [Sort.mapBlock, Sort.ahead]
      have hlow : ∀ x, x < w.heap.size → w'.heap[x]? = (Sort.mapBlock (Sort.ahead w q) b (Sort.putCells id 0 F)).heap[x]? := fun x hx => by
        rw [hwe]; simp only [Sort.grow]; rw [Array.getElem?_append_left (by rw [hbs]; exact hx)]
      have hat : w'.heap[b]? = some (.cells (Sort.putCells id 0 F cur) t (0, 0)) := by
        rw [hlow b hblk]; exact mapBlock_at (Sort.ahead w q) b _ hwb
      have hoth : ∀ x o, x ≠ b → h x = some o → w'.heap[x]? = some o := fun x o hx ho => by
        have hx2 : x < w.heap.size := by
          rw [← hon] at ho; exact (Array.getElem?_eq_some_iff.1 ho).1
        rw [hlow x hx2, mapBlock_ne _ _ _ _ hx]
        show w.heap[x]? = _
        rw [hon]; exact ho
      have hcs : (Sort.putCells id 0 F cur).size = cur.size := by simp [Sort.putCells]
      have htk : (Sort.putCells id 0 F cur).toList.take (n * k) = (d'.toList.map enc).flatten := by
        rw [← hF']
        apply List.ext_getElem?
        intro j
        rw [List.getElem?_take]
        by_cases hj : j < n * k
        · rw [if_pos hj]
          have hjc : j < cur.size := Nat.lt_of_lt_of_le hj hnk
          have hjF : j < F.size := by rw [hFs]; exact hj
          rw [Array.getElem?_toList, Array.getElem?_toList, Array.getElem?_eq_getElem hjF]
          simp only [Sort.putCells, Array.getElem?_mapIdx, Array.getElem?_eq_getElem hjc, Option.map_some, Nat.zero_le, Nat.zero_add, hjF, true_and, if_true, Nat.sub_zero, id, Option.some.injEq]
          exact getElem!_pos F j hjF
        · rw [if_neg hj, List.getElem?_eq_none (by rw [Array.length_toList, hFs]; omega)]
      have hperm : d'.toList.Perm es := by
        have e1 : d'.extract 0 n = d' := by rw [← hd']; simp
        have e2 : es.toArray.extract 0 n = es.toArray := by rw [← hdsz]; simp
        rw [e1, e2] at hp3
        simpa using hp3
      refine ⟨_, fun x => w'.heap[x]?, _, he, fun _ => rfl, ?_, ⟨d'.toList, hperm, ?_, rfl⟩, ?_⟩
      · rw [hwe]
        refine ⟨rfl, rfl, rfl, ?_, ?_⟩
        · simp only [Sort.grow, Array.size_append, hbs]; omega
        · show w.drawn ≤ w.drawn + q; omega
      · rw [List.pairwise_iff_getElem]
        intro i j hi hj hij
        have hi' : i < d'.size := by simpa using hi
        have hj' : j < d'.size := by simpa using hj
        have := hsrt i j (Nat.zero_le _) hij (by omega)
        rw [getElem!_pos d' i hi', getElem!_pos d' j hj'] at this
        simpa using this
      · refine hs.turn (i := 0) rfl fun m1 hm1 hsub => ⟨single b (.cells (Sort.putCells id 0 F cur) t (0, 0)), ⟨?_, .inr ⟨b, _, rfl, rfl, h3, h4, by rw [hcs, h5], htk⟩⟩, ?_, fun x hx => .inl ?_, fun x hx _ o ho => ?_, fun x o hx => ?_⟩
        · rw [← hF', Array.length_toList, hFs]
        · exact ⟨w'.heap.size, fun x hx => by simp [hx]⟩
        · obtain ⟨-, hm1⟩ := hm1
          rcases hm1 with ⟨h0, -⟩ | ⟨g2, cur2, h0, rfl, -⟩
          · cases h0
          · cases h0
            have : x ≠ b := by rintro rfl; rw [single_at] at hx; cases hx
            exact single_ne this
        · obtain ⟨-, hm1⟩ := hm1
          rcases hm1 with ⟨h0, -⟩ | ⟨g2, cur2, h0, rfl, -⟩
          · cases h0
          · cases h0
            have : x ≠ b := by rintro rfl; rw [single_at] at hx; cases hx
            exact hoth x o this ho
        · by_cases hxx : x = b
          · subst hxx; rw [single_at] at hx; rw [← hx]; exact hat
          · rw [single_ne hxx] at hx; cases hx
end Go.Eng
