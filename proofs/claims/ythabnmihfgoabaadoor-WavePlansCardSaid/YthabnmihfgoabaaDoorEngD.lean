/-
  Lemmas for the walk: how the machine steps, and what each step needs; no condition.
-/
import Derived.Test.YthabnmihfgoabaaDoorEngC
import Derived.Shelf.SlSortCmp.WholeK
import Derived.Shelf.SlSortCmp.Whole1
import Derived.LaidMore
import Derived.OpenShut
namespace Go.Eng
open Go

/-! ### The library's contracts, for the walk -/
theorem Tr.of_calls {P : Program} {g : FuncId} {args : List Value} {R : Hp} {L : List HA} {Q : Value → List HA → Prop} (hc : Callable P g)
    (H : ∀ w h, On w h → Sat R L h → Calls P g args.toArray w fun e w' => ∃ v h' L', e = .returned v ∧ On w' h' ∧ Keep w w' ∧ Q v L' ∧ Sat R L' h') : Tr P g args R L Q := by
  refine ⟨hc, fun h hs w hon c cs => ?_⟩
  obtain ⟨e, w', fr, ⟨v, h', L', rfl, h1, h2, h3, h4⟩, h5, h6, h7⟩ := H w h hon hs (c :: cs)
  exact ⟨v, w', h', h1, ⟨L', h3, h4⟩, h2, Steps.trans h5 (.one (step_leave_returned h7))⟩

theorem grown_of {w w' : World} {h h' : Hp} (o : On w h) (o' : On w' h') (s : Sub h h') (k : Keep w w') : ∃ q os', w' = Sort.grow (w.drewN q) os' := by
  refine ⟨w'.drawn - w.drawn, w'.heap.extract w.heap.size w'.heap.size, ?_⟩
  have hheap : w'.heap = w.heap ++ w'.heap.extract w.heap.size w'.heap.size := by
    apply Array.ext_getElem?
    intro i
    by_cases hi : i < w.heap.size
    · rw [Array.getElem?_append_left hi, o' i]
      have e : h i = some w.heap[i] := by rw [← o i]; exact Array.getElem?_eq_getElem hi
      rw [s i _ e, Array.getElem?_eq_getElem hi]
    · rw [Array.getElem?_append_right (by omega), Array.getElem?_extract]
      have := k.size
      split
      · congr 1; omega
      · rw [Array.getElem?_eq_none (by omega)]
  have hd : w.drawn + (w'.drawn - w.drawn) = w'.drawn := by have := k.drawn; omega
  obtain ⟨h1, h2, h3, h4, h5⟩ := w'
  have k1 := k.os; have k2 := k.tape; have k3 := k.output
  simp only at hheap hd k1 k2 k3
  simp only [Sort.grow, World.drewN, World.mk.injEq]
  exact ⟨hheap, k2, hd.symm, k1, k3⟩

theorem flatK_list {α : Type} [Inhabited α] {enc : α → List Value} {k : Nat} (hk : ∀ x, (enc x).length = k) (hk0 : 0 < k) (d : Array α) : (Sort.flatK enc k d).toList = (d.toList.map enc).flatten := by
  have hlen : ∀ xs : List α, (xs.map enc).flatten.length = xs.length * k := by
    intro xs
    induction xs with
    | nil => simp
    | cons x r ih => simp only [List.map_cons, List.flatten_cons, List.length_append, hk, ih, List.length_cons, Nat.add_mul]; omega
  apply List.ext_getElem?
  intro j
  have hl : (d.toList.map enc).flatten.length = d.size * k := hlen d.toList
  by_cases hj : j < d.size * k
  · have h1 : (d.toList.map enc).flatten[j]? = some ((d.toList.map enc).flatten[j]'(by rw [hl]; exact hj)) := List.getElem?_eq_getElem _
    obtain ⟨x, h2, h3⟩ := flat_at hk hk0 _ _ _ h1
    rw [h1, Array.getElem?_toList, Sort.flatK, Array.getElem?_map, Array.getElem?_range, if_pos hj]
    simp only [Option.map_some, Option.some.injEq]
    have h4 : d[j / k]! = x := by
      rw [Array.getElem?_toList] at h2
      simp [Array.getElem!_eq_getD, Array.getD_eq_getD_getElem?, h2]
    rw [h4]
    simp [List.getElem!_eq_getElem?_getD, h3]
  · rw [List.getElem?_eq_none (by simp; omega), List.getElem?_eq_none (by rw [hl]; omega)]

/-- the array's cells, turned: the block -/
theorem mapBlock_at (w : World) (g : Nat) (f : Array Value → Array Value) {cur t fr} (hg : w.heap[g]? = some (.cells cur t fr)) : (Sort.mapBlock w g f).heap[g]? = some (.cells (f cur) t fr) := by
  have hlt : g < w.heap.size := (Array.getElem?_eq_some_iff.1 hg).1
  simp only [Sort.mapBlock, Array.getElem?_modify]
  simp [hg, Sort.onCells]
theorem mapBlock_ne (w : World) (g k : Nat) (f : Array Value → Array Value) (h : k ≠ g) : (Sort.mapBlock w g f).heap[k]? = w.heap[k]? := by
  simp [Sort.mapBlock, Array.getElem?_modify, Ne.symm h]

theorem Tr.sort {α : Type} [Inhabited α] {P : Program} {ρ : Go.Shelf.Ren} (Ly : Go.Proofs.SlLaysF0.n6 P ρ) (hcall : Callable P (ρ.f 6)) (k : Nat) (hk0 : 0 < k) (aE : ∀ w, (isAgg (ρ.t 24)).run P w = .ok true w) (zE : ∀ w, (Go.sizeOf (ρ.t 24)).run P w = .ok k w)
    (enc : α → List Value) (hk : ∀ x, (enc x).length = k) (h1 : ∀ x, ∀ v ∈ enc x, v.oneCell' = true) (cf : α → α → Int) (hO : Sort.SWO (Go.Proofs.ltOf cf)) (g : Nat)
    (eg : ∀ args w, (callFunc g args).run P w = .ok (.enter g args) w)
    (hcmp : ∀ x y (w : World), Calls P g #[.agg (enc x).toArray, .agg (enc y).toArray] w fun e w' => e = .returned (.int .i64 (cf x y)) ∧ ∃ q os', w' = Sort.grow (w.drewN q) os')
    (hnone : ∀ (p : Option Addr) (cap : Nat) (fv : Value) (w : World), Calls P (ρ.f 6) #[.slice p 0 cap, fv] w fun e w' => e = .returned (.tuple #[]) ∧ w' = w)
    (t n c : Nat) (a : Option Addr) (es : List α) (R : Hp) (hsz : n < 4611686018427387904) :
    Tr P (ρ.f 6) [.slice a n c, .func (.func g) #[] #[]] R [ownS t k a n c (es.map enc).flatten]
      fun _ L' => ∃ es' : List α, es'.Perm es ∧ es'.Pairwise (fun x y => Go.Proofs.ltOf cf y x = false) ∧ L' = [ownS t k a n c (es'.map enc).flatten] := by
  refine Tr.of_calls hcall fun w h hon hs => ?_
  obtain ⟨hlen, hcase⟩ := hs.own (i := 0) rfl
  have hel : es.length = n := by
    have : (es.map enc).flatten.length = es.length * k := by
      clear hlen hcase hs
      induction es with
      | nil => simp
      | cons x r ih => simp only [List.map_cons, List.flatten_cons, List.length_append, hk, ih, List.length_cons, Nat.add_mul]; omega
    rw [this] at hlen
    exact Nat.eq_of_mul_eq_mul_right hk0 hlen
  by_cases hn : n = 0
  · subst hn
    have hes : es = [] := List.eq_nil_of_length_eq_zero hel
    subst hes
    refine (hnone a c _ w).mono fun e w' ⟨he, hw⟩ => ?_
    subst hw
    exact ⟨_, h, _, he, hon, .refl _, ⟨[], .refl [], List.Pairwise.nil, rfl⟩, hs⟩
  · rcases hcase with ⟨rfl, rfl, rfl⟩ | ⟨b, cur, rfl, hb, h3, h4, h5, h6⟩
    · exact absurd rfl hn
    · have hwb : w.heap[b]? = some (.cells cur t (0, 0)) := by rw [hon]; exact hb
      have hblk : b < w.heap.size := (Array.getElem?_eq_some_iff.1 hwb).1
      have hdsz : es.toArray.size = n := by simpa using hel
      have hF : (Sort.flatK enc k es.toArray).toList = (es.map enc).flatten := by rw [flatK_list hk hk0]
      have hnk : n * k ≤ cur.size := by rw [h5]; exact Nat.mul_le_mul_right _ h3
      have hH : Sort.HoldsK enc k w b 0 es.toArray := by
        intro j hj
        simp only [Sort.size_flatK, hdsz] at hj
        have hjc : j < cur.size := Nat.lt_of_lt_of_le hj hnk
        have e1 : (Sort.flatK enc k es.toArray)[j]! = cur[j] := by
          have e2 : (Sort.flatK enc k es.toArray).toList[j]? = some cur[j] := by
            rw [hF, ← h6, List.getElem?_take, if_pos hj]; simp [hjc]
          rw [Array.getElem?_toList] at e2
          simp [Array.getElem!_eq_getD, Array.getD_eq_getD_getElem?, e2]
        constructor
        · simp only [World.cell?, hwb, Nat.zero_add, e1]
          simp [hjc]
        · simp [World.frozen?, hwb]
      have hc := Go.Proofs.AnyQ.slices_SortFunc Ly k aE zE enc hk h1 cf hO g #[] b 0 c es.toArray w eg (fun _ _ _ _ x y => by simpa using hcmp x y _) hH hblk (by rw [hdsz]; exact hsz)
      rw [hdsz] at hc
      refine hc.mono fun e w' ⟨he, d', q, os, hp, hsrt, hw⟩ => ?_
      obtain ⟨hp1, -, hp3⟩ := hp
      have hd' : d'.size = n := by rw [hp1, hdsz]
      have hF' : (Sort.flatK enc k d').toList = (d'.toList.map enc).flatten := flatK_list hk hk0 d'
      have hFs : (Sort.flatK enc k d').size = n * k := by rw [Sort.size_flatK, hd']
      generalize hFd : Sort.flatK enc k d' = F at hF' hFs
      have hwe : w' = Sort.grow (Sort.mapBlock (Sort.ahead w q) b (Sort.putCells id 0 F)) os := by rw [hw, ← hFd]; rfl
      have hbs : (Sort.mapBlock (Sort.ahead w q) b (Sort.putCells id 0 F)).heap.size = w.heap.size := by simp [Sort.mapBlock, Sort.ahead]
      have hlow : ∀ x, x < w.heap.size → w'.heap[x]? = (Sort.mapBlock (Sort.ahead w q) b (Sort.putCells id 0 F)).heap[x]? := fun x hx => by
        rw [hwe]; simp only [Sort.grow]; rw [Array.getElem?_append_left (by rw [hbs]; exact hx)]
      have hat : w'.heap[b]? = some (.cells (Sort.putCells id 0 F cur) t (0, 0)) := by
        rw [hlow b hblk]; exact mapBlock_at (Sort.ahead w q) b _ hwb
      have hoth : ∀ x o, x ≠ b → h x = some o → w'.heap[x]? = some o := fun x o hx ho => by
        have hx2 : x < w.heap.size := by
          rw [← hon] at ho; exact (Array.getElem?_eq_some_iff.1 ho).1
        rw [hlow x hx2, mapBlock_ne _ _ _ _ hx]
        show w.heap[x]? = _
        rw [hon]; exact ho
      have hcs : (Sort.putCells id 0 F cur).size = cur.size := by simp [Sort.putCells]
      have htk : (Sort.putCells id 0 F cur).toList.take (n * k) = (d'.toList.map enc).flatten := by
        rw [← hF']
        apply List.ext_getElem?
        intro j
        rw [List.getElem?_take]
        by_cases hj : j < n * k
        · rw [if_pos hj]
          have hjc : j < cur.size := Nat.lt_of_lt_of_le hj hnk
          have hjF : j < F.size := by rw [hFs]; exact hj
          rw [Array.getElem?_toList, Array.getElem?_toList, Array.getElem?_eq_getElem hjF]
          simp only [Sort.putCells, Array.getElem?_mapIdx, Array.getElem?_eq_getElem hjc, Option.map_some, Nat.zero_le, Nat.zero_add, hjF, true_and, if_true, Nat.sub_zero, id, Option.some.injEq]
          exact getElem!_pos F j hjF
        · rw [if_neg hj, List.getElem?_eq_none (by rw [Array.length_toList, hFs]; omega)]
      have hperm : d'.toList.Perm es := by
        have e1 : d'.extract 0 n = d' := by rw [← hd']; simp
        have e2 : es.toArray.extract 0 n = es.toArray := by rw [← hdsz]; simp
        rw [e1, e2] at hp3
        simpa using hp3
      refine ⟨_, fun x => w'.heap[x]?, _, he, fun _ => rfl, ?_, ⟨d'.toList, hperm, ?_, rfl⟩, ?_⟩
      · rw [hwe]
        refine ⟨rfl, rfl, rfl, ?_, ?_⟩
        · simp only [Sort.grow, Array.size_append, hbs]; omega
        · show w.drawn ≤ w.drawn + q; omega
      · rw [List.pairwise_iff_getElem]
        intro i j hi hj hij
        have hi' : i < d'.size := by simpa using hi
        have hj' : j < d'.size := by simpa using hj
        have := hsrt i j (Nat.zero_le _) hij (by omega)
        rw [getElem!_pos d' i hi', getElem!_pos d' j hj'] at this
        simpa using this
      · refine hs.turn (i := 0) rfl fun m1 hm1 hsub => ⟨single b (.cells (Sort.putCells id 0 F cur) t (0, 0)), ⟨?_, .inr ⟨b, _, rfl, rfl, h3, h4, by rw [hcs, h5], htk⟩⟩, ?_, fun x hx => .inl ?_, fun x hx _ o ho => ?_, fun x o hx => ?_⟩
        · rw [← hF', Array.length_toList, hFs]
        · exact ⟨w'.heap.size, fun x hx => by simp [hx]⟩
        · obtain ⟨-, hm1⟩ := hm1
          rcases hm1 with ⟨h0, -⟩ | ⟨g2, cur2, h0, rfl, -⟩
          · cases h0
          · cases h0
            have : x ≠ b := by rintro rfl; rw [single_at] at hx; cases hx
            exact single_ne this
        · obtain ⟨-, hm1⟩ := hm1
          rcases hm1 with ⟨h0, -⟩ | ⟨g2, cur2, h0, rfl, -⟩
          · cases h0
          · cases h0
            have : x ≠ b := by rintro rfl; rw [single_at] at hx; cases hx
            exact hoth x o this ho
        · by_cases hxx : x = b
          · subst hxx; rw [single_at] at hx; rw [← hx]; exact hat
          · rw [single_ne hxx] at hx; cases hx
end Go.Eng
namespace Go.Eng
open Go

theorem Tr.sort1 {α : Type} [Inhabited α] {P : Program} {ρ : Go.Shelf.Ren} (Ly : Go.Proofs.SlLaysF.n6 P ρ) (hcall : Callable P (ρ.f 6))
    (enc : α → Value) (h1 : Go.Proofs.OneCell enc) (cf : α → α → Int) (hO : Sort.SWO (Go.Proofs.ltOf cf)) (g : Nat) (cb : Array Value)
    (eg : ∀ args w, (callFunc g args).run P w = .ok (.enter g args) w) (R : Hp)
    (hcmp : ∀ x y (w : World), (∀ k o, R k = some o → w.heap[k]? = some o) → Calls P g (#[enc x, enc y] ++ cb) w fun e w' => e = .returned (.int .i64 (cf x y)) ∧ ∃ q os', w' = Sort.grow (w.drewN q) os')
    (hnone : ∀ (p : Option Addr) (cap : Nat) (fv : Value) (w : World), Calls P (ρ.f 6) #[.slice p 0 cap, fv] w fun e w' => e = .returned (.tuple #[]) ∧ w' = w)
    (t n c : Nat) (a : Option Addr) (es : List α) (hsz : n < 4611686018427387904) :
    Tr P (ρ.f 6) [.slice a n c, .func (.func g) #[] cb] R [ownS t 1 a n c (es.map enc)]
      fun _ L' => ∃ es' : List α, es'.Perm es ∧ es'.Pairwise (fun x y => Go.Proofs.ltOf cf y x = false) ∧ L' = [ownS t 1 a n c (es'.map enc)] := by
  refine Tr.of_calls hcall fun w h hon hs => ?_
  obtain ⟨hlen, hcase⟩ := hs.own (i := 0) rfl
  have hel : es.length = n := by simpa using hlen
  by_cases hn : n = 0
  · subst hn
    have hes : es = [] := List.eq_nil_of_length_eq_zero hel
    subst hes
    refine (hnone a c _ w).mono fun e w' ⟨he, hw⟩ => ?_
    subst hw
    exact ⟨_, h, _, he, hon, .refl _, ⟨[], .refl [], List.Pairwise.nil, rfl⟩, hs⟩
  · rcases hcase with ⟨rfl, rfl, rfl⟩ | ⟨b, cur, rfl, hb, h3, h4, h5, h6⟩
    · exact absurd rfl hn
    · have hwb : w.heap[b]? = some (.cells cur t (0, 0)) := by rw [hon]; exact hb
      have hblk : b < w.heap.size := (Array.getElem?_eq_some_iff.1 hwb).1
      have hdsz : es.toArray.size = n := by simpa using hel
      simp only [Nat.mul_one] at h5 h6
      have hRb : R b = none := by
        obtain ⟨_, m, hL, d, _, _⟩ := hs
        obtain ⟨m1, m2, ⟨_, hm1⟩, hm2, dd, hm⟩ := hL
        rcases hm1 with ⟨h0, -⟩ | ⟨g2, cur2, h0, rfl, -⟩
        · cases h0
        · cases h0
          rcases d b with hh | hh
          · exact hh
          · rw [hm, single_at] at hh; cases hh
      have hH : Sort.Holds enc w b 0 es.toArray := by
        intro j hj
        rw [hdsz] at hj
        have hjc : j < cur.size := by omega
        have e1 : cur[j] = enc es.toArray[j]! := by
          have e2 : (es.map enc)[j]? = some cur[j] := by
            rw [← h6, List.getElem?_take, if_pos hj]; simp [hjc]
          rw [List.getElem?_map] at e2
          obtain ⟨z, hz1, hz2⟩ := Option.map_eq_some_iff.1 e2
          rw [← hz2]
          congr 1
          simp [Array.getElem!_eq_getD, Array.getD_eq_getD_getElem?, hz1]
        constructor
        · simp only [World.cell?, hwb, Nat.zero_add]
          simp [hjc, e1]
        · simp [World.frozen?, hwb]
      have hlowW : ∀ (q : Nat) (dk : Array α) (os : Array Obj) x, x < w.heap.size → (Go.Proofs.sortWorld enc w b 0 q dk os).heap[x]? = (Sort.mapBlock (Sort.ahead w q) b (Sort.putCells enc 0 dk)).heap[x]? := fun q dk os x hx => by
        show (Sort.grow (Sort.mapBlock (Sort.ahead w q) b (Sort.putCells enc 0 dk)) os).heap[x]? = _
        simp only [Sort.grow]; rw [Array.getElem?_append_left (by simp [Sort.mapBlock, Sort.ahead]; exact hx)]
      have hothW : ∀ (q : Nat) (dk : Array α) (os : Array Obj) x o, x ≠ b → h x = some o → (Go.Proofs.sortWorld enc w b 0 q dk os).heap[x]? = some o := fun q dk os x o hx ho => by
        have hx2 : x < w.heap.size := by
          rw [← hon] at ho; exact (Array.getElem?_eq_some_iff.1 ho).1
        rw [hlowW q dk os x hx2, mapBlock_ne _ _ _ _ hx]
        show w.heap[x]? = _
        rw [hon]; exact ho
      have hcm : Go.Proofs.CmpLays1 P g cb enc cf b 0 es.toArray.size w := fun q os dk _ x y =>
        hcmp x y _ fun k o hk => hothW q dk os k o (by rintro rfl; rw [hRb] at hk; cases hk) (hs.sub k o hk)
      have hc := Go.Proofs.Any.slices_SortFunc Ly enc h1 cf hO g cb b 0 c es.toArray w eg hcm hH hblk (by rw [hdsz]; exact hsz)
      rw [hdsz] at hc
      refine hc.mono fun e w' ⟨he, d', q, os, hp, hsrt, hw⟩ => ?_
      obtain ⟨hp1, -, hp3⟩ := hp
      have hd' : d'.size = n := by rw [hp1, hdsz]
      have hwe : w' = Sort.grow (Sort.mapBlock (Sort.ahead w q) b (Sort.putCells enc 0 d')) os := hw
      have hbs : (Sort.mapBlock (Sort.ahead w q) b (Sort.putCells enc 0 d')).heap.size = w.heap.size := by simp [Sort.mapBlock, Sort.ahead]
      have hat : w'.heap[b]? = some (.cells (Sort.putCells enc 0 d' cur) t (0, 0)) := by
        rw [hw, hlowW q d' os b hblk]; exact mapBlock_at (Sort.ahead w q) b _ hwb
      have hcs : (Sort.putCells enc 0 d' cur).size = cur.size := by simp [Sort.putCells]
      have htk : (Sort.putCells enc 0 d' cur).toList.take n = d'.toList.map enc := by
        apply List.ext_getElem?
        intro j
        rw [List.getElem?_take]
        by_cases hj : j < n
        · rw [if_pos hj]
          have hjc : j < cur.size := by omega
          have hjF : j < d'.size := by omega
          rw [Array.getElem?_toList, List.getElem?_map, Array.getElem?_toList, Array.getElem?_eq_getElem hjF]
          simp only [Sort.putCells, Array.getElem?_mapIdx, Array.getElem?_eq_getElem hjc, Option.map_some, Nat.zero_le, Nat.zero_add, hjF, true_and, if_true, Nat.sub_zero, Option.some.injEq]
          rw [getElem!_pos d' j hjF]
        · rw [if_neg hj, List.getElem?_eq_none (by simp; omega)]
      have hperm : d'.toList.Perm es := by
        have e1 : d'.extract 0 n = d' := by rw [← hd']; simp
        have e2 : es.toArray.extract 0 n = es.toArray := by rw [← hdsz]; simp
        rw [e1, e2] at hp3
        simpa using hp3
      refine ⟨_, fun x => w'.heap[x]?, _, he, fun _ => rfl, ?_, ⟨d'.toList, hperm, ?_, rfl⟩, ?_⟩
      · rw [hwe]
        refine ⟨rfl, rfl, rfl, ?_, ?_⟩
        · simp only [Sort.grow, Array.size_append, hbs]; omega
        · show w.drawn ≤ w.drawn + q; omega
      · rw [List.pairwise_iff_getElem]
        intro i j hi hj hij
        have hi' : i < d'.size := by simpa using hi
        have hj' : j < d'.size := by simpa using hj
        have := hsrt i j (Nat.zero_le _) hij (by omega)
        rw [getElem!_pos d' i hi', getElem!_pos d' j hj'] at this
        simpa using this
      · refine hs.turn (i := 0) rfl fun m1 hm1 hsub => ⟨single b (.cells (Sort.putCells enc 0 d' cur) t (0, 0)), ⟨?_, .inr ⟨b, _, rfl, rfl, h3, h4, by rw [hcs, h5, Nat.mul_one], by rw [Nat.mul_one]; exact htk⟩⟩, ?_, fun x hx => .inl ?_, fun x hx _ o ho => ?_, fun x o hx => ?_⟩
        · simp [hd']
        · exact ⟨w'.heap.size, fun x hx => by simp [hx]⟩
        · obtain ⟨-, hm1⟩ := hm1
          rcases hm1 with ⟨h0, -⟩ | ⟨g2, cur2, h0, rfl, -⟩
          · cases h0
          · cases h0
            have : x ≠ b := by rintro rfl; rw [single_at] at hx; cases hx
            exact single_ne this
        · obtain ⟨-, hm1⟩ := hm1
          rcases hm1 with ⟨h0, -⟩ | ⟨g2, cur2, h0, rfl, -⟩
          · cases h0
          · cases h0
            have : x ≠ b := by rintro rfl; rw [single_at] at hx; cases hx
            rw [hw]; exact hothW q d' os x o this ho
        · by_cases hxx : x = b
          · subst hxx; rw [single_at] at hx; rw [← hx]; exact hat
          · rw [single_ne hxx] at hx; cases hx
end Go.Eng
namespace Go.Eng
open Go

theorem Sat.low {R R' : Hp} {L : List HA} {h : Hp} (s : Sat R' L h) (hR : Sub R R') : Sat R L h := by
  obtain ⟨hf, m, hL, d, sR, sm⟩ := s
  refine ⟨hf, m, hL, fun x => ?_, hR.trans sR, sm⟩
  rcases d x with h0 | h0
  · left
    cases hx : R x with
    | none => rfl
    | some o => rw [hR x o hx] at h0; cases h0
  · exact .inr h0

section
variable {c : Cx} {R : Hp} {L : List HA} {l l' : List XO} {k k' : List Item} {pe pe' : PE} {f : Nat}

/-- what is owned is put to what stays -/
theorem Y.toRead {i : Nat} {A : HA} (hi : L[i]? = some A)
    (H : ∀ m R', A.den m → Sub R R' → Sub m R' → Y c R' l k pe (L.set i .emp)) : Y c R l k pe L := by
  intro D e h hx hs
  obtain ⟨hf, m, hL, d, sR, sm⟩ := hs
  obtain ⟨m1, m2, h1, d1, hm, hput⟩ := hL.take (idx1 hi)
  have dR := (disj_or hm).1 d
  have ss := (sub_or hm d1).1 sm
  have hL2 := hput .emp (fun _ => none) (fun _ => rfl) (fun _ => .inl rfl) m2 (fun b => by simp)
  have hset : (marksH D :: L).set (i + 1) .emp = marksH D :: L.set i .emp := rfl
  rw [hset] at hL2
  refine H m1 (fun b => (R b).or (m1 b)) h1 (fun b o hb => by simp [hb]) (fun b o hb => ?_) D e h hx ⟨hf, m2, hL2, fun b => ?_, fun b o hb => ?_, ss.2⟩
  · rcases dR.1 b with h0 | h0
    · simp [h0, hb]
    · rw [h0] at hb; cases hb
  · rcases dR.2 b with h0 | h0
    · rcases d1 b with h3 | h3
      · exact .inl (by simp [h0, h3])
      · exact .inr h3
    · exact .inr h0
  · rw [or_some] at hb
    rcases hb with hb | ⟨_, hb⟩
    · exact sR b o hb
    · exact ss.1 b o hb

/-- two owned things as one -/
theorem Y.join {i j : Nat} {A B C : HA} (hij : i ≠ j) (hi : L[i]? = some A) (hj : L[j]? = some B)
    (hC : ∀ m1 m2 m, A.den m1 → B.den m2 → Disj m1 m2 → Sub m1 m → Sub m2 m → (∀ b, m b = (m1 b).or (m2 b)) → C.den m)
    (H : Y c R l k pe ((L.set j .emp).set i C)) : Y c R l k pe L := by
  intro D e h hx hs
  refine H D e h hx ?_
  obtain ⟨hf, m, hL, d, sR, sm⟩ := hs
  obtain ⟨m1, m2, h1, d1, hm, hput⟩ := hL.take (idx1 hj)
  have hL2 := hput .emp (fun _ => none) (fun _ => rfl) (fun _ => .inl rfl) m2 (fun b => by simp)
  have hi2 : ((marksH D :: L).set (j + 1) .emp)[i + 1]? = some A := by
    rw [List.getElem?_set_ne (by omega)]; simpa using hi
  obtain ⟨ma, mb, ha, dab, hmab, hput2⟩ := hL2.take hi2
  have dd := (disj_or hmab).1 d1
  refine ⟨hf, m, hput2 C (fun b => (ma b).or (m1 b)) (hC ma m1 _ ha h1 dd.1.symm (fun b o hb => by simp [hb]) (fun b o hb => ?_) (fun _ => rfl)) ?_ m ?_, d, sR, sm⟩
  · rcases dd.1 b with h0 | h0
    · rw [h0] at hb; cases hb
    · simp [h0, hb]
  · exact ((disj_or (fun _ => rfl)).2 ⟨dab.symm, dd.2.symm⟩).symm
  · intro b
    rw [hm, hmab]
    rcases dd.1 b with h0 | h0
    · simp [h0]
    · simp [h0]

theorem ownS_rd {e size n cp : Nat} {a : Option Addr} {xs : List Value} {m : Hp} (h : (ownS e size a n cp xs).den m) : RdAt m a xs := by
  obtain ⟨h1, h2⟩ := h
  rcases h2 with ⟨rfl, rfl, rfl, -⟩ | ⟨g, cur, rfl, rfl, h3, h4, h5, h6⟩
  · left; exact List.eq_nil_of_length_eq_zero (by simpa using h1)
  · exact RdAt.of_block (single_at _ _) (by rw [List.drop_zero, ← h6]; exact List.take_prefix _ _)

theorem ownS_len {e size n cp : Nat} {a : Option Addr} {xs : List Value} {m : Hp} (h : (ownS e size a n cp xs).den m) : xs.length = n * size ∧ n ≤ maxLen := by
  obtain ⟨h1, h2⟩ := h
  refine ⟨h1, ?_⟩
  rcases h2 with ⟨rfl, rfl, rfl, -⟩ | ⟨g, cur, rfl, rfl, h3, h4, h5, h6⟩
  · exact Nat.zero_le _
  · omega

/-- a map in what stays -/
def MapIn {κ : Type} (enc : κ → Value) (R : Hp) (b : Nat) (kvs : List (κ × Value)) : Prop := ∃ es ck, R b = some (.map es ck) ∧ MapOk enc es ck kvs
theorem MapIn.mono {κ : Type} {enc : κ → Value} {R R' : Hp} {b : Nat} {kvs} (h : MapIn enc R b kvs) (s : Sub R R') : MapIn enc R' b kvs :=
  let ⟨es, ck, a, k⟩ := h; ⟨es, ck, s _ _ a, k⟩
theorem MapIn.of {κ : Type} {enc : κ → Value} {m : Hp} {b : Nat} {kvs} (h : (mapH enc b kvs).den m) : MapIn enc m b kvs := by
  obtain ⟨es, ck, rfl, h⟩ := h
  exact ⟨es, ck, single_at _ _, h⟩

variable {κ : Type} {enc : κ → Value}
theorem X_lookR [DecidableEq κ] {d t x kx cok ty ps af gd g} {b kt et : Nat} {ti tj : TI} {s : SV} {kvs : List (κ × Value)} (K : KL c.P kt enc) (key : κ)
    (ha : adv c.n c.T f l k pe = .op ⟨⟨d, .lookup t x kx cok, ty, ps, af, gd⟩, g, .read⟩ l' k' pe')
    (hx : opv pe' x = some (.v (.map (some b)))) (hk : opv pe' kx = some s) (hke : s.den = enc key) (hi : MapIn enc R b kvs)
    (ht : tget c.T t = some ti) (htd : ti.td = .map kt et) (he : tget c.T et = some tj)
    (H1 : ∀ v, aget key kvs = some v → Y c R l' k' (pput pe' d (.v (found cok v true))) L)
    (H2 : aget key kvs = none → Y c R l' k' (pput pe' d (.v (found cok tj.zv false))) L) : Y c R l k pe L := by
  refine Y.of_adv ha (YS.read fun D e h hE hs => ?_)
  obtain ⟨es, ck, hb0, hok⟩ := hi
  have hb := hs.sub _ _ hb0
  have main : ∀ w h2, Sub h h2 → On w h2 → (∃ v, aget key kvs = some v ∧ (execOp (evalE e) ⟨d, .lookup t x kx cok, ty, ps, af, gd⟩).run c.P w = .ok (.value (found cok v true)) w) ∨
      (aget key kvs = none ∧ (execOp (evalE e) ⟨d, .lookup t x kx cok, ty, ps, af, gd⟩).run c.P w = .ok (.value (found cok tj.zv false)) w) := by
    intro w h2 hsub hon
    obtain ⟨dd, hdd, hfit⟩ := run_underlying' (w := w) c.hT ht
    rw [htd] at hfit; simp only [TD.fits] at hfit; subst hfit
    have hget : (getObj b).run c.P w = .ok (.map es ck) w := by
      have := hsub b _ hb; rw [← hon] at this
      simp [getObj, Sem.run, this]
    rcases K.find key es.toList (kvs.map (·.1)) w hok.keys with ⟨hn, hf⟩ | ⟨j, en, hf, hej, hkj⟩
    · refine .inr ⟨aget_none hn, ?_⟩
      simp only [execOp, ev_v hE hx, ev_s hE hk hke, Sem.run_bind, Instr.lookup, hdd, Result.andThen, hget, Sem.run_pure, K.check, hf, run_zv c.hT he, found]
    · refine .inl ⟨en.val, aget_at hok.nodup (hok.at hej hkj), ?_⟩
      simp only [execOp, ev_v hE hx, ev_s hE hk hke, Sem.run_bind, Instr.lookup, hdd, Result.andThen, hget, Sem.run_pure, K.check, hf, found]
  cases hg : aget key kvs with
  | none =>
    refine ⟨_, fun w h2 hsub hon => ?_, H2 hg D _ h hE.put hs⟩
    rcases main w h2 hsub hon with ⟨v, hv, _⟩ | ⟨_, hr⟩
    · rw [hg] at hv; cases hv
    · exact hr
  | some v =>
    refine ⟨_, fun w h2 hsub hon => ?_, H1 v hg D _ h hE.put hs⟩
    rcases main w h2 hsub hon with ⟨v', hv, hr⟩ | ⟨hv, _⟩
    · rw [hg] at hv; cases hv; exact hr
    · rw [hg] at hv; cases hv

def lookV (cok : Bool) (z : Value) : Option Value → Value
  | some v => found cok v true
  | none => found cok z false
theorem X_lookRV [DecidableEq κ] {d t x kx cok ty ps af gd g} {b kt et : Nat} {ti tj : TI} {s : SV} {kvs : List (κ × Value)} (K : KL c.P kt enc) (key : κ) (u : Value)
    (ha : adv c.n c.T f l k pe = .op ⟨⟨d, .lookup t x kx cok, ty, ps, af, gd⟩, g, .read⟩ l' k' pe')
    (hx : opv pe' x = some (.v (.map (some b)))) (hk : opv pe' kx = some s) (hke : s.den = enc key) (hi : MapIn enc R b kvs)
    (ht : tget c.T t = some ti) (htd : ti.td = .map kt et) (he : tget c.T et = some tj) (hu : lookV cok tj.zv (aget key kvs) = u)
    (H : Y c R l' k' (pput pe' d (.v u)) L) : Y c R l k pe L :=
  X_lookR K key ha hx hk hke hi ht htd he (fun v hv => by rw [hv] at hu; rw [show found cok v true = u from hu]; exact H) (fun hn => by rw [hn] at hu; rw [show found cok tj.zv false = u from hu]; exact H)
theorem X_lookLV [DecidableEq κ] {d t x kx cok ty ps af gd g} {i b kt et : Nat} {ti tj : TI} {s : SV} {kvs : List (κ × Value)} (K : KL c.P kt enc) (key : κ) (u : Value)
    (ha : adv c.n c.T f l k pe = .op ⟨⟨d, .lookup t x kx cok, ty, ps, af, gd⟩, g, .read⟩ l' k' pe')
    (hx : opv pe' x = some (.v (.map (some b)))) (hk : opv pe' kx = some s) (hke : s.den = enc key) (hi : L[i]? = some (mapH enc b kvs))
    (ht : tget c.T t = some ti) (htd : ti.td = .map kt et) (he : tget c.T et = some tj) (hu : lookV cok tj.zv (aget key kvs) = u)
    (H : Y c R l' k' (pput pe' d (.v u)) L) : Y c R l k pe L :=
  X_look K key ha hx hk hke hi ht htd he (fun v hv => by rw [hv] at hu; rw [show found cok v true = u from hu]; exact H) (fun hn => by rw [hn] at hu; rw [show found cok tj.zv false = u from hu]; exact H)

def slV (v : Option Addr × Nat × Nat) : Value := .slice v.1 v.2.1 v.2.2
/-- the inner slices of a list of lists -/
def innersH (vs : List (Option Addr × Nat × Nat)) (xss : List (List Int)) : HA :=
  .pred fun m => vs.length = xss.length ∧ ∀ (j : Nat) v xs, vs[j]? = some v → xss[j]? = some xs → IntsIn m v.1 v.2.1 xs
/-- a list of lists, in what stays -/
structure ListsIn (R : Hp) (a : Option Addr) (n : Nat) (vs : List (Option Addr × Nat × Nat)) (xss : List (List Int)) : Prop where
  lv : vs.length = n
  lx : xss.length = n
  small : n ≤ maxLen
  rd : RdAt R a (vs.map slV)
  inn : ∀ (j : Nat) v xs, vs[j]? = some v → xss[j]? = some xs → IntsIn R v.1 v.2.1 xs
end
end Go.Eng
namespace Go.Eng
open Go

theorem ar_mulN {a b : Nat} (h : a * b < 4294967296) : arI .mul .u32 a b = some ((a * b : Nat) : Int) := by
  simp only [arI]
  rw [show ((a : Int) * b) = ((a * b : Nat) : Int) by simp, u32_wrap h]
theorem ar_addN {a b : Nat} (h : a + b < 4294967296) : arI .add .u32 a b = some ((a + b : Nat) : Int) := by
  simp only [arI]
  rw [show ((a : Int) + b) = ((a + b : Nat) : Int) by simp, u32_wrap h]
theorem ar_remN {k : IntKind} {a b : Nat} (h : 0 < b) : arI .rem k a b = some ((a % b : Nat) : Int) := by
  simp only [arI]
  rw [if_neg (by omega), Int.tmod_eq_emod_of_nonneg (by omega)]
  simp

theorem innersH_snoc {ws : List (Option Addr × Nat × Nat)} {xss : List (List Int)} {e : Nat} {a : Option Addr} {n c : Nat} {xs : List Int} {m1 m2 m : Hp}
    (hA : (innersH ws xss).den m1) (hB : (ownS e 1 a n c (xs.map iV)).den m2) (hs1 : Sub m1 m) (hs2 : Sub m2 m) : (innersH (ws ++ [(a, n, c)]) (xss ++ [xs])).den m := by
  obtain ⟨hA1, hA2⟩ := hA
  refine ⟨by simp [hA1], fun j v ys hv hx => ?_⟩
  rcases Nat.lt_trichotomy j ws.length with hj | hj | hj
  · rw [List.getElem?_append_left hj] at hv
    rw [List.getElem?_append_left (by omega)] at hx
    exact (hA2 j v ys hv hx).mono hs1
  · subst hj
    rw [List.getElem?_append_right (Nat.le_refl _)] at hv
    rw [List.getElem?_append_right (by omega), hA1] at hx
    simp at hv hx
    subst hv; subst hx
    have hl := ownS_len hB
    have h2 : maxLen ≤ 9223372036854775807 := by simp only [maxLen]; omega
    exact ⟨by simpa using hl.1, (ownS_rd hB).mono hs2, by show n ≤ _; omega⟩
  · rw [List.getElem?_eq_none (by simp; omega)] at hv; cases hv

/-- a part of what is read -/
theorem RdAt.part {h : Hp} {a : Option Addr} {n cp fr to k : Nat} {xs : List Value} (hr : RdAt h a xs) (hl : xs.length = n * k) (h1 : fr ≤ to) (h2 : to ≤ n) (h3 : n ≤ cp) :
    RdAt h (if ((cp : Nat) : Int).toNat = ((fr : Nat) : Int).toNat then a else a.map (·.add (((fr : Nat) : Int).toNat * k))) ((xs.take (to * k)).drop (fr * k)) := by
  simp only [Int.toNat_natCast]
  by_cases hc : cp = fr
  · rw [if_pos hc]
    left
    have e1 : to = fr := by omega
    subst e1
    exact List.drop_eq_nil_of_le (by rw [List.length_take]; omega)
  · rw [if_neg hc]
    rcases hr with h0 | ⟨b, o, rfl, hr⟩
    · left; subst h0; simp
    · right
      refine ⟨b, o + fr * k, by simp [add_pl], fun j v hj => ?_⟩
      rw [List.getElem?_drop] at hj
      have hlt : fr * k + j < to * k := by
        by_cases hh : fr * k + j < to * k
        · exact hh
        · rw [List.getElem?_take, if_neg hh] at hj; cases hj
      rw [List.getElem?_take, if_pos hlt] at hj
      have := hr _ _ hj
      rw [Nat.add_assoc]; exact this

section
variable {c : Cx} {R : Hp} {L : List HA} {l l' : List XO} {k k' : List Item} {pe pe' : PE} {f : Nat}
theorem Y.ownLe {i e size n cp : Nat} {a : Option Addr} {xs : List Value} (hi : L[i]? = some (ownS e size a n cp xs)) (H : xs.length = n * size → n ≤ cp → cp ≤ maxLen → Y c R l k pe L) : Y c R l k pe L := by
  intro D en h hx hs
  obtain ⟨h1, h2⟩ := hs.own (idx1 hi)
  rcases h2 with ⟨rfl, rfl, rfl⟩ | ⟨g, cur, rfl, hg, h3, h4, h5, h6⟩
  · exact H h1 (Nat.le_refl _) (Nat.zero_le _) D en h hx hs
  · exact H h1 h3 h4 D en h hx hs

/-- append of any many, onto what is one's own -/
theorem X_app {d t s x ty ps af gd g} {i e size n cp m c2 : Nat} {a a2 : Option Addr} {ti te : TI} {xs : List Value} (news : List Value)
    (ha : adv c.n c.T f l k pe = .op ⟨⟨d, .call ⟨.builtin .append, #[s, x], #[t, t]⟩, ty, ps, af, gd⟩, g, .other⟩ l' k' pe')
    (hx : opv pe' s = some (.v (.slice a n cp))) (hx2 : opv pe' x = some (.v (.slice a2 m c2))) (hi : L[i]? = some (ownS e size a n cp xs))
    (ht : tget c.T t = some ti) (htd : ti.td = .slice e) (hte : tget c.T e = some te) (hsz : te.size = size) (hzl : te.zero.length = size)
    (hl : news.length = m * size) (h0 : 0 < size) (hone : news.all Value.oneCell' = true) (hby : (n + m) * te.bytes ≤ 140737488355328) (h63 : n + m ≤ 9223372036854775807)
    (hrd : ∀ A h, Sat R (A :: L) h → RdAt h a2 news)
    (H : ∀ a' c', Y c R l' k' (pput pe' d (.v (.slice a' (n + m) c'))) (L.set i (ownS e size a' (n + m) c' (xs ++ news)))) : Y c R l k pe L := by
  by_cases hm : 0 < m
  · exact X_append news ha hx hx2 hi ht htd hte hsz hzl hm hl h0 hone hby h63 hrd H
  · have hm0 : m = 0 := by omega
    subst hm0
    have hn : news = [] := List.eq_nil_of_length_eq_zero (by simpa using hl)
    subst hn
    refine Y.ownLe hi fun _ hle _ => ?_
    have hset : L.set i (ownS e size a n cp xs) = L := by
      apply List.ext_getElem?
      intro j
      by_cases e : i = j
      · subst e; rw [List.getElem?_set_self (by exact (List.getElem?_eq_some_iff.1 hi).1), hi]
      · rw [List.getElem?_set_ne e]
    have H' := H a cp
    rw [List.append_nil, Nat.add_zero, hset] at H'
    exact X_append0 ha hx hx2 ht htd hte hle H'
end
end Go.Eng
namespace Go.Eng
open Go

theorem ListsIn.mono {R R' : Hp} {a n vs xss} (h : ListsIn R a n vs xss) (s : Sub R R') : ListsIn R' a n vs xss :=
  ⟨h.lv, h.lx, h.small, h.rd.mono s, fun j v xs hv hx => (h.inn j v xs hv hx).mono s⟩
theorem ListsIn.at {R : Hp} {a n vs xss} (h : ListsIn R a n vs xss) {i : Nat} (hi : i < n) :
    ∃ b o, a = some ⟨b, o, none⟩ ∧ ∃ v xs, vs[i]? = some v ∧ xss[i]? = some xs ∧ R.cell ⟨b, o + i, none⟩ = some (.slice v.1 v.2.1 v.2.2) ∧ IntsIn R v.1 v.2.1 xs := by
  have h1 : i < vs.length := by rw [h.lv]; exact hi
  have h2 : i < xss.length := by rw [h.lx]; exact hi
  have hc : (vs.map slV)[i]? = some (slV vs[i]) := by simp [h1]
  rcases h.rd with h0 | ⟨b, o, rfl, hr⟩
  · rw [h0] at hc; simp at hc
  · exact ⟨b, o, rfl, vs[i], xss[i], by simp [h1], by simp [h2], hr _ _ hc, h.inn i _ _ (by simp [h1]) (by simp [h2])⟩

section
variable {c : Cx} {R : Hp} {L : List HA} {l l' : List XO} {k k' : List Item} {pe pe' : PE} {f : Nat}
theorem Y.lists {i j e n cp : Nat} {a : Option Addr} {vs : List (Option Addr × Nat × Nat)} {xss : List (List Int)} (hij : i ≠ j)
    (hi : L[i]? = some (ownS e 1 a n cp (vs.map slV))) (hj : L[j]? = some (innersH vs xss))
    (H : ∀ R', Sub R R' → ListsIn R' a n vs xss → Y c R' l k pe ((L.set i .emp).set j .emp)) : Y c R l k pe L := by
  refine Y.toRead hi fun m R1 hm hR1 hm1 => ?_
  refine Y.toRead (i := j) (A := innersH vs xss) (by rw [List.getElem?_set_ne hij]; exact hj) fun m2 R2 hm2 hR2 hm3 => ?_
  have hl := ownS_len hm
  have hv : vs.length = n := by simpa using hl.1
  exact H R2 (hR1.trans hR2) ⟨hv, by rw [← hm2.1, hv], hl.2, (ownS_rd hm).mono (hm1.trans hR2), fun j v xs h1 h2 => (hm2.2 j v xs h1 h2).mono hm3⟩
end
end Go.Eng
namespace Go.Eng
open Go Go.ChangeShapes Go.WideShapes Go.RowKit Go.Deep

/-- a table of numbers, from what its datum says -/
theorem tab_of {H : Type} {enc : TypeId × Value → H} {P : Program} {w : World} {base : Nat} {sp : Nat → Bool} {held : Bool} {fuel t e N : Nat} {k : IntKind} {cs : List Value} {zs : List Int} {p : List MemPlace}
    (ht : P.underlying t = some (.array N e)) (he : P.underlying e = some (.int k)) (hc : P.cellsOf e = 1)
    (hd : DataW.trod enc P w base sp held fuel t cs = some (.agg (zs.map fun z => (DataW.lit (Lit.int k z) : DataW H)), p)) : ∀ (i : Nat) (z : Int), zs[i]? = some z → cs[i]? = some (Value.int k z) := by
  obtain ⟨xs, m1, rfl, hx1, hlen, hn3, hel⟩ := DataW.trod_array ht hd
  simp only [Prod.mk.injEq, DataW.agg.injEq] at hx1
  intro i z hi
  have h1 : (xs.map (·.1))[i]? = some (DataW.lit (Lit.int k z)) := by rw [← hx1.1]; simp [hi]
  have hlt : i < N := by
    have := (List.getElem?_eq_some_iff.1 h1).1
    simp at this; omega
  have h2 := hel i hlt
  rw [List.getElem?_map] at h1
  obtain ⟨y, hy, hy1⟩ := Option.map_eq_some_iff.1 h1
  rw [hy, hc] at h2
  obtain ⟨z', h3, h4, -⟩ := DataW.trod_int he h2
  have hz : z' = z := by rw [h4] at hy1; simpa using hy1
  subst hz
  have : ((cs.drop (i * 1)).take 1)[0]? = some (.int k z') := by rw [h3]; rfl
  rw [List.getElem?_take_of_lt (by omega), List.getElem?_drop] at this
  simpa using this

/-- an array of numbers -/
theorem open_arrI {H : Type} {enc : TypeId × Value → H} {P : Program} {w : World} {base b0 : Nat} {sp : Nat → Bool} {held : Bool} {t e N : Nat} {k : IntKind} {v : Value} {d : DataW H} {p : List MemPlace}
    (ht : P.underlying t = some (.array N e)) (he : P.underlying e = some (.int k)) (hc : P.cellsOf e = 1) (hcn : P.cellsOf t = N) (hval : Value.okWide P w .any b0 t v)
    (hd : DataW.Trod enc P w base sp held t v d p) : ∃ zs : List Int, zs.length = N ∧ v = .agg (zs.map (Value.int k)).toArray ∧ ∀ z ∈ zs, (Lit.int k z).wf = true := by
  obtain ⟨fuel, hf⟩ := hd
  have hagg : ∃ cs, v = .agg cs := by
    simp only [Value.okWide, ht] at hval
    cases v <;> simp_all [Cell.okWide, Cell.ok]
  obtain ⟨cs, rfl⟩ := hagg
  obtain ⟨xs, m1, -, hx1, hlen, hn3, hel⟩ := DataW.trod_array ht hf
  rw [hcn] at hlen
  have hl : cs.toList.length = N := hlen
  obtain ⟨Z, hZ⟩ := choose_lt (α := Int) (p := fun i z => cs.toList[i]? = some (.int k z) ∧ (Lit.int k z).wf = true) (n := N) (fun i hi => by
    have h2 := hel i hi
    rw [hc, List.getElem?_eq_getElem (by omega)] at h2
    obtain ⟨z, h3, -, h5⟩ := DataW.trod_int he h2
    refine ⟨z, ?_, h5⟩
    have : ((cs.toList.drop (i * 1)).take 1)[0]? = some (.int k z) := by
      have e : (Value.agg cs).cells.toList = cs.toList := rfl
      rw [e] at h3; rw [h3]; rfl
    rw [List.getElem?_take_of_lt (by omega), List.getElem?_drop] at this
    simpa using this)
  refine ⟨(List.range N).map Z, by simp, ?_, ?_⟩
  · congr 1
    apply Array.ext'
    apply List.ext_getElem?
    intro i
    by_cases hi : i < N
    · rw [(hZ i hi).1]; simp [hi]
    · rw [List.getElem?_eq_none (by omega), List.getElem?_eq_none (by simp; omega)]
  · intro z hz
    obtain ⟨i, hi, rfl⟩ := List.mem_map.1 hz
    exact (hZ i (by simpa using hi)).2
/-- a slice, its elements given by what their readings say -/
theorem open_listC {H : Type} {enc : TypeId × Value → H} {P : Program} {α : Type} [Inhabited α] (cells : α → List Value) (good : α → Prop) {t e : TypeId} {k : Nat} {w : World} {h : Hp} (o : On w h) {fuel : Nat} {cs : List Value} {y : DataW H × List MemPlace}
    (ht : P.underlying t = some (.slice e)) (hc : P.cellsOf e = k) (hk0 : 0 < k) (hk : ∀ x, (cells x).length = k)
    (hel : ∀ n cs y, DataW.trod enc P w 0 (fun _ => true) true n e cs = some y → ∃ x, cs = cells x ∧ good x)
    (hf : DataW.trod enc P w 0 (fun _ => true) true fuel t cs = some y) :
    ∃ (a : Option Addr) (n c : Nat) (xs : List α), cs = [.slice a n c] ∧ n ≤ c ∧ c ≤ maxLen ∧ xs.length = n ∧ RdAt h a (xs.map cells).flatten ∧ ∀ x ∈ xs, good x := by
  rcases open_slice ht hf with ⟨h0, -⟩ | ⟨a', len, cap, m, n', D, Pl, h0, hb, hl, hm, hmm, -, hx⟩
  · exact ⟨none, 0, 0, [], h0, Nat.le_refl _, Nat.zero_le _, rfl, .inl rfl, by simp⟩
  · simp only [if_true] at hmm
    subst hmm
    rw [hc] at hx
    obtain ⟨X, hX⟩ := choose_lt (α := α) (p := fun i x => w.cells? 0 (a'.add (i * k)) k = some (cells x) ∧ good x) (n := m) (fun i hi => by
      obtain ⟨cs', h1, h2⟩ := hx i hi
      obtain ⟨x, rfl, hg⟩ := hel _ _ _ h2
      exact ⟨x, h1, hg⟩)
    refine ⟨some a', len, m, (List.range len).map X, h0, hl, hm, by simp, rdAt_mk o ?_, ?_⟩
    · intro j v hj
      obtain ⟨x, h1, h2⟩ := flat_at hk hk0 _ _ _ hj
      rw [List.getElem?_map] at h1
      obtain ⟨i, h3, rfl⟩ := Option.map_eq_some_iff.1 h1
      obtain ⟨h4, h5⟩ := List.getElem?_eq_some_iff.1 h3
      simp at h4 h5
      subst h5
      have := (cells_get (hX (j / k) (by omega)).1).2 _ _ h2
      rw [Go.Deep.add_add] at this
      rw [← this]; congr 2
      rw [Nat.mul_comm]; exact (Nat.div_add_mod j k).symm
    · intro x hx
      obtain ⟨i, hi, rfl⟩ := List.mem_map.1 hx
      exact (hX i (by simp at hi; omega)).2


end Go.Eng
