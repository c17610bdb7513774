/-
  A REGION THAT DRAWS ITS ORDER, WHOSE OPERATIONS READ AND LAY NEW BLOCKS: the frame behind it written out: the old one with the slots that were written holding values of which is known what was asked.
-/
import Derived.Test.YtidkamnciomnmaaDoorGrow
namespace Go.Proofs.YtidkamnciomnmaaDoor
open Go.RowKit
section
variable {P : Program} {Q : Exit → Act → World → Prop}

def HoldsY (Φ : Nat → World → Value → Prop) (W : World) : List Oper → List Value → Prop
  | o :: L, y :: ys => (match o.dst with | some t => Φ t W y | none => True) ∧ HoldsY Φ W L ys
  | _, _ => True

theorem cons_of' {n : Nat} {l : List Value} (h : l.length = n + 1) : ∃ x r, l = x :: r ∧ r.length = n := by
  cases l with
  | nil => cases h
  | cons x r => exact ⟨x, r, rfl, by simpa using h⟩

theorem eval_put_same {a : Act} {t : Nat} {v : Value} (h : t < a.tmps.size) : (a.put (some t) v).eval (.tmp t) = v := by simp [Act.put, Act.eval, h]
theorem eval_put_other {a : Act} {d : Option Nat} {t : Nat} {v : Value} (h : d ≠ some t) : (a.put d v).eval (.tmp t) = a.eval (.tmp t) :=
  Act.eval_put (fun d' hd hx => h (by rw [hd]; injection hx with hx; rw [hx]))

/-- what b holds in the slot that o writes -/
def dstVal (b : Act) (o : Oper) : Value := match o.dst with | some t => b.eval (.tmp t) | none => undef

/-- puts of what b holds: each slot holds what b holds, or is untouched -/
theorem fold_same (b : Act) : ∀ (L : List Oper) (a : Act), (∀ o ∈ L, ∀ t, o.dst = some t → t < a.tmps.size) →
    ∀ t, (((L.zip (L.map (dstVal b))).foldl (fun a p => a.put p.1.dst p.2) a).eval (.tmp t) = b.eval (.tmp t)) ∨
      ((∀ o ∈ L, o.dst ≠ some t) ∧ ((L.zip (L.map (dstVal b))).foldl (fun a p => a.put p.1.dst p.2) a).eval (.tmp t) = a.eval (.tmp t))
  | [], _, _, _ => .inr ⟨fun _ h => absurd h List.not_mem_nil, rfl⟩
  | o :: L, a, h, t => by
    simp only [List.map_cons, List.zip_cons_cons, List.foldl_cons]
    have hsz : ∀ v, (a.put o.dst v).tmps.size = a.tmps.size := fun v => by cases o.dst <;> simp [Act.put]
    rcases fold_same b L (a.put o.dst (dstVal b o)) (fun o' ho' t' ht' => by rw [hsz]; exact h o' (List.mem_cons_of_mem _ ho') t' ht') t with h1 | ⟨h1, h2⟩
    · exact .inl h1
    · by_cases e : o.dst = some t
      · left
        rw [h2]
        unfold dstVal
        rw [e]
        exact eval_put_same (h o List.mem_cons_self t e)
      · right
        refine ⟨fun o' ho' => ?_, h2.trans (eval_put_other e)⟩
        rcases List.mem_cons.1 ho' with rfl | ho'
        · exact e
        · exact h1 o' ho'

theorem holdsY_of {Φ : Nat → World → Value → Prop} {W : World} (b : Act) : ∀ (L : List Oper), (∀ o ∈ L, ∀ t, o.dst = some t → Φ t W (b.eval (.tmp t))) → HoldsY Φ W L (L.map (dstVal b))
  | [], _ => trivial
  | o :: L, h => by
    refine ⟨?_, holdsY_of b L fun o' ho' => h o' (List.mem_cons_of_mem _ ho')⟩
    have := h o List.mem_cons_self
    unfold dstVal
    cases e : o.dst with
    | none => trivial
    | some t => simp only; exact this t e

/-- the law: the first n operations in whatever order, the rest as a list; the frame written out -/
theorem wp_region_growF {id : Nat} {a : Act} {w : World} {L : List Oper} (n : Nat) (Φ : Nat → World → Value → Prop) (hm : P.follows .mixedOrders = true) (hΦ : ∀ (t : Nat) (W W' : World) (v : Value), Φ t W v → Below W.heap.size W W' → Φ t W' v)
    (hs : shapeB L.toArray a.tmps.size = true) (hB : growOkB L.toArray n = true)
    (hstep : ∀ o ∈ L.take n, ∀ (a' : Act) (W : World), Below w.heap.size w W → Leans L.toArray n Φ a o a' W → Gives P Φ o a' W)
    (hQ : ∀ (ys : List Value) (W : World), ys.length = n → Below w.heap.size w W → HoldsY Φ W (L.take n) ys → wpList P L.toArray Q (L.drop n) (((L.take n).zip ys).foldl (fun a p => a.put p.1.dst p.2) a) W) :
    (Code.region id L.toArray true).wp P Q a w := by
  have hn : n < L.toArray.size := by
    have := hB
    simp only [growOkB, Bool.and_eq_true, decide_eq_true_eq] at this
    exact this.1.1.1
  refine wp_region_grow n Φ hm hΦ hs hB hstep fun a' W hb hf => ?_
  have hlen : (L.take n).length = n := by rw [List.length_take]; simp at hn; omega
  have hmem : ∀ o ∈ L.take n, ∃ j, j < n ∧ L.toArray[j]? = some o := fun o ho => by
    obtain ⟨j, hj, e⟩ := List.mem_iff_getElem.1 ho
    rw [hlen] at hj
    refine ⟨j, hj, ?_⟩
    rw [List.getElem_take] at e
    simp [← e]
  have hdst : ∀ o ∈ L.take n, ∀ t, o.dst = some t → t < a.tmps.size := fun o ho t ht => by
    obtain ⟨j, _, hj⟩ := hmem o ho
    exact ((shape_at hs hj).dst t ht).1
  have hheld : ∀ o ∈ L.take n, ∀ t, o.dst = some t → Φ t W (a'.eval (.tmp t)) := fun o ho t ht => by
    obtain ⟨j, hjn, hj⟩ := hmem o ho
    refine hf.held j o t hjn hj ht ?_
    simp only [headDone, Array.getD_eq_getD_getElem?, List.getElem?_toArray]
    rw [List.getElem?_append_left (by simpa using hjn), List.getElem?_replicate, if_pos hjn]
    rfl
  have hfold : a' = (((L.take n).zip ((L.take n).map (dstVal a'))).foldl (fun a p => a.put p.1.dst p.2) a) := by
    obtain ⟨s1, s2, _⟩ := frame_fold ((L.take n).zip ((L.take n).map (dstVal a'))) a
    have hev : ∀ t, (((L.take n).zip ((L.take n).map (dstVal a'))).foldl (fun a p => a.put p.1.dst p.2) a).eval (.tmp t) = a'.eval (.tmp t) := fun t => by
      rcases fold_same a' (L.take n) a hdst t with h | ⟨h1, h2⟩
      · exact h
      · rw [h2]
        refine (hf.free t fun j o hj ho hd => ?_).symm
        exact h1 o (List.mem_of_getElem? (i := j) (by rw [List.getElem?_take, if_pos hj]; simpa using ho)) hd
    generalize (((L.take n).zip ((L.take n).map (dstVal a'))).foldl (fun a p => a.put p.1.dst p.2) a) = F at s1 s2 hev ⊢
    have f1 := hf.size
    have f2 := hf.defers
    clear hf hheld
    obtain ⟨t1, d1⟩ := a'
    obtain ⟨t2, d2⟩ := F
    have hd : d1 = d2 := f2.trans s2.symm
    have ht : t1 = t2 := by
      refine Array.ext (f1.trans s1.symm) fun i h1 h2 => ?_
      have := hev i
      simp only [Act.eval] at this
      simpa [h1, h2] using this.symm
    rw [hd, ht]
  rw [hfold]
  exact hQ _ W (by rw [List.length_map]; exact hlen) hb (holdsY_of a' _ hheld)
end
end Go.Proofs.YtidkamnciomnmaaDoor
