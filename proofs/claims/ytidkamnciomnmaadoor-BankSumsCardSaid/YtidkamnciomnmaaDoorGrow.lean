/-
  A REGION THAT DRAWS ITS ORDER, WHOSE OPERATIONS READ AND LAY NEW BLOCKS: whatever the order, each slot holds what is asked of it; the last operations come in one order.
-/
import Derived.Test.YtidkamnciomnmaaDoorDet
namespace Go.Proofs.YtidkamnciomnmaaDoor
open Go.RowKit
section
variable {P : Program} {ops : Array Oper} {Q : Exit → Act → World → Prop}

/-- slot t is written by none of the first n operations -/
def Free (ops : Array Oper) (n t : Nat) : Prop := ∀ (j : Nat) (o : Oper), j < n → ops[j]? = some o → o.dst ≠ some t

/-- the frame: slots that are written hold what is asked of them, others what they held -/
structure FrG (ops : Array Oper) (n : Nat) (Φ : Nat → World → Value → Prop) (a0 : Act) (listed : Array Bool) (a : Act) (W : World) : Prop where
  size : a.tmps.size = a0.tmps.size
  defers : a.defers = a0.defers
  free : ∀ t, Free ops n t → a.eval (.tmp t) = a0.eval (.tmp t)
  held : ∀ (j : Nat) (o : Oper) (t : Nat), j < n → ops[j]? = some o → o.dst = some t → listed.getD j false = true → Φ t W (a.eval (.tmp t))

/-- what an operation may lean on -/
structure Leans (ops : Array Oper) (n : Nat) (Φ : Nat → World → Value → Prop) (a0 : Act) (o : Oper) (a : Act) (W : World) : Prop where
  free : ∀ t, Free ops n t → a.eval (.tmp t) = a0.eval (.tmp t)
  held : ∀ (t j : Nat) (o' : Oper), Operand.tmp t ∈ o.op.operands → j < n → ops[j]? = some o' → o'.dst = some t → Φ t W (a.eval (.tmp t))

/-- what an operation gives: a value as it is asked of its slot; new blocks alone -/
inductive Gives (P : Program) (Φ : Nat → World → Value → Prop) (o : Oper) (a : Act) (W : World) : Prop
  | val (h : ∃ v W', (execOp a.eval o).run P W = .ok (.value v) W' ∧ Below W.heap.size W W' ∧ ∀ t, o.dst = some t → Φ t W' v)
  | call (h : ∃ f args W0, (execOp a.eval o).run P W = .ok (.enter f args) W0 ∧ Calls P f args W0 (fun e W' => ∃ v, e = .returned v ∧ Below W.heap.size W W' ∧ ∀ t, o.dst = some t → Φ t W' v))

def writtenB (ops : Array Oper) (n t : Nat) : Bool := (List.range n).any fun j => match ops[j]? with | some o => o.dst == some t | none => false
theorem Leans.get {n : Nat} {Φ : Nat → World → Value → Prop} {a0 : Act} {o : Oper} {a : Act} {W : World} (h : Leans ops n Φ a0 o a W) (t : Nat) (hx : Operand.tmp t ∈ o.op.operands) (hw : writtenB ops n t = true) : Φ t W (a.eval (.tmp t)) := by
  obtain ⟨j, hj, hd⟩ := List.any_eq_true.1 hw
  cases ho : ops[j]? with
  | none => rw [ho] at hd; cases hd
  | some o' =>
    rw [ho] at hd
    exact h.held t j o' hx (List.mem_range.1 hj) ho (by simpa using hd)
theorem free_of {n t : Nat} (h : writtenB ops n t = false) : Free ops n t := fun j o hj ho hd => by
  have := List.any_eq_false.1 h j (List.mem_range.2 hj)
  rw [ho] at this
  simp [hd] at this
theorem FrG.get {n : Nat} {Φ : Nat → World → Value → Prop} {a0 : Act} {g : Nat} {a : Act} {W : World} (h : FrG ops n Φ a0 (headDone n g) a W) (t : Nat) (hw : writtenB ops n t = true) : Φ t W (a.eval (.tmp t)) := by
  obtain ⟨j, hj, hd⟩ := List.any_eq_true.1 hw
  cases ho : ops[j]? with
  | none => rw [ho] at hd; cases hd
  | some o' =>
    rw [ho] at hd
    refine h.held j o' t (List.mem_range.1 hj) ho (by simpa using hd) ?_
    have hj' := List.mem_range.1 hj
    simp only [headDone, Array.getD_eq_getD_getElem?, List.getElem?_toArray]
    rw [List.getElem?_append_left (by simpa using hj'), List.getElem?_replicate, if_pos hj']
    rfl

structure GrowT (P : Program) (ops : Array Oper) (n : Nat) (Φ : Nat → World → Value → Prop) (a0 : Act) (w : World) : Prop where
  stable : ∀ (t : Nat) (W W' : World) (v : Value), Φ t W v → Below W.heap.size W W' → Φ t W' v
  shape : shapeB ops a0.tmps.size = true
  lt : n < ops.size
  sink : Region.sinkB .any ops n = true
  seq : Region.chainB .any ops n = true
  step : ∀ (i : Nat) (o : Oper), i < n → ops[i]? = some o → ∀ (a : Act) (W : World), Below w.heap.size w W → Leans ops n Φ a0 o a W → Gives P Φ o a W

theorem wpAny_grow {n : Nat} {Φ : Nat → World → Value → Prop} {a0 : Act} {w : World} (D : GrowT P ops n Φ a0 w)
    (hQ : ∀ a W, Below w.heap.size w W → FrG ops n Φ a0 (headDone n (ops.size - n)) a W → wpAny P .any ops Q (ops.size - n) (headDone n (ops.size - n)) a W) :
    ∀ (f : Nat) (listed : Array Bool) (a : Act) (W : World), lack listed = f → Clo ops listed → HeadInv .any ops n listed → Below w.heap.size w W → FrG ops n Φ a0 listed a W → wpAny P .any ops Q f listed a W := by
  intro f
  induction f with
  | zero =>
    intro listed a W hl hc hinv hb hf
    have := lack_zero hl n (by rw [hc.size]; exact D.lt)
    have h2 := hinv.tail n (Nat.le_refl _) D.lt
    rw [getD_both h2] at this
    cases this
  | succ f ih =>
    intro listed a W hl hc hinv hb hf
    by_cases hall : ∀ i, i < n → listed.getD i false = true
    · have e := headDone_of (by rw [hc.size]; exact Nat.le_of_lt D.lt) hall (fun i h1 h2 => hinv.tail i h1 (by rw [← hc.size]; exact h2))
      rw [hc.size] at e
      rw [e, lack_headDone] at hl
      rw [← hl]
      rw [e] at hf ⊢
      exact hQ a W hb hf
    · obtain ⟨i0, hi0⟩ : ∃ i, ¬ (i < n → listed.getD i false = true) := Classical.not_forall.1 hall
      have hi0n : i0 < n := Classical.byContradiction fun h => hi0 fun h' => absurd h' h
      have hi0u : listed.getD i0 false = false := by
        cases h : listed.getD i0 false with
        | false => rfl
        | true => exact absurd (fun _ => h) hi0
      have hlow : ∀ i ∈ Region.ready .any ops listed, i < n := fun i hr => by
        rcases Nat.lt_or_ge i n with h | h
        · exact h
        · exact absurd hr (tail_waits D.sink D.seq D.lt hinv _ i0 rfl hi0n (getD_in (by rw [hc.size]; have := D.lt; omega) hi0u) i h)
      refine ⟨fun hr => ?_, fun i hi' => ?_⟩
      · exact absurd hr (some_unlisted D.shape hc i0 (by have := D.lt; omega) (by simp [hi0u]))
      · obtain ⟨h0, o, ho, _⟩ := mem_ready.1 hi'
        have hin := hlow i hi'
        have S := shape_at D.shape ho
        have hlt : i < ops.size := (Array.getElem?_eq_some_iff.1 ho).1
        have hleans : Leans ops n Φ a0 o a W := ⟨hf.free, fun t j o' hx hj hoj hd => by
          refine hf.held j o' t hj hoj hd ?_
          have h1 := S.looks _ hx
          simp only [looksB] at h1
          have h2 := List.all_eq_true.1 h1 j (List.mem_range.2 (Array.getElem?_eq_some_iff.1 hoj).1)
          rw [hoj] at h2
          simp only [hd, bne_self_eq_false, Bool.false_or] at h2
          exact hc.ready ops.size hi' h2⟩
        have hwant : Region.wanted o (yielded ops a.tmps) = true := by simp [Region.wanted, S.guard]
        have hlack : lack (listed.setIfInBounds i true) = f := by have := lack_set_eq h0; omega
        have go : ∀ (v : Value) (W' : World), Below W.heap.size W W' → (∀ t, o.dst = some t → Φ t W' v) → wpAny P .any ops Q f (listed.setIfInBounds i true) (a.put o.dst v) W' := by
          intro v W' hbW hv
          refine ih _ _ _ hlack (hc.set hi') (hinv.set hi' hin) (hb.trans (hbW.mono hb.size)) ⟨?_, ?_, fun t ht => ?_, fun j o' t hj hoj hd hlj => ?_⟩
          · cases o.dst <;> simp [Act.put, hf.size]
          · cases o.dst <;> simp [Act.put, hf.defers]
          · rw [Act.eval_put (fun d hd hx => ht i o hin ho (by rw [hd]; injection hx with hx; rw [hx]))]
            exact hf.free t ht
          · by_cases e : o.dst = some t
            · rw [e]
              have hdt := (S.dst t e).1
              have : (a.put (some t) v).eval (.tmp t) = v := by simp [Act.put, Act.eval, hf.size, hdt]
              rw [this]
              exact hv t e
            · rw [Act.eval_put (fun d hd hx => e (by rw [hd]; injection hx with hx; rw [hx]))]
              refine D.stable t W W' _ (hf.held j o' t hj hoj hd ?_) hbW
              by_cases hij : i = j
              · subst hij; obtain rfl := Option.some.inj (hoj.symm.trans ho); exact absurd hd e
              · rwa [getD_set_ne false hij] at hlj
        unfold wpOp
        rw [ho]
        simp only [hwant, if_true]
        refine .inl ?_
        unfold Oper.wp
        rcases D.step i o hin ho a W hb hleans with ⟨v, W', hrun, hbW, hv⟩ | ⟨f', args, W1, hrun, hcall⟩
        · rw [hrun]
          exact go v W' hbW hv
        · rw [hrun]
          refine hcall.mono ?_
          rintro e W' ⟨v, rfl, hbW, hv⟩
          exact go v W' hbW hv

def growOkB (ops : Array Oper) (n : Nat) : Bool :=
  decide (n < ops.size) && Region.sinkB .any ops n && Region.chainB .any ops n && Region.seqB .any ops (ops.size - n) n (headDone n (ops.size - n))

/-- the law: the first n operations in whatever order, the rest as a list -/
theorem wp_region_grow {id : Nat} {a : Act} {w : World} {L : List Oper} (n : Nat) (Φ : Nat → World → Value → Prop) (hm : P.follows .mixedOrders = true) (hΦ : ∀ (t : Nat) (W W' : World) (v : Value), Φ t W v → Below W.heap.size W W' → Φ t W' v)
    (hs : shapeB L.toArray a.tmps.size = true) (hB : growOkB L.toArray n = true)
    (hstep : ∀ o ∈ L.take n, ∀ (a' : Act) (W : World), Below w.heap.size w W → Leans L.toArray n Φ a o a' W → Gives P Φ o a' W)
    (hQ : ∀ a' W, Below w.heap.size w W → FrG L.toArray n Φ a (headDone n (L.toArray.size - n)) a' W → wpList P L.toArray Q (L.drop n) a' W) : (Code.region id L.toArray true).wp P Q a w := by
  simp only [growOkB, Bool.and_eq_true, decide_eq_true_eq] at hB
  obtain ⟨⟨⟨h5, h6⟩, h7⟩, h8⟩ := hB
  have hdl : (L.drop n).length = L.toArray.size - n := by simp
  have D : GrowT P L.toArray n Φ a w := ⟨hΦ, hs, h5, h6, h7, fun i o hi ho => hstep o (List.mem_of_getElem? (i := i) (by rw [List.getElem?_take, if_pos hi]; simpa using ho))⟩
  refine wp_region_any hm ?_
  refine wpAny_grow D (fun a' W hb hf => ?_) _ _ _ _ (by simp [lack]) ⟨by simp, fun j o _ hl => by rw [getD_replicate_false] at hl; cases hl⟩
    ⟨by simp, fun j oj _ hl => (by rw [getD_replicate_false] at hl; cases hl), fun t _ ht => getD_in (by simpa using ht) (getD_replicate_false _ _)⟩ ⟨rfl, rfl, rfl, Nat.le_refl _, fun _ _ => rfl⟩
    ⟨rfl, rfl, fun _ _ => rfl, fun j o t _ _ _ hl => by rw [getD_replicate_false] at hl; cases hl⟩
  have := wpAny_of_seq (md := .any) (Q' := Q) (L.drop n) n (headDone n (L.toArray.size - n)) a' W (fun j => by simp [List.getElem?_drop]) (by rw [hdl]; exact h8) (hQ a' W hb hf)
  rwa [hdl] at this
end
end Go.Proofs.YtidkamnciomnmaaDoor
