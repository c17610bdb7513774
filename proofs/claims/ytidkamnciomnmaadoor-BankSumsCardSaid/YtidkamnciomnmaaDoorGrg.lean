/-
  A REGION THAT DRAWS ITS ORDER, WHOSE OPERATIONS READ AND LAY NEW BLOCKS, SOME OF THEM GUARDED: as XGrf's law, with guards.
-/
import Derived.Test.YtidkamnciomnmaaDoorGrf
namespace Go.Proofs.YtidkamnciomnmaaDoor
open Go.RowKit
section
variable {P : Program} {ops : Array Oper} {Q : Exit → Act → World → Prop}

def guardB (ops : Array Oper) (i : Nat) (o : Oper) : Bool :=
  match o.guard with
  | none => true
  | some (j, _) => match (ops[j]?).bind (·.dst) with
    | some s => looksB ops i (.tmp s)
    | none => false
def shapeGB (ops : Array Oper) (n : Nat) : Bool :=
  (List.range ops.size).all fun i => match ops[i]? with
    | none => false
    | some o => guardB ops i o && (match o.op with | .select .. => false | _ => true) && o.op.operands.all (looksB ops i) && o.after.all (fun e => !Region.binds .any e || decide (e.on < i)) &&
      (match o.dst with | some d => decide (d < n) && (List.range ops.size).all (fun j => j == i || match ops[j]? with | some o' => o'.dst != some d | none => true) | none => true)

structure ShapeGAt (ops : Array Oper) (n i : Nat) (o : Oper) : Prop where
  guard : guardB ops i o = true
  sel : ∀ cs b, o.op ≠ .select cs b
  looks : ∀ x ∈ o.op.operands, looksB ops i x = true
  down : ∀ e ∈ o.after, Region.binds .any e = true → e.on < i
  dst : ∀ d, o.dst = some d → d < n ∧ ∀ (j : Nat) (o' : Oper), ops[j]? = some o' → o'.dst = some d → j = i

theorem shapeG_at {n : Nat} (h : shapeGB ops n = true) {i : Nat} {o : Oper} (ho : ops[i]? = some o) : ShapeGAt ops n i o := by
  have h1 := List.all_eq_true.1 h i (List.mem_range.2 (Array.getElem?_eq_some_iff.1 ho).1)
  rw [ho] at h1
  simp only [Bool.and_eq_true] at h1
  obtain ⟨⟨⟨⟨h1, h2⟩, h3⟩, h4⟩, h5⟩ := h1
  refine ⟨h1, fun cs b e => by rw [e] at h2; simp at h2, fun x hx => (Array.all_eq_true_iff_forall_mem.1 h3) x hx, fun e he hb => ?_, fun d hd => ?_⟩
  · have := (Array.all_eq_true_iff_forall_mem.1 h4) e he
    simpa [hb] using this
  · rw [hd] at h5
    simp only [Bool.and_eq_true, decide_eq_true_eq] at h5
    refine ⟨h5.1, fun j o' hj hd' => ?_⟩
    have := List.all_eq_true.1 h5.2 j (List.mem_range.2 (Array.getElem?_eq_some_iff.1 hj).1)
    rw [hj] at this
    simp only [Bool.or_eq_true, beq_iff_eq, bne_iff_ne, ne_eq] at this
    rcases this with h | h
    · exact h
    · exact absurd hd' h

theorem some_unlistedG {n : Nat} (hs : shapeGB ops n = true) {listed : Array Bool} (hc : Clo ops listed) : ∀ (i : Nat), i < ops.size → listed.getD i false ≠ true → Region.ready .any ops listed ≠ [] := by
  intro i
  induction i using Nat.strongRecOn with
  | _ i ih =>
    intro hi hu hr
    have ho : ops[i]? = some ops[i] := Array.getElem?_eq_getElem hi
    have S := shapeG_at hs ho
    have hm : i ∈ Region.ready .any ops listed := by
      refine mem_ready.2 ⟨getD_in (by rw [hc.size]; exact hi) (by simpa using hu), _, ho, fun e he hb => ?_⟩
      have hlt := S.down e he hb
      cases h : listed.getD e.on false with
      | true => rfl
      | false => exact absurd hr (ih e.on hlt (by omega) (by simp [h]))
    rw [hr] at hm
    cases hm

/-- what an operation may lean on -/
structure LeansG (ops : Array Oper) (n : Nat) (Φ : Nat → World → Value → Prop) (a0 : Act) (o : Oper) (a : Act) (W : World) : Prop where
  size : a.tmps.size = a0.tmps.size
  free : ∀ t, Free ops n t → a.eval (.tmp t) = a0.eval (.tmp t)
  held : ∀ (t j : Nat) (o' : Oper), Operand.tmp t ∈ o.op.operands → j < n → ops[j]? = some o' → o'.dst = some t → Φ t W (a.eval (.tmp t))
  guard : ∀ (j s k : Nat) (b : Bool) (o' : Oper), o.guard = some (j, b) → (ops[j]?).bind (·.dst) = some s → k < n → ops[k]? = some o' → o'.dst = some s → Φ s W (a.eval (.tmp s))

theorem LeansG.get {n : Nat} {Φ : Nat → World → Value → Prop} {a0 : Act} {o : Oper} {a : Act} {W : World} (h : LeansG ops n Φ a0 o a W) (t : Nat) (hx : Operand.tmp t ∈ o.op.operands) (hw : writtenB ops n t = true) : Φ t W (a.eval (.tmp t)) := by
  obtain ⟨j, hj, hd⟩ := List.any_eq_true.1 hw
  cases ho : ops[j]? with
  | none => rw [ho] at hd; cases hd
  | some o' =>
    rw [ho] at hd
    exact h.held t j o' hx (List.mem_range.1 hj) ho (by simpa using hd)

/-- what is asked of an operation: if it is wanted, that it gives; if not, that its slot may stay empty -/
def StepG (P : Program) (ops : Array Oper) (Φ : Nat → World → Value → Prop) (o : Oper) (a : Act) (W : World) : Prop :=
  (Region.wanted o (yielded ops a.tmps) = true → Gives P Φ o a W) ∧ (Region.wanted o (yielded ops a.tmps) = false → ∀ t, o.dst = some t → Φ t W undef)
theorem StepG.plain {Φ : Nat → World → Value → Prop} {o : Oper} {a : Act} {W : World} (hg : o.guard = none) (h : Gives P Φ o a W) : StepG P ops Φ o a W :=
  ⟨fun _ => h, fun hw => by simp [Region.wanted, hg] at hw⟩
/-- a guarded one whose guard says yes -/
theorem StepG.on {Φ : Nat → World → Value → Prop} {n : Nat} {o : Oper} {a0 a : Act} {W : World} (hL : LeansG ops n Φ a0 o a W) {j s : Nat} {b : Bool} (hg : o.guard = some (j, b)) (hd : (ops[j]?).bind (·.dst) = some s) (hlt : s < a0.tmps.size)
    (hw : writtenB ops n s = true) (hb : ∀ v, Φ s W v → v = .bool b) (h : Gives P Φ o a W) : StepG P ops Φ o a W := by
  have hv : a.eval (.tmp s) = .bool b := by
    obtain ⟨k, hk, hd'⟩ := List.any_eq_true.1 hw
    cases ho : ops[k]? with
    | none => rw [ho] at hd'; cases hd'
    | some o' =>
      rw [ho] at hd'
      exact hb _ (hL.guard j s k b o' hg hd (List.mem_range.1 hk) ho (by simpa using hd'))
  have hy : yielded ops a.tmps j = some b := by
    have hlt' : s < a.tmps.size := by rw [hL.size]; exact hlt
    simp only [Act.eval] at hv
    unfold yielded
    rw [hd]
    simp only [Option.bind_some]
    have : a.tmps[s]? = some (.bool b) := by
      rw [Array.getElem?_eq_getElem hlt']
      simpa [Array.getD_eq_getD_getElem?, Array.getElem?_eq_getElem hlt'] using hv
    rw [this]
  exact ⟨fun _ => h, fun hw => by simp [Region.wanted, hg, hy] at hw⟩
/-- a guarded one whose guard says no -/
theorem StepG.off {Φ : Nat → World → Value → Prop} {n : Nat} {o : Oper} {a0 a : Act} {W : World} (hL : LeansG ops n Φ a0 o a W) {j s : Nat} {b : Bool} (hg : o.guard = some (j, b)) (hd : (ops[j]?).bind (·.dst) = some s) (hlt : s < a0.tmps.size)
    (hw : writtenB ops n s = true) (hb : ∀ v, Φ s W v → ∃ c, c ≠ some b ∧ ((v = .bool true ∧ c = some true) ∨ (v = .bool false ∧ c = some false) ∨ (v = undef ∧ c = none))) (h : ∀ t, o.dst = some t → Φ t W undef) : StepG P ops Φ o a W := by
  have hv : Φ s W (a.eval (.tmp s)) := by
    obtain ⟨k, hk, hd'⟩ := List.any_eq_true.1 hw
    cases ho : ops[k]? with
    | none => rw [ho] at hd'; cases hd'
    | some o' =>
      rw [ho] at hd'
      exact hL.guard j s k b o' hg hd (List.mem_range.1 hk) ho (by simpa using hd')
  obtain ⟨c, hc, hcv⟩ := hb _ hv
  have hlt' : s < a.tmps.size := by rw [hL.size]; exact hlt
  have hat : a.tmps[s]? = some (a.eval (.tmp s)) := by
    rw [Array.getElem?_eq_getElem hlt']
    simp [Act.eval, Array.getD_eq_getD_getElem?, Array.getElem?_eq_getElem hlt']
  have hy : yielded ops a.tmps j = c := by
    unfold yielded
    rw [hd]
    simp only [Option.bind_some]
    rw [hat]
    rcases hcv with ⟨e, rfl⟩ | ⟨e, rfl⟩ | ⟨e, rfl⟩ <;> rw [e] <;> rfl
  exact ⟨fun hw => by simp [Region.wanted, hg, hy] at hw; exact absurd hw hc, fun _ => h⟩

structure GrowG (P : Program) (ops : Array Oper) (n : Nat) (Φ : Nat → World → Value → Prop) (a0 : Act) (w : World) : Prop where
  stable : ∀ (t : Nat) (W W' : World) (v : Value), Φ t W v → Below W.heap.size W W' → Φ t W' v
  shape : shapeGB ops a0.tmps.size = true
  lt : n < ops.size
  sink : Region.sinkB .any ops n = true
  seq : Region.chainB .any ops n = true
  step : ∀ (i : Nat) (o : Oper), i < n → ops[i]? = some o → ∀ (a : Act) (W : World), Below w.heap.size w W → LeansG ops n Φ a0 o a W → StepG P ops Φ o a W

theorem wpAny_growG {n : Nat} {Φ : Nat → World → Value → Prop} {a0 : Act} {w : World} (D : GrowG P ops n Φ a0 w)
    (hQ : ∀ a W, Below w.heap.size w W → FrG ops n Φ a0 (headDone n (ops.size - n)) a W → wpAny P .any ops Q (ops.size - n) (headDone n (ops.size - n)) a W) :
    ∀ (f : Nat) (listed : Array Bool) (a : Act) (W : World), lack listed = f → Clo ops listed → HeadInv .any ops n listed → Below w.heap.size w W → FrG ops n Φ a0 listed a W → wpAny P .any ops Q f listed a W := by
  intro f
  induction f with
  | zero =>
    intro listed a W hl hc hinv hb hf
    have := lack_zero hl n (by rw [hc.size]; exact D.lt)
    have h2 := hinv.tail n (Nat.le_refl _) D.lt
    rw [getD_both h2] at this
    cases this
  | succ f ih =>
    intro listed a W hl hc hinv hb hf
    by_cases hall : ∀ i, i < n → listed.getD i false = true
    · have e := headDone_of (by rw [hc.size]; exact Nat.le_of_lt D.lt) hall (fun i h1 h2 => hinv.tail i h1 (by rw [← hc.size]; exact h2))
      rw [hc.size] at e
      rw [e, lack_headDone] at hl
      rw [← hl]
      rw [e] at hf ⊢
      exact hQ a W hb hf
    · obtain ⟨i0, hi0⟩ : ∃ i, ¬ (i < n → listed.getD i false = true) := Classical.not_forall.1 hall
      have hi0n : i0 < n := Classical.byContradiction fun h => hi0 fun h' => absurd h' h
      have hi0u : listed.getD i0 false = false := by
        cases h : listed.getD i0 false with
        | false => rfl
        | true => exact absurd (fun _ => h) hi0
      have hlow : ∀ i ∈ Region.ready .any ops listed, i < n := fun i hr => by
        rcases Nat.lt_or_ge i n with h | h
        · exact h
        · exact absurd hr (tail_waits D.sink D.seq D.lt hinv _ i0 rfl hi0n (getD_in (by rw [hc.size]; have := D.lt; omega) hi0u) i h)
      refine ⟨fun hr => ?_, fun i hi' => ?_⟩
      · exact absurd hr (some_unlistedG D.shape hc i0 (by have := D.lt; omega) (by simp [hi0u]))
      · obtain ⟨h0, o, ho, _⟩ := mem_ready.1 hi'
        have hin := hlow i hi'
        have S := shapeG_at D.shape ho
        have hlt : i < ops.size := (Array.getElem?_eq_some_iff.1 ho).1
        have hlook : ∀ (t : Nat), looksB ops i (.tmp t) = true → ∀ (j : Nat) (o' : Oper), j < n → ops[j]? = some o' → o'.dst = some t → Φ t W (a.eval (.tmp t)) := fun t h1 j o' hj hoj hd => by
          refine hf.held j o' t hj hoj hd ?_
          simp only [looksB] at h1
          have h2 := List.all_eq_true.1 h1 j (List.mem_range.2 (Array.getElem?_eq_some_iff.1 hoj).1)
          rw [hoj] at h2
          simp only [hd, bne_self_eq_false, Bool.false_or] at h2
          exact hc.ready ops.size hi' h2
        have hleans : LeansG ops n Φ a0 o a W := ⟨hf.size, hf.free, fun t j o' hx hj hoj hd => hlook t (S.looks _ hx) j o' hj hoj hd, fun j s k b o' hg hs hk hok hd => by
          refine hlook s ?_ k o' hk hok hd
          have := S.guard
          unfold guardB at this
          rw [hg] at this
          simp only [hs] at this
          exact this⟩
        have hlack : lack (listed.setIfInBounds i true) = f := by have := lack_set_eq h0; omega
        have go : ∀ (v : Value) (W' : World), Below W.heap.size W W' → (∀ t, o.dst = some t → Φ t W' v) → wpAny P .any ops Q f (listed.setIfInBounds i true) (a.put o.dst v) W' := by
          intro v W' hbW hv
          refine ih _ _ _ hlack (hc.set hi') (hinv.set hi' hin) (hb.trans (hbW.mono hb.size)) ⟨?_, ?_, fun t ht => ?_, fun j o' t hj hoj hd hlj => ?_⟩
          · cases o.dst <;> simp [Act.put, hf.size]
          · cases o.dst <;> simp [Act.put, hf.defers]
          · rw [Act.eval_put (fun d hd hx => ht i o hin ho (by rw [hd]; injection hx with hx; rw [hx]))]
            exact hf.free t ht
          · by_cases e : o.dst = some t
            · rw [e]
              have hdt := (S.dst t e).1
              have : (a.put (some t) v).eval (.tmp t) = v := by simp [Act.put, Act.eval, hf.size, hdt]
              rw [this]
              exact hv t e
            · rw [Act.eval_put (fun d hd hx => e (by rw [hd]; injection hx with hx; rw [hx]))]
              refine D.stable t W W' _ (hf.held j o' t hj hoj hd ?_) hbW
              by_cases hij : i = j
              · subst hij; obtain rfl := Option.some.inj (hoj.symm.trans ho); exact absurd hd e
              · rwa [getD_set_ne false hij] at hlj
        unfold wpOp
        rw [ho]
        obtain ⟨st1, st2⟩ := D.step i o hin ho a W hb hleans
        cases hwant : Region.wanted o (yielded ops a.tmps) with
        | false =>
          simp only [hwant, Bool.false_eq_true, if_false]
          exact go undef W (Below.refl _ _) (st2 hwant)
        | true =>
          simp only [hwant, if_true]
          refine .inl ?_
          unfold Oper.wp
          rcases st1 hwant with ⟨v, W', hrun, hbW, hv⟩ | ⟨f', args, W1, hrun, hcall⟩
          · rw [hrun]
            exact go v W' hbW hv
          · rw [hrun]
            refine hcall.mono ?_
            rintro e W' ⟨v, rfl, hbW, hv⟩
            exact go v W' hbW hv

/-- the law: the first n operations in whatever order, the rest as a list; the frame written out -/
theorem wp_region_growG {id : Nat} {a : Act} {w : World} {L : List Oper} (n : Nat) (Φ : Nat → World → Value → Prop) (hm : P.follows .mixedOrders = true) (hΦ : ∀ (t : Nat) (W W' : World) (v : Value), Φ t W v → Below W.heap.size W W' → Φ t W' v)
    (hs : shapeGB L.toArray a.tmps.size = true) (hB : growOkB L.toArray n = true)
    (hstep : ∀ o ∈ L.take n, ∀ (a' : Act) (W : World), Below w.heap.size w W → LeansG L.toArray n Φ a o a' W → StepG P L.toArray Φ o a' W)
    (hQ : ∀ (ys : List Value) (W : World), ys.length = n → Below w.heap.size w W → HoldsY Φ W (L.take n) ys → wpList P L.toArray Q (L.drop n) (((L.take n).zip ys).foldl (fun a p => a.put p.1.dst p.2) a) W) :
    (Code.region id L.toArray true).wp P Q a w := by
  simp only [growOkB, Bool.and_eq_true, decide_eq_true_eq] at hB
  obtain ⟨⟨⟨h5, h6⟩, h7⟩, h8⟩ := hB
  have hdl : (L.drop n).length = L.toArray.size - n := by simp
  have D : GrowG P L.toArray n Φ a w := ⟨hΦ, hs, h5, h6, h7, fun i o hi ho => hstep o (List.mem_of_getElem? (i := i) (by rw [List.getElem?_take, if_pos hi]; simpa using ho))⟩
  have hlen : (L.take n).length = n := by rw [List.length_take]; simp at h5; omega
  have hmem : ∀ o ∈ L.take n, ∃ j, j < n ∧ L.toArray[j]? = some o := fun o ho => by
    obtain ⟨j, hj, e⟩ := List.mem_iff_getElem.1 ho
    rw [hlen] at hj
    refine ⟨j, hj, ?_⟩
    rw [List.getElem_take] at e
    simp [← e]
  have hdst : ∀ o ∈ L.take n, ∀ t, o.dst = some t → t < a.tmps.size := fun o ho t ht => by
    obtain ⟨j, _, hj⟩ := hmem o ho
    exact ((shapeG_at hs hj).dst t ht).1
  refine wp_region_any hm ?_
  refine wpAny_growG D (fun a' W hb hf => ?_) _ _ _ _ (by simp [lack]) ⟨by simp, fun j o _ hl => by rw [getD_replicate_false] at hl; cases hl⟩
    ⟨by simp, fun j oj _ hl => (by rw [getD_replicate_false] at hl; cases hl), fun t _ ht => getD_in (by simpa using ht) (getD_replicate_false _ _)⟩ ⟨rfl, rfl, rfl, Nat.le_refl _, fun _ _ => rfl⟩
    ⟨rfl, rfl, fun _ _ => rfl, fun j o t _ _ _ hl => by rw [getD_replicate_false] at hl; cases hl⟩
  have hheld : ∀ o ∈ L.take n, ∀ t, o.dst = some t → Φ t W (a'.eval (.tmp t)) := fun o ho t ht => by
    obtain ⟨j, hjn, hj⟩ := hmem o ho
    refine hf.held j o t hjn hj ht ?_
    simp only [headDone, Array.getD_eq_getD_getElem?, List.getElem?_toArray]
    rw [List.getElem?_append_left (by simpa using hjn), List.getElem?_replicate, if_pos hjn]
    rfl
  have hfold : a' = (((L.take n).zip ((L.take n).map (dstVal a'))).foldl (fun a p => a.put p.1.dst p.2) a) := by
    obtain ⟨s1, s2, _⟩ := frame_fold ((L.take n).zip ((L.take n).map (dstVal a'))) a
    have hev : ∀ t, (((L.take n).zip ((L.take n).map (dstVal a'))).foldl (fun a p => a.put p.1.dst p.2) a).eval (.tmp t) = a'.eval (.tmp t) := fun t => by
      rcases fold_same a' (L.take n) a hdst t with h | ⟨h1, h2⟩
      · exact h
      · rw [h2]
        refine (hf.free t fun j o hj ho hd => ?_).symm
        exact h1 o (List.mem_of_getElem? (i := j) (by rw [List.getElem?_take, if_pos hj]; simpa using ho)) hd
    generalize (((L.take n).zip ((L.take n).map (dstVal a'))).foldl (fun a p => a.put p.1.dst p.2) a) = F at s1 s2 hev ⊢
    have f1 := hf.size
    have f2 := hf.defers
    clear hf hheld
    obtain ⟨t1, d1⟩ := a'
    obtain ⟨t2, d2⟩ := F
    have hd : d1 = d2 := f2.trans s2.symm
    have ht : t1 = t2 := by
      refine Array.ext (f1.trans s1.symm) fun i h1 h2 => ?_
      have := hev i
      simp only [Act.eval] at this
      simpa [h1, h2] using this.symm
    rw [hd, ht]
  have hq := hQ _ W (by rw [List.length_map]; exact hlen) hb (holdsY_of a' _ hheld)
  rw [← hfold] at hq
  have := wpAny_of_seq (md := .any) (Q' := Q) (L.drop n) n (headDone n (L.toArray.size - n)) a' W (fun j => by simp [List.getElem?_drop]) (by rw [hdl]; exact h8) hq
  rwa [hdl] at this
end
end Go.Proofs.YtidkamnciomnmaaDoor
