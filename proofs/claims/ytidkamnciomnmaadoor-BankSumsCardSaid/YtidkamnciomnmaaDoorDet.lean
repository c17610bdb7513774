/-
  A REGION THAT DRAWS ITS ORDER, IN WHICH EACH OPERATION GIVES THE SAME IN EVERY ORDER: operations that change the world come in a fixed order ('chain'); every other one gives the same in all the worlds in which it may come up.
-/
import Derived.Test.YtidkamnciomnmaaDoorRnd
namespace Go.Proofs.YtidkamnciomnmaaDoor
open Go.RowKit
section
variable {P : Program} {ops : Array Oper} {Q : Exit → Act → World → Prop}

/-- does operation j wait for i, be it by others? -/
def waits (ops : Array Oper) (i : Nat) : Nat → Nat → Bool
  | 0, _ => false
  | f + 1, j => match ops[j]? with
    | some o => o.after.any fun e => Region.binds .any e && (e.on == i || waits ops i f e.on)
    | none => false

structure Clo (ops : Array Oper) (listed : Array Bool) : Prop where
  size : listed.size = ops.size
  clo : ∀ (j : Nat) (o : Oper), ops[j]? = some o → listed.getD j false = true → ∀ e ∈ o.after, Region.binds .any e = true → listed.getD e.on false = true

theorem Clo.anc {listed : Array Bool} (h : Clo ops listed) {i : Nat} : ∀ (f j : Nat), waits ops i f j = true → listed.getD j false = true → listed.getD i false = true
  | 0, _, ha, _ => by simp [waits] at ha
  | f + 1, j, ha, hj => by
    unfold waits at ha
    cases ho : ops[j]? with
    | none => rw [ho] at ha; simp at ha
    | some o =>
      rw [ho] at ha
      obtain ⟨e, he, hb⟩ := Array.any_eq_true'.1 ha
      simp only [Bool.and_eq_true, Bool.or_eq_true, beq_iff_eq] at hb
      have hl := h.clo j o ho hj e he hb.1
      rcases hb.2 with h2 | h2
      · exact h2 ▸ hl
      · exact h.anc f _ h2 hl
/-- what a ready operation waits for has come -/
theorem Clo.ready {listed : Array Bool} (h : Clo ops listed) {i j : Nat} (f : Nat) (hr : j ∈ Region.ready .any ops listed) (ha : waits ops i f j = true) : listed.getD i false = true := by
  obtain ⟨_, o, ho, hall⟩ := mem_ready.1 hr
  cases f with
  | zero => simp [waits] at ha
  | succ f =>
    unfold waits at ha
    rw [ho] at ha
    obtain ⟨e, he, hb⟩ := Array.any_eq_true'.1 ha
    simp only [Bool.and_eq_true, Bool.or_eq_true, beq_iff_eq] at hb
    have hl := hall e he hb.1
    rcases hb.2 with h2 | h2
    · exact h2 ▸ hl
    · exact h.anc f _ h2 hl
theorem Clo.set {listed : Array Bool} (h : Clo ops listed) {i : Nat} (hr : i ∈ Region.ready .any ops listed) : Clo ops (listed.setIfInBounds i true) := by
  obtain ⟨_, oi, hoi, hall⟩ := mem_ready.1 hr
  refine ⟨by simp [h.size], fun j o ho hl e he hb => ?_⟩
  by_cases hij : i = j
  · subst hij
    obtain rfl := Option.some.inj (ho.symm.trans hoi)
    exact getD_set_true (hall e he hb)
  · rw [getD_set_ne false hij] at hl
    exact getD_set_true (h.clo j o ho hl e he hb)

/-- the run of an operation in frame A, whose slot A already holds -/
inductive Does (P : Program) (A : Act) (o : Oper) (w w' : World) : Prop
  | inl (h : (execOp A.eval o).run P w = .ok .skip w' ∧ o.dst = none)
  | inr (h : ∃ v, (execOp A.eval o).run P w = .ok (.value v) w' ∧ ∀ d, o.dst = some d → v = A.eval (.tmp d))
  | call (h : ∃ v f args w0, (execOp A.eval o).run P w = .ok (.enter f args) w0 ∧ Calls P f args w0 (fun e w'' => e = .returned v ∧ w'' = w') ∧ ∀ d, o.dst = some d → v = A.eval (.tmp d))

/-- a slot at which an operation looks: whoever writes it is waited for -/
def looksB (ops : Array Oper) (i : Nat) (x : Operand) : Bool :=
  match x with
  | .tmp t => (List.range ops.size).all fun j => match ops[j]? with
    | some o => o.dst != some t || waits ops j ops.size i
    | none => true
  | _ => true
def shapeB (ops : Array Oper) (n : Nat) : Bool :=
  (List.range ops.size).all fun i => match ops[i]? with
    | none => false
    | some o => o.guard.isNone && (match o.op with | .select .. => false | _ => true) && o.op.operands.all (looksB ops i) && o.after.all (fun e => !Region.binds .any e || decide (e.on < i)) &&
      (match o.dst with | some d => decide (d < n) && (List.range ops.size).all (fun j => j == i || match ops[j]? with | some o' => o'.dst != some d | none => true) | none => true)

structure ShapeAt (ops : Array Oper) (n i : Nat) (o : Oper) : Prop where
  guard : o.guard = none
  sel : ∀ cs b, o.op ≠ .select cs b
  looks : ∀ x ∈ o.op.operands, looksB ops i x = true
  down : ∀ e ∈ o.after, Region.binds .any e = true → e.on < i
  dst : ∀ d, o.dst = some d → d < n ∧ ∀ (j : Nat) (o' : Oper), ops[j]? = some o' → o'.dst = some d → j = i

theorem shape_at {n : Nat} (h : shapeB ops n = true) {i : Nat} {o : Oper} (ho : ops[i]? = some o) : ShapeAt ops n i o := by
  have h1 := List.all_eq_true.1 h i (List.mem_range.2 (Array.getElem?_eq_some_iff.1 ho).1)
  rw [ho] at h1
  simp only [Bool.and_eq_true] at h1
  obtain ⟨⟨⟨⟨h1, h2⟩, h3⟩, h4⟩, h5⟩ := h1
  refine ⟨by simpa using h1, fun cs b e => by rw [e] at h2; simp at h2, fun x hx => (Array.all_eq_true_iff_forall_mem.1 h3) x hx, fun e he hb => ?_, fun d hd => ?_⟩
  · have := (Array.all_eq_true_iff_forall_mem.1 h4) e he
    simpa [hb] using this
  · rw [hd] at h5
    simp only [Bool.and_eq_true, decide_eq_true_eq] at h5
    refine ⟨h5.1, fun j o' hj hd' => ?_⟩
    have := List.all_eq_true.1 h5.2 j (List.mem_range.2 (Array.getElem?_eq_some_iff.1 hj).1)
    rw [hj] at this
    simp only [Bool.or_eq_true, beq_iff_eq, bne_iff_ne, ne_eq] at this
    rcases this with h | h
    · exact h
    · exact absurd hd' h

/-- the frame: what has all been written is as in A -/
structure Fr (ops : Array Oper) (n : Nat) (A : Act) (listed : Array Bool) (a : Act) : Prop where
  size : a.tmps.size = A.tmps.size
  defers : a.defers = A.defers
  at_ : ∀ t, (∀ (j : Nat) (o : Oper), j < n → ops[j]? = some o → o.dst = some t → listed.getD j false = true) → a.eval (.tmp t) = A.eval (.tmp t)

theorem Fr.put {n : Nat} {A : Act} {listed : Array Bool} {a : Act} (h : Fr ops n A listed a) (hs : shapeB ops A.tmps.size = true) (hsz : listed.size = ops.size) {i : Nat} {o : Oper} (ho : ops[i]? = some o) {v : Value} (hv : ∀ d, o.dst = some d → v = A.eval (.tmp d)) :
    Fr ops n A (listed.setIfInBounds i true) (a.put o.dst v) := by
  have S := shape_at hs ho
  refine ⟨?_, ?_, fun t ht => ?_⟩
  · cases o.dst <;> simp [Act.put, h.size]
  · cases o.dst <;> simp [Act.put, h.defers]
  · by_cases e : o.dst = some t
    · rw [e, ← hv t e]
      have := (S.dst t e).1
      simp [Act.put, Act.eval, h.size, this]
    · rw [Act.eval_put (fun d hd hx => e (by rw [hd]; injection hx with hx; rw [hx]))]
      refine h.at_ t fun j o' hjn hj hd => ?_
      have h2 := ht j o' hjn hj hd
      by_cases hij : i = j
      · subst hij; obtain rfl := Option.some.inj (hj.symm.trans ho); exact absurd hd e
      · rwa [getD_set_ne false hij] at h2

theorem Fr.all {n : Nat} {A a : Act} {listed : Array Bool} (h : Fr ops n A listed a) (hl : ∀ i, i < n → listed.getD i false = true) : a = A := by
  obtain ⟨t1, d1⟩ := a
  obtain ⟨t2, d2⟩ := A
  have hd : d1 = d2 := h.defers
  have ht : t1 = t2 := by
    refine Array.ext h.size fun i h1 h2 => ?_
    have := h.at_ i fun j o hjn _ _ => hl j hjn
    simp only [Act.eval] at this
    simpa [h1, h2] using this
  rw [hd, ht]

theorem some_unlisted {n : Nat} (hs : shapeB ops n = true) {listed : Array Bool} (hc : Clo ops listed) : ∀ (i : Nat), i < ops.size → listed.getD i false ≠ true → Region.ready .any ops listed ≠ [] := by
  intro i
  induction i using Nat.strongRecOn with
  | _ i ih =>
    intro hi hu hr
    have ho : ops[i]? = some ops[i] := Array.getElem?_eq_getElem hi
    have S := shape_at hs ho
    have hm : i ∈ Region.ready .any ops listed := by
      refine mem_ready.2 ⟨getD_in (by rw [hc.size]; exact hi) (by simpa using hu), _, ho, fun e he hb => ?_⟩
      have hlt := S.down e he hb
      cases h : listed.getD e.on false with
      | true => rfl
      | false => exact absurd hr (ih e.on hlt (by omega) (by simp [h]))
    rw [hr] at hm
    cases hm

/-- how many have not come -/
def lack (listed : Array Bool) : Nat := (listed.toList.filter (!·)).length
theorem lack_set {listed : Array Bool} {i : Nat} (hi : listed.getD i true = false) : lack (listed.setIfInBounds i true) < lack listed := by
  have hlt : i < listed.size := by
    rcases Nat.lt_or_ge i listed.size with h' | h'
    · exact h'
    · simp [Array.getElem?_eq_none h'] at hi
  unfold lack
  rw [Array.toList_setIfInBounds]
  have hi' : listed.toList[i]? = some false := by
    rw [Array.getElem?_toList, Array.getElem?_eq_getElem hlt]
    simp [hlt] at hi
    simp [hi]
  clear hi hlt
  generalize listed.toList = l at *
  induction l generalizing i with
  | nil => simp at hi'
  | cons x r ih =>
    cases i with
    | zero => simp at hi'; subst hi'; simp
    | succ i =>
      simp only [List.getElem?_cons_succ] at hi'
      have := ih hi'
      cases x <;> simp <;> simpa using this
theorem lack_zero {listed : Array Bool} (h : lack listed = 0) (i : Nat) (hi : i < listed.size) : listed.getD i false = true := by
  unfold lack at h
  have h2 : listed.toList.filter (!·) = [] := List.length_eq_zero_iff.1 h
  have h3 := List.filter_eq_nil_iff.1 h2 listed[i] (by simp)
  simp [hi] at h3 ⊢
  exact h3

structure Det (P : Program) (ops : Array Oper) (A : Act) (chain : List Nat) (hi : Nat → Nat) (Wd : Nat → World) : Prop where
  shape : shapeB ops A.tmps.size = true
  chainB : ∀ (j k : Nat) (cj ck : Nat), k < j → chain[j]? = some cj → chain[k]? = some ck → waits ops ck ops.size cj = true
  stillB : ∀ i, i < ops.size → i ∉ chain → ∀ c, chain[hi i]? = some c → waits ops i ops.size c = true
  inB : ∀ c ∈ chain, c < ops.size
  still : ∀ (i : Nat) (o : Oper), ops[i]? = some o → i ∉ chain → ∀ k, k ≤ hi i → Does P A o (Wd k) (Wd k)
  turn : ∀ (k : Nat) (i : Nat) (o : Oper), ops[i]? = some o → chain[k]? = some i → Does P A o (Wd k) (Wd (k + 1))

theorem wpAny_det {A : Act} {chain : List Nat} {hi : Nat → Nat} {Wd : Nat → World} (D : Det P ops A chain hi Wd) (hQ : Q .normal A (Wd chain.length)) :
    ∀ (f : Nat) (listed : Array Bool) (a : Act) (k : Nat), lack listed ≤ f → Clo ops listed → Fr ops ops.size A listed a → k ≤ chain.length →
      (∀ (j c : Nat), chain[j]? = some c → (listed.getD c false = true ↔ j < k)) → wpAny P .any ops Q f listed a (Wd k) := by
  intro f
  induction f with
  | zero =>
    intro listed a k hl hc hf hk hch
    have hall : ∀ i, i < ops.size → listed.getD i false = true := fun i h => lack_zero (Nat.le_zero.1 hl) i (by rw [hc.size]; exact h)
    have hkm : k = chain.length := by
      rcases Nat.lt_or_ge k chain.length with h | h
      · have := (hch k chain[k] (List.getElem?_eq_getElem h)).1 (hall _ (D.inB _ (List.getElem_mem h)))
        omega
      · omega
    refine ⟨?_, ?_⟩
    · cases hr : Region.ready .any ops listed with
      | nil => rfl
      | cons i r =>
        have hm : i ∈ Region.ready .any ops listed := by rw [hr]; simp
        obtain ⟨h0, o, ho, _⟩ := mem_ready.1 hm
        have := hall i (Array.getElem?_eq_some_iff.1 ho).1
        rw [getD_both h0] at this
        cases this
    · rw [hf.all hall, hkm]; exact hQ
  | succ f ih =>
    intro listed a k hl hc hf hk hch
    refine ⟨fun hr => ?_, fun i hi' => ?_⟩
    · have hall : ∀ i, i < ops.size → listed.getD i false = true := fun i h => by
        cases h2 : listed.getD i false with
        | true => rfl
        | false => exact absurd hr (some_unlisted D.shape hc i h (by simp [h2]))
      have hkm : k = chain.length := by
        rcases Nat.lt_or_ge k chain.length with h | h
        · have := (hch k chain[k] (List.getElem?_eq_getElem h)).1 (hall _ (D.inB _ (List.getElem_mem h)))
          omega
        · omega
      rw [hf.all hall, hkm]; exact hQ
    · obtain ⟨h0, o, ho, _⟩ := mem_ready.1 hi'
      have S := shape_at D.shape ho
      have hlt : i < ops.size := (Array.getElem?_eq_some_iff.1 ho).1
      have hcong : execOp a.eval o = execOp A.eval o := execOp_congr o S.sel fun x hx => by
        cases x with
        | tmp t =>
          refine hf.at_ t fun j o' _ hj hd => ?_
          have h1 := S.looks _ hx
          simp only [looksB] at h1
          have h2 := List.all_eq_true.1 h1 j (List.mem_range.2 (Array.getElem?_eq_some_iff.1 hj).1)
          rw [hj] at h2
          simp only [hd, bne_self_eq_false, Bool.false_or] at h2
          exact hc.ready ops.size hi' h2
        | _ => rfl
      have hwant : Region.wanted o (yielded ops a.tmps) = true := by simp [Region.wanted, S.guard]
      have go : ∀ k', k' ≤ chain.length → (∀ (j c : Nat), chain[j]? = some c → ((listed.setIfInBounds i true).getD c false = true ↔ j < k')) → Does P A o (Wd k) (Wd k') → wpOp P ops Q i (wpAny P .any ops Q f (listed.setIfInBounds i true)) a (Wd k) := by
        intro k' hk' hch' hd
        unfold wpOp
        rw [ho]
        simp only [hwant, if_true]
        refine .inl ?_
        unfold Oper.wp
        rw [hcong]
        have hlack : lack (listed.setIfInBounds i true) ≤ f := by have := lack_set h0; omega
        rcases hd with ⟨hrun, hn⟩ | ⟨v, hrun, hv⟩ | ⟨v, f', args, w0, hrun, hcall, hv⟩
        · rw [hrun]
          exact ih _ _ k' hlack (hc.set hi') (hf.put D.shape hc.size ho (v := undef) (fun d h => by rw [hn] at h; cases h)) hk' hch'
        · rw [hrun]
          exact ih _ _ k' hlack (hc.set hi') (hf.put D.shape hc.size ho hv) hk' hch'
        · rw [hrun]
          refine hcall.mono ?_
          rintro e w'' ⟨rfl, rfl⟩
          exact ih _ _ k' hlack (hc.set hi') (hf.put D.shape hc.size ho hv) hk' hch'
      by_cases hic : i ∈ chain
      · obtain ⟨j, hj⟩ := List.mem_iff_getElem?.1 hic
        have hjk : ¬ j < k := fun h => by
          have := (hch j i hj).2 h
          rw [getD_both h0] at this
          cases this
        have hjl : j < chain.length := (List.getElem?_eq_some_iff.1 hj).1
        have hjk2 : j = k := by
          rcases Nat.lt_or_ge k j with h | h
          · have hck : chain[k]? = some chain[k] := List.getElem?_eq_getElem (by omega)
            have := (hch k _ hck).1 (hc.ready ops.size hi' (D.chainB j k i _ h hj hck))
            omega
          · omega
        subst hjk2
        refine go (j + 1) (by omega) (fun j' c hc' => ?_) (D.turn j i o ho hj)
        by_cases e : i = c
        · subst e
          have hjj : j' = j := by
            have self : waits ops i ops.size i = true → False := fun hw => by
              have := hc.ready ops.size hi' hw
              rw [getD_both h0] at this
              cases this
            rcases Nat.lt_trichotomy j' j with h | h | h
            · exact (self (D.chainB j j' i i h hj hc')).elim
            · exact h
            · exact (self (D.chainB j' j i i h hc' hj)).elim
          subst hjj
          simp [hc.size, hlt]
        · rw [getD_set_ne false e, hch j' c hc']
          have : j' ≠ j := fun e2 => e (by subst e2; exact Option.some.inj (hj.symm.trans hc'))
          omega
      · refine go k hk (fun j c hc' => ?_) (D.still i o ho hic k ?_)
        · rw [getD_set_ne false (fun e => hic (by rw [e]; exact List.mem_of_getElem? hc')), hch j c hc']
        · rcases Nat.lt_or_ge (hi i) k with h | h
          · have hlen : hi i < chain.length := by omega
            have hck : chain[hi i]? = some chain[hi i] := List.getElem?_eq_getElem hlen
            have := hc.anc _ _ (D.stillB i hlt hic _ hck) ((hch _ _ hck).2 h)
            rw [getD_both h0] at this
            cases this
          · exact h

/-! ### .. whose last operations come in one order -/
theorem lack_set_eq {listed : Array Bool} {i : Nat} (hi : listed.getD i true = false) : lack (listed.setIfInBounds i true) + 1 = lack listed := by
  have hlt : i < listed.size := by
    rcases Nat.lt_or_ge i listed.size with h' | h'
    · exact h'
    · simp [Array.getElem?_eq_none h'] at hi
  unfold lack
  rw [Array.toList_setIfInBounds]
  have hi' : listed.toList[i]? = some false := by
    rw [Array.getElem?_toList, Array.getElem?_eq_getElem hlt]
    simp [hlt] at hi
    simp [hi]
  clear hi hlt
  generalize listed.toList = l at *
  induction l generalizing i with
  | nil => simp at hi'
  | cons x r ih =>
    cases i with
    | zero => simp at hi'; subst hi'; simp
    | succ i =>
      simp only [List.getElem?_cons_succ] at hi'
      have := ih hi'
      cases x <;> simp <;> simpa using this

def headDone (n g : Nat) : Array Bool := (List.replicate n true ++ List.replicate g false).toArray
theorem lack_headDone (n g : Nat) : lack (headDone n g) = g := by simp [lack, headDone]
theorem headDone_of {listed : Array Bool} {n : Nat} (hn : n ≤ listed.size) (h1 : ∀ i, i < n → listed.getD i false = true) (h2 : ∀ i, n ≤ i → i < listed.size → listed.getD i true = false) : listed = headDone n (listed.size - n) := by
  apply Array.ext
  · simp [headDone]; omega
  · intro i hi _
    simp only [headDone, List.getElem_toArray]
    by_cases h : i < n
    · rw [List.getElem_append_left (by simpa using h)]
      have := h1 i h
      simp [hi] at this
      simp [this]
    · rw [List.getElem_append_right (by simp; omega)]
      have := h2 i (by omega) hi
      simp [hi] at this
      simp [this]

structure DetT (P : Program) (ops : Array Oper) (n : Nat) (A : Act) (chain : List Nat) (hi : Nat → Nat) (Wd : Nat → World) : Prop where
  shape : shapeB ops A.tmps.size = true
  chainB : ∀ (j k : Nat) (cj ck : Nat), k < j → chain[j]? = some cj → chain[k]? = some ck → waits ops ck ops.size cj = true
  stillB : ∀ i, i < n → i ∉ chain → ∀ c, chain[hi i]? = some c → waits ops i ops.size c = true
  inB : ∀ c ∈ chain, c < n
  still : ∀ (i : Nat) (o : Oper), i < n → ops[i]? = some o → i ∉ chain → ∀ k, k ≤ hi i → Does P A o (Wd k) (Wd k)
  turn : ∀ (k : Nat) (i : Nat) (o : Oper), ops[i]? = some o → chain[k]? = some i → Does P A o (Wd k) (Wd (k + 1))
  lt : n < ops.size
  sink : Region.sinkB .any ops n = true
  seq : Region.chainB .any ops n = true

theorem wpAny_detT {n : Nat} {A : Act} {chain : List Nat} {hi : Nat → Nat} {Wd : Nat → World} (D : DetT P ops n A chain hi Wd)
    (hQ : ∀ a, Fr ops n A (headDone n (ops.size - n)) a → wpAny P .any ops Q (ops.size - n) (headDone n (ops.size - n)) a (Wd chain.length)) :
    ∀ (f : Nat) (listed : Array Bool) (a : Act) (k : Nat), lack listed = f → Clo ops listed → HeadInv .any ops n listed → Fr ops n A listed a → k ≤ chain.length →
      (∀ (j c : Nat), chain[j]? = some c → (listed.getD c false = true ↔ j < k)) → wpAny P .any ops Q f listed a (Wd k) := by
  intro f
  induction f with
  | zero =>
    intro listed a k hl hc hinv hf hk hch
    have := lack_zero hl n (by rw [hc.size]; exact D.lt)
    have h2 := hinv.tail n (Nat.le_refl _) D.lt
    rw [getD_both h2] at this
    cases this
  | succ f ih =>
    intro listed a k hl hc hinv hf hk hch
    by_cases hall : ∀ i, i < n → listed.getD i false = true
    · have e := headDone_of (by rw [hc.size]; exact Nat.le_of_lt D.lt) hall (fun i h1 h2 => hinv.tail i h1 (by rw [← hc.size]; exact h2))
      rw [hc.size] at e
      have hkm : k = chain.length := by
        rcases Nat.lt_or_ge k chain.length with h | h
        · have := (hch k chain[k] (List.getElem?_eq_getElem h)).1 (hall _ (D.inB _ (List.getElem_mem h)))
          omega
        · omega
      rw [e, lack_headDone] at hl
      rw [← hl, hkm]
      rw [e] at hf ⊢
      exact hQ a hf
    · obtain ⟨i0, hi0⟩ : ∃ i, ¬ (i < n → listed.getD i false = true) := Classical.not_forall.1 hall
      have hi0n : i0 < n := Classical.byContradiction fun h => hi0 fun h' => absurd h' h
      have hi0u : listed.getD i0 false = false := by
        cases h : listed.getD i0 false with
        | false => rfl
        | true => exact absurd (fun _ => h) hi0
      have hlow : ∀ i ∈ Region.ready .any ops listed, i < n := fun i hr => by
        rcases Nat.lt_or_ge i n with h | h
        · exact h
        · exact absurd hr (tail_waits D.sink D.seq D.lt hinv _ i0 rfl hi0n (getD_in (by rw [hc.size]; have := D.lt; omega) hi0u) i h)
      refine ⟨fun hr => ?_, fun i hi' => ?_⟩
      · exact absurd hr (some_unlisted D.shape hc i0 (by have := D.lt; omega) (by simp [hi0u]))
      · obtain ⟨h0, o, ho, _⟩ := mem_ready.1 hi'
        have hin := hlow i hi'
        have S := shape_at D.shape ho
        have hlt : i < ops.size := (Array.getElem?_eq_some_iff.1 ho).1
        have hcong : execOp a.eval o = execOp A.eval o := execOp_congr o S.sel fun x hx => by
          cases x with
          | tmp t =>
            refine hf.at_ t fun j o' _ hj hd => ?_
            have h1 := S.looks _ hx
            simp only [looksB] at h1
            have h2 := List.all_eq_true.1 h1 j (List.mem_range.2 (Array.getElem?_eq_some_iff.1 hj).1)
            rw [hj] at h2
            simp only [hd, bne_self_eq_false, Bool.false_or] at h2
            exact hc.ready ops.size hi' h2
          | _ => rfl
        have hwant : Region.wanted o (yielded ops a.tmps) = true := by simp [Region.wanted, S.guard]
        have go : ∀ k', k' ≤ chain.length → (∀ (j c : Nat), chain[j]? = some c → ((listed.setIfInBounds i true).getD c false = true ↔ j < k')) → Does P A o (Wd k) (Wd k') → wpOp P ops Q i (wpAny P .any ops Q f (listed.setIfInBounds i true)) a (Wd k) := by
          intro k' hk' hch' hd
          unfold wpOp
          rw [ho]
          simp only [hwant, if_true]
          refine .inl ?_
          unfold Oper.wp
          rw [hcong]
          have hlack : lack (listed.setIfInBounds i true) = f := by have := lack_set_eq h0; omega
          rcases hd with ⟨hrun, hn⟩ | ⟨v, hrun, hv⟩ | ⟨v, f', args, w0, hrun, hcall, hv⟩
          · rw [hrun]
            exact ih _ _ k' hlack (hc.set hi') (hinv.set hi' hin) (hf.put D.shape hc.size ho (v := undef) (fun d h => by rw [hn] at h; cases h)) hk' hch'
          · rw [hrun]
            exact ih _ _ k' hlack (hc.set hi') (hinv.set hi' hin) (hf.put D.shape hc.size ho hv) hk' hch'
          · rw [hrun]
            refine hcall.mono ?_
            rintro e w'' ⟨rfl, rfl⟩
            exact ih _ _ k' hlack (hc.set hi') (hinv.set hi' hin) (hf.put D.shape hc.size ho hv) hk' hch'
        by_cases hic : i ∈ chain
        · obtain ⟨j, hj⟩ := List.mem_iff_getElem?.1 hic
          have hjk : ¬ j < k := fun h => by
            have := (hch j i hj).2 h
            rw [getD_both h0] at this
            cases this
          have hjl : j < chain.length := (List.getElem?_eq_some_iff.1 hj).1
          have hjk2 : j = k := by
            rcases Nat.lt_or_ge k j with h | h
            · have hck : chain[k]? = some chain[k] := List.getElem?_eq_getElem (by omega)
              have := (hch k _ hck).1 (hc.ready ops.size hi' (D.chainB j k i _ h hj hck))
              omega
            · omega
          subst hjk2
          refine go (j + 1) (by omega) (fun j' c hc' => ?_) (D.turn j i o ho hj)
          by_cases e : i = c
          · subst e
            have hjj : j' = j := by
              have self : waits ops i ops.size i = true → False := fun hw => by
                have := hc.ready ops.size hi' hw
                rw [getD_both h0] at this
                cases this
              rcases Nat.lt_trichotomy j' j with h | h | h
              · exact (self (D.chainB j j' i i h hj hc')).elim
              · exact h
              · exact (self (D.chainB j' j i i h hc' hj)).elim
            subst hjj
            simp [hc.size, hlt]
          · rw [getD_set_ne false e, hch j' c hc']
            have : j' ≠ j := fun e2 => e (by subst e2; exact Option.some.inj (hj.symm.trans hc'))
            omega
        · refine go k hk (fun j c hc' => ?_) (D.still i o hin ho hic k ?_)
          · rw [getD_set_ne false (fun e => hic (by rw [e]; exact List.mem_of_getElem? hc')), hch j c hc']
          · rcases Nat.lt_or_ge (hi i) k with h | h
            · have hlen : hi i < chain.length := by omega
              have hck : chain[hi i]? = some chain[hi i] := List.getElem?_eq_getElem hlen
              have := hc.anc _ _ (D.stillB i hin hic _ hck) ((hch _ _ hck).2 h)
              rw [getD_both h0] at this
              cases this
            · exact h

/-! ### as one law -/
def Runs (P : Program) (A : Act) (chain : List Nat) (hi : Nat → Nat) (Wd : Nat → World) : Nat → List Oper → Prop
  | _, [] => True
  | i, o :: r => ((i ∉ chain ∧ ∀ k, k ≤ hi i → Does P A o (Wd k) (Wd k)) ∨ ∃ k, chain[k]? = some i ∧ Does P A o (Wd k) (Wd (k + 1))) ∧ Runs P A chain hi Wd (i + 1) r

theorem Runs.at_ {A : Act} {chain : List Nat} {hi : Nat → Nat} {Wd : Nat → World} : ∀ {L : List Oper} {i : Nat}, Runs P A chain hi Wd i L → ∀ (j : Nat) (o : Oper), L[j]? = some o →
    ((i + j ∉ chain ∧ ∀ k, k ≤ hi (i + j) → Does P A o (Wd k) (Wd k)) ∨ ∃ k, chain[k]? = some (i + j) ∧ Does P A o (Wd k) (Wd (k + 1)))
  | [], _, _, _, _, h => by simp at h
  | x :: r, i, h, 0, o, ho => by simp at ho; subst ho; exact h.1
  | x :: r, i, h, j + 1, o, ho => by
    rw [show i + (j + 1) = (i + 1) + j by omega]
    exact Runs.at_ h.2 j o (by simpa using ho)

def nodeferB (L : List Oper) : Bool := L.all fun o => match o.op with | .defer _ => false | _ => true
def chainOkB (ops : Array Oper) (chain : List Nat) (hi : Nat → Nat) : Bool :=
  (List.range chain.length).all (fun j => (List.range j).all fun k => waits ops (chain.getD k 0) ops.size (chain.getD j 0)) &&
  (List.range ops.size).all (fun i => chain.contains i || (decide (hi i ≤ chain.length) && (decide (hi i = chain.length) || waits ops i ops.size (chain.getD (hi i) 0)))) &&
  chain.all (fun c => decide (c < ops.size)) && decide chain.Nodup

theorem frame_fold : ∀ (ps : List (Oper × Value)) (a : Act), (ps.foldl (fun a p => a.put p.1.dst p.2) a).tmps.size = a.tmps.size ∧ (ps.foldl (fun a p => a.put p.1.dst p.2) a).defers = a.defers ∧
    ∀ t, (∀ p ∈ ps, p.1.dst ≠ some t) → (ps.foldl (fun a p => a.put p.1.dst p.2) a).eval (.tmp t) = a.eval (.tmp t)
  | [], _ => ⟨rfl, rfl, fun _ _ => rfl⟩
  | p :: r, a => by
    obtain ⟨h1, h2, h3⟩ := frame_fold r (a.put p.1.dst p.2)
    simp only [List.foldl_cons]
    refine ⟨h1.trans ?_, h2.trans ?_, fun t ht => (h3 t (fun q hq => ht q (by simp [hq]))).trans ?_⟩
    · cases p.1.dst <;> simp [Act.put]
    · cases p.1.dst <;> simp [Act.put]
    · exact Act.eval_put (fun d hd hx => ht p (by simp) (by rw [hd]; injection hx with hx; rw [hx]))

theorem fr_start {L : List Oper} {vs : List Value} {a A : Act} (hA : (L.zip vs).foldl (fun a p => a.put p.1.dst p.2) a = A) : Fr L.toArray L.toArray.size A (Array.replicate L.toArray.size false) a := by
  obtain ⟨h1, h2, h3⟩ := frame_fold (L.zip vs) a
  rw [hA] at h1 h2 h3
  refine ⟨h1.symm, h2.symm, fun t ht => (h3 t fun p hp e => ?_).symm⟩
  obtain ⟨j, hj⟩ := List.mem_iff_getElem?.1 (List.of_mem_zip hp).1
  have := ht j p.1 (by simpa using (List.getElem?_eq_some_iff.1 hj).1) (by simpa using hj) e
  rw [getD_replicate_false] at this
  cases this

theorem any_det {a A : Act} {W0 : World} {L : List Oper} {vs : List Value} {chain : List Nat} {hi : Nat → Nat} {Wd : Nat → World} (hA : (L.zip vs).foldl (fun a p => a.put p.1.dst p.2) a = A) (hs : shapeB L.toArray A.tmps.size = true)
    (hB : chainOkB L.toArray chain hi = true) (hr : Runs P A chain hi Wd 0 L) (hw : Wd 0 = W0) (hQ : Q .normal A (Wd chain.length)) : wpAny P .any L.toArray Q L.toArray.size (Array.replicate L.toArray.size false) a W0 := by
  simp only [chainOkB, Bool.and_eq_true, decide_eq_true_eq] at hB
  obtain ⟨⟨⟨h1, h2⟩, h3⟩, h4⟩ := hB
  have gd : ∀ {k c : Nat}, chain[k]? = some c → chain.getD k 0 = c := fun h => by simp [List.getD, h]
  have D : Det P L.toArray A chain hi Wd := by
    refine ⟨hs, fun j k cj ck hkj hj hk => ?_, fun i hi' hic c hc => ?_, fun c hc => by simpa using List.all_eq_true.1 h3 c hc, fun i o ho hic k hk => ?_, fun k i o ho hk => ?_⟩
    · have a1 := List.all_eq_true.1 h1 j (List.mem_range.2 (List.getElem?_eq_some_iff.1 hj).1)
      have a2 := List.all_eq_true.1 a1 k (List.mem_range.2 hkj)
      rwa [gd hj, gd hk] at a2
    · have a1 := List.all_eq_true.1 h2 i (List.mem_range.2 hi')
      simp only [Bool.or_eq_true, Bool.and_eq_true, decide_eq_true_eq] at a1
      rcases a1 with a1 | ⟨_, a1 | a1⟩
      · exact absurd (by simpa using a1) hic
      · rw [a1, List.getElem?_eq_none (Nat.le_refl _)] at hc; cases hc
      · rwa [gd hc] at a1
    · rcases hr.at_ i o (by simpa using ho) with ⟨_, h⟩ | ⟨k', h, _⟩
      · rw [Nat.zero_add] at h; exact h k hk
      · rw [Nat.zero_add] at h; exact absurd (List.mem_of_getElem? h) hic
    · rcases hr.at_ i o (by simpa using ho) with ⟨h, _⟩ | ⟨k', h, h'⟩
      · rw [Nat.zero_add] at h; exact absurd (List.mem_of_getElem? hk) h
      · rw [Nat.zero_add] at h
        have e : k' = k := (List.getElem?_inj (List.getElem?_eq_some_iff.1 h).1 h4).1 (h.trans hk.symm)
        rw [← e]; exact h'
  have hh : ∀ i, i ∉ chain → hi i ≤ chain.length ∨ L.toArray.size ≤ i := fun i hic => by
    rcases Nat.lt_or_ge i L.toArray.size with h | h
    · have a1 := List.all_eq_true.1 h2 i (List.mem_range.2 h)
      simp only [Bool.or_eq_true, Bool.and_eq_true, decide_eq_true_eq] at a1
      rcases a1 with a1 | ⟨a1, _⟩
      · exact absurd (by simpa using a1) hic
      · exact .inl a1
    · exact .inr h
  rw [← hw]
  refine wpAny_det D hQ _ _ _ 0 ?_ ⟨by simp, fun j o _ hl => by rw [getD_replicate_false] at hl; cases hl⟩ (fr_start hA) (Nat.zero_le _) (fun j c _ => by rw [getD_replicate_false]; simp)
  unfold lack
  refine Nat.le_trans (List.length_filter_le _ _) ?_
  simp

theorem wp_region_det {id : Nat} {a A : Act} {w : World} {L : List Oper} (vs : List Value) (chain : List Nat) (hi : Nat → Nat) (Wd : Nat → World) (hm : P.follows .mixedOrders = true)
    (hA : (L.zip vs).foldl (fun a p => a.put p.1.dst p.2) a = A) (hs : shapeB L.toArray A.tmps.size = true) (hB : chainOkB L.toArray chain hi = true) (hr : Runs P A chain hi Wd 0 L) (hw : Wd 0 = w.drew) (hQ : Q .normal A (Wd chain.length)) :
    (Code.region id L.toArray true).wp P Q a w := wp_region_any hm (any_det hA hs hB hr hw hQ)

theorem wpIn_region_det {id k l : Nat} {a A : Act} {w : World} {L : List Oper} (vs : List Value) (chain : List Nat) (hi : Nat → Nat) (Wd : Nat → World) (hm : P.follows .mixedOrders = true) (hd : nodeferB L = true) (hq : ¬ LetsOut Q)
    (hA : (L.zip vs).foldl (fun a p => a.put p.1.dst p.2) a = A) (hs : shapeB L.toArray A.tmps.size = true) (hB : chainOkB L.toArray chain hi = true) (hr : Runs P A chain hi Wd 0 L) (hw : Wd 0 = w.drew) (hQ : Q .normal A (Wd chain.length)) :
    (Code.region id L.toArray true).wpIn (Fence.wide.inRound l) k P Q a w := by
  refine wpIn_region_draw fun t => ?_
  simp only [Region.schedule, hm, Bool.true_or, if_true]
  refine opsIn_of_ops (fun i o hi c e => ?_) hq _ _ _ (wpAny_sound L.toArray.size t _ a _ (any_det hA hs hB hr hw hQ))
  have := List.all_eq_true.1 hd o (List.mem_of_getElem? (by simpa using hi))
  rw [e] at this
  simp at this

def chainOkT (ops : Array Oper) (n : Nat) (chain : List Nat) (hi : Nat → Nat) : Bool :=
  (List.range chain.length).all (fun j => (List.range j).all fun k => waits ops (chain.getD k 0) ops.size (chain.getD j 0)) &&
  (List.range n).all (fun i => chain.contains i || (decide (hi i ≤ chain.length) && (decide (hi i = chain.length) || waits ops i ops.size (chain.getD (hi i) 0)))) &&
  chain.all (fun c => decide (c < n)) && decide chain.Nodup && decide (n < ops.size) && Region.sinkB .any ops n && Region.chainB .any ops n && Region.seqB .any ops (ops.size - n) n (headDone n (ops.size - n))

theorem fr_startT {L : List Oper} {vs : List Value} {a A : Act} (hA : (L.zip vs).foldl (fun a p => a.put p.1.dst p.2) a = A) : Fr L.toArray vs.length A (Array.replicate L.toArray.size false) a := by
  obtain ⟨h1, h2, h3⟩ := frame_fold (L.zip vs) a
  rw [hA] at h1 h2 h3
  refine ⟨h1.symm, h2.symm, fun t ht => (h3 t fun p hp e => ?_).symm⟩
  obtain ⟨j, hj⟩ := List.mem_iff_getElem?.1 hp
  obtain ⟨x, y⟩ := p
  rw [List.getElem?_zip_eq_some] at hj
  have := ht j x (List.getElem?_eq_some_iff.1 hj.2).1 (by simpa using hj.1) e
  rw [getD_replicate_false] at this
  cases this

/-- from the head's frame A on, the last operations as a list. What they write is still as it was. -/
theorem any_detT {a A : Act} {W0 : World} {L : List Oper} {vs : List Value} {chain : List Nat} {hi : Nat → Nat} {Wd : Nat → World} (hA : (L.zip vs).foldl (fun a p => a.put p.1.dst p.2) a = A) (hs : shapeB L.toArray A.tmps.size = true)
    (hB : chainOkT L.toArray vs.length chain hi = true) (hr : Runs P A chain hi Wd 0 (L.take vs.length)) (hw : Wd 0 = W0) (hQ : wpList P L.toArray Q (L.drop vs.length) A (Wd chain.length)) : wpAny P .any L.toArray Q L.toArray.size (Array.replicate L.toArray.size false) a W0 := by
  simp only [chainOkT, Bool.and_eq_true, decide_eq_true_eq] at hB
  obtain ⟨⟨⟨⟨⟨⟨⟨h1, h2⟩, h3⟩, h4⟩, h5⟩, h6⟩, h7⟩, h8⟩ := hB
  have gd : ∀ {k c : Nat}, chain[k]? = some c → chain.getD k 0 = c := fun h => by simp [List.getD, h]
  have hnl : vs.length < L.length := by simpa using h5
  have tk : ∀ {i : Nat} {o : Oper}, i < vs.length → L.toArray[i]? = some o → (L.take vs.length)[i]? = some o := fun hi' ho => by
    rw [List.getElem?_take, if_pos hi']; simpa using ho
  have D : DetT P L.toArray vs.length A chain hi Wd := by
    refine ⟨hs, fun j k cj ck hkj hj hk => ?_, fun i hi' hic c hc => ?_, fun c hc => by simpa using List.all_eq_true.1 h3 c hc, fun i o hin ho hic k hk => ?_, fun k i o ho hk => ?_, h5, h6, h7⟩
    · have a1 := List.all_eq_true.1 h1 j (List.mem_range.2 (List.getElem?_eq_some_iff.1 hj).1)
      have a2 := List.all_eq_true.1 a1 k (List.mem_range.2 hkj)
      rwa [gd hj, gd hk] at a2
    · have a1 := List.all_eq_true.1 h2 i (List.mem_range.2 hi')
      simp only [Bool.or_eq_true, Bool.and_eq_true, decide_eq_true_eq] at a1
      rcases a1 with a1 | ⟨_, a1 | a1⟩
      · exact absurd (by simpa using a1) hic
      · rw [a1, List.getElem?_eq_none (Nat.le_refl _)] at hc; cases hc
      · rwa [gd hc] at a1
    · rcases hr.at_ i o (tk hin ho) with ⟨_, h⟩ | ⟨k', h, _⟩
      · rw [Nat.zero_add] at h; exact h k hk
      · rw [Nat.zero_add] at h; exact absurd (List.mem_of_getElem? h) hic
    · have hin : i < vs.length := by simpa using List.all_eq_true.1 h3 i (List.mem_of_getElem? hk)
      rcases hr.at_ i o (tk hin ho) with ⟨h, _⟩ | ⟨k', h, h'⟩
      · rw [Nat.zero_add] at h; exact absurd (List.mem_of_getElem? hk) h
      · rw [Nat.zero_add] at h
        have e : k' = k := (List.getElem?_inj (List.getElem?_eq_some_iff.1 h).1 h4).1 (h.trans hk.symm)
        rw [← e]; exact h'
  rw [← hw]
  have hdl : (L.drop vs.length).length = L.toArray.size - vs.length := by simp
  refine wpAny_detT D (fun a' hf => ?_) _ _ _ 0 (by simp [lack]) ⟨by simp, fun j o _ hl => by rw [getD_replicate_false] at hl; cases hl⟩
    ⟨by simp, fun j oj _ hl => (by rw [getD_replicate_false] at hl; cases hl), fun t _ ht => getD_in (by simpa using ht) (getD_replicate_false _ _)⟩ (fr_startT hA) (Nat.zero_le _) (fun j c _ => by rw [getD_replicate_false]; simp)
  rw [hf.all (fun i hi' => by
    simp only [headDone, Array.getD_eq_getD_getElem?, List.getElem?_toArray]
    rw [List.getElem?_append_left (by simpa using hi'), List.getElem?_replicate, if_pos hi']
    rfl)]
  have := wpAny_of_seq (md := .any) (Q' := Q) (L.drop vs.length) vs.length (headDone vs.length (L.toArray.size - vs.length)) A (Wd chain.length) (fun j => by simp [List.getElem?_drop]) (by rw [hdl]; exact h8) hQ
  rwa [hdl] at this

theorem wp_region_detT {id : Nat} {a A : Act} {w : World} {L : List Oper} (vs : List Value) (chain : List Nat) (hi : Nat → Nat) (Wd : Nat → World) (hm : P.follows .mixedOrders = true)
    (hA : (L.zip vs).foldl (fun a p => a.put p.1.dst p.2) a = A) (hs : shapeB L.toArray A.tmps.size = true) (hB : chainOkT L.toArray vs.length chain hi = true) (hr : Runs P A chain hi Wd 0 (L.take vs.length)) (hw : Wd 0 = w.drew)
    (hQ : wpList P L.toArray Q (L.drop vs.length) A (Wd chain.length)) : (Code.region id L.toArray true).wp P Q a w := wp_region_any hm (any_detT hA hs hB hr hw hQ)
end
end Go.Proofs.YtidkamnciomnmaaDoor
