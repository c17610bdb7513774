/-
  What a bank has, in plain Lean: a rising list of purses; reading, setting, giving, taking, moving, sums.
-/
namespace Go.Proofs.YtidkamnciomnmaaDoor
namespace Bk

abbrev S := List UInt8
abbrev Key := S × S
abbrev M := List (Key × Nat)

/-- the order of purses: by accounts, then by denominations -/
def klt (x y : Key) : Bool := decide (x.1 < y.1) || (decide (x.1 = y.1) && decide (x.2 < y.2))

theorem slt_irrefl (x : S) : ¬ x < x := List.lt_irrefl x
theorem slt_trans {x y z : S} (h : x < y) (k : y < z) : x < z := List.lt_trans h k
theorem slt_total {x y : S} (h : ¬ x < y) (h' : ¬ y < x) : x = y := List.le_antisymm (List.not_lt.1 h') (List.not_lt.1 h)

theorem klt_iff {x y : Key} : klt x y = true ↔ x.1 < y.1 ∨ (x.1 = y.1 ∧ x.2 < y.2) := by simp [klt]
theorem klt_irrefl (x : Key) : klt x x = false := by
  cases h : klt x x
  · rfl
  · rcases klt_iff.1 h with h | ⟨_, h⟩ <;> exact absurd h (slt_irrefl _)
theorem klt_trans {x y z : Key} (h : klt x y = true) (k : klt y z = true) : klt x z = true := by
  rw [klt_iff] at *
  rcases h with h | ⟨h, h2⟩ <;> rcases k with k | ⟨k, k2⟩
  · exact .inl (slt_trans h k)
  · exact .inl (k ▸ h)
  · exact .inl (h ▸ k)
  · exact .inr ⟨h.trans k, slt_trans h2 k2⟩
theorem klt_total {x y : Key} (h : klt x y = false) (k : klt y x = false) : x = y := by
  have h' : ¬ (x.1 < y.1 ∨ (x.1 = y.1 ∧ x.2 < y.2)) := by rw [← klt_iff]; simp [h]
  have k' : ¬ (y.1 < x.1 ∨ (y.1 = x.1 ∧ y.2 < x.2)) := by rw [← klt_iff]; simp [k]
  have e1 : x.1 = y.1 := slt_total (fun e => h' (.inl e)) (fun e => k' (.inl e))
  have e2 : x.2 = y.2 := slt_total (fun e => h' (.inr ⟨e1, e⟩)) (fun e => k' (.inr ⟨e1.symm, e⟩))
  exact Prod.ext e1 e2
theorem klt_asymm {x y : Key} (h : klt x y = true) : klt y x = false := by
  cases k : klt y x
  · rfl
  · have := klt_trans h k
    rw [klt_irrefl] at this
    exact absurd this (by simp)
theorem klt_ne {x y : Key} (h : klt x y = true) : x ≠ y := fun e => by rw [e, klt_irrefl] at h; exact absurd h (by simp)

/-- how much is in a purse -/
def get : M → Key → Nat
  | [], _ => 0
  | p :: r, k => if p.1 = k then p.2 else get r k

/-- purses rise, none is empty -/
structure Ok (m : M) : Prop where
  rise : m.Pairwise (fun p q => klt p.1 q.1 = true)
  pos : ∀ p ∈ m, 0 < p.2

theorem Ok.nil : Ok [] := ⟨by simp, by simp⟩
theorem Ok.tail {p : Key × Nat} {r : M} (h : Ok (p :: r)) : Ok r := ⟨(List.pairwise_cons.1 h.rise).2, fun q hq => h.pos q (by simp [hq])⟩
theorem Ok.head {p : Key × Nat} {r : M} (h : Ok (p :: r)) : ∀ q ∈ r, klt p.1 q.1 = true := (List.pairwise_cons.1 h.rise).1

theorem get_of_not_mem {m : M} {k : Key} (h : ∀ p ∈ m, p.1 ≠ k) : get m k = 0 := by
  induction m with
  | nil => rfl
  | cons p r ih => unfold get; rw [if_neg (h p (by simp))]; exact ih fun q hq => h q (by simp [hq])
theorem get_of_mem {m : M} (h : Ok m) {k : Key} {n : Nat} (hm : (k, n) ∈ m) : get m k = n := by
  induction m with
  | nil => cases hm
  | cons p r ih =>
    unfold get
    rcases List.mem_cons.1 hm with e | hm
    · rw [← e]; simp
    · rw [if_neg (klt_ne (h.head _ hm))]; exact ih h.tail hm
theorem mem_of_get {m : M} {k : Key} (h : get m k ≠ 0) : (k, get m k) ∈ m := by
  induction m with
  | nil => exact absurd rfl h
  | cons p r ih =>
    unfold get at h ⊢
    by_cases e : p.1 = k
    · rw [if_pos e] at h ⊢; subst e; simp
    · rw [if_neg e] at h ⊢; exact List.mem_cons.2 (.inr (ih h))
theorem mem_iff {m : M} (h : Ok m) {k : Key} {n : Nat} : (k, n) ∈ m ↔ n ≠ 0 ∧ get m k = n :=
  ⟨fun hm => ⟨Nat.pos_iff_ne_zero.1 (h.pos _ hm), get_of_mem h hm⟩, fun ⟨h0, e⟩ => e ▸ mem_of_get (by rw [e]; exact h0)⟩

/-- two banks that have the same are the same -/
theorem ext : ∀ {m m' : M}, Ok m → Ok m' → (∀ k, get m k = get m' k) → m = m'
  | [], [], _, _, _ => rfl
  | [], p :: r, _, h', he => by
    have := he p.1
    rw [show get (p :: r) p.1 = p.2 by simp [get]] at this
    exact absurd this.symm (Nat.pos_iff_ne_zero.1 (h'.pos p (by simp)))
  | p :: r, [], h, _, he => by
    have := he p.1
    rw [show get (p :: r) p.1 = p.2 by simp [get]] at this
    exact absurd this (Nat.pos_iff_ne_zero.1 (h.pos p (by simp)))
  | p :: r, q :: s, h, h', he => by
    have key : p.1 = q.1 := by
      refine klt_total ?_ ?_
      · cases hlt : klt p.1 q.1
        · rfl
        · exfalso
          have h0 : get (q :: s) p.1 = 0 := get_of_not_mem fun x hx => by
            rcases List.mem_cons.1 hx with rfl | hx
            · exact (klt_ne hlt).symm
            · exact (klt_ne (klt_trans hlt (h'.head x hx))).symm
          have := he p.1
          rw [h0, show get (p :: r) p.1 = p.2 by simp [get]] at this
          exact absurd this (Nat.pos_iff_ne_zero.1 (h.pos p (by simp)))
      · cases hlt : klt q.1 p.1
        · rfl
        · exfalso
          have h0 : get (p :: r) q.1 = 0 := get_of_not_mem fun x hx => by
            rcases List.mem_cons.1 hx with rfl | hx
            · exact (klt_ne hlt).symm
            · exact (klt_ne (klt_trans hlt (h.head x hx))).symm
          have := he q.1
          rw [h0, show get (q :: s) q.1 = q.2 by simp [get]] at this
          exact absurd this.symm (Nat.pos_iff_ne_zero.1 (h'.pos q (by simp)))
    have val : p.2 = q.2 := by
      have := he p.1
      rw [show get (p :: r) p.1 = p.2 by simp [get], key, show get (q :: s) q.1 = q.2 by simp [get]] at this
      exact this
    obtain rfl : p = q := Prod.ext key val
    rw [ext h.tail h'.tail fun k => by
      have := he k
      by_cases e : p.1 = k
      · rw [get_of_not_mem fun x hx => ?_, get_of_not_mem fun x hx => ?_]
        · exact (e ▸ klt_ne (h'.head x hx)).symm
        · exact (e ▸ klt_ne (h.head x hx)).symm
      · unfold get at this; rwa [if_neg e, if_neg e] at this]

/-- a purse set to so much -/
def set : M → Key → Nat → M
  | [], k, n => if n = 0 then [] else [(k, n)]
  | p :: r, k, n =>
    if p.1 = k then (if n = 0 then r else (k, n) :: r)
    else if klt k p.1 then (if n = 0 then p :: r else (k, n) :: p :: r)
    else p :: set r k n

theorem mem_set_key {m : M} {k : Key} {n : Nat} {q : Key × Nat} (h : q ∈ set m k n) : q ∈ m ∨ q = (k, n) ∧ n ≠ 0 := by
  induction m with
  | nil =>
    unfold set at h
    by_cases e : n = 0
    · rw [if_pos e] at h; cases h
    · rw [if_neg e] at h; exact .inr ⟨by simpa using h, e⟩
  | cons p r ih =>
    unfold set at h
    by_cases e1 : p.1 = k
    · rw [if_pos e1] at h
      by_cases e : n = 0
      · rw [if_pos e] at h; exact .inl (by simp [h])
      · rw [if_neg e] at h
        rcases List.mem_cons.1 h with h | h
        · exact .inr ⟨h, e⟩
        · exact .inl (by simp [h])
    · rw [if_neg e1] at h
      by_cases e2 : klt k p.1 = true
      · rw [if_pos e2] at h
        by_cases e : n = 0
        · rw [if_pos e] at h; exact .inl h
        · rw [if_neg e] at h
          rcases List.mem_cons.1 h with h | h
          · exact .inr ⟨h, e⟩
          · exact .inl h
      · rw [if_neg e2] at h
        rcases List.mem_cons.1 h with h | h
        · exact .inl (by simp [h])
        · rcases ih h with h | h
          · exact .inl (by simp [h])
          · exact .inr h

theorem Ok.set {m : M} (h : Ok m) (k : Key) (n : Nat) : Ok (set m k n) := by
  refine ⟨?_, fun q hq => ?_⟩
  · induction m with
    | nil =>
      unfold Bk.set
      by_cases e : n = 0
      · rw [if_pos e]; simp
      · rw [if_neg e]; simp
    | cons p r ih =>
      unfold Bk.set
      by_cases e1 : p.1 = k
      · rw [if_pos e1]
        by_cases e : n = 0
        · rw [if_pos e]; exact h.tail.rise
        · rw [if_neg e]
          exact List.pairwise_cons.2 ⟨fun q hq => by rw [← e1]; exact h.head q hq, h.tail.rise⟩
      · rw [if_neg e1]
        by_cases e2 : klt k p.1 = true
        · rw [if_pos e2]
          by_cases e : n = 0
          · rw [if_pos e]; exact h.rise
          · rw [if_neg e]
            refine List.pairwise_cons.2 ⟨fun q hq => ?_, h.rise⟩
            rcases List.mem_cons.1 hq with rfl | hq
            · exact e2
            · exact klt_trans e2 (h.head q hq)
        · rw [if_neg e2]
          refine List.pairwise_cons.2 ⟨fun q hq => ?_, ih h.tail⟩
          rcases mem_set_key hq with hq | ⟨rfl, _⟩
          · exact h.head q hq
          · cases hlt : klt p.1 k
            · exact absurd (klt_total hlt (by simpa using e2)) e1
            · rfl
  · rcases mem_set_key hq with hq | ⟨rfl, h0⟩
    · exact h.pos q hq
    · exact Nat.pos_of_ne_zero h0

theorem get_set {m : M} (h : Ok m) (k : Key) (n : Nat) (k' : Key) : get (Bk.set m k n) k' = if k = k' then n else get m k' := by
  induction m with
  | nil =>
    unfold Bk.set
    by_cases e : n = 0
    · rw [if_pos e]; simp [get, e]
    · rw [if_neg e]; simp [get]
  | cons p r ih =>
    unfold Bk.set
    by_cases e1 : p.1 = k
    · rw [if_pos e1]
      by_cases e : n = 0
      · rw [if_pos e]
        by_cases ek : k = k'
        · rw [if_pos ek, e]
          exact get_of_not_mem fun x hx => by rw [← ek, ← e1]; exact (klt_ne (h.head x hx)).symm
        · rw [if_neg ek]; simp [get, e1, ek]
      · rw [if_neg e]
        by_cases ek : k = k'
        · simp [get, ek]
        · simp [get, ek, e1]
    · rw [if_neg e1]
      by_cases e2 : klt k p.1 = true
      · rw [if_pos e2]
        have h0 : get (p :: r) k = 0 := get_of_not_mem fun x hx => by
          rcases List.mem_cons.1 hx with rfl | hx
          · exact e1
          · exact (klt_ne (klt_trans e2 (h.head x hx))).symm
        by_cases e : n = 0
        · rw [if_pos e]
          by_cases ek : k = k'
          · rw [if_pos ek, ← ek, h0, e]
          · rw [if_neg ek]
        · rw [if_neg e]
          by_cases ek : k = k'
          · rw [if_pos ek]; simp [get, ek]
          · rw [if_neg ek]; simp [get, ek]
      · rw [if_neg e2]
        by_cases ek : k = k'
        · rw [if_pos ek]
          have : p.1 ≠ k' := ek ▸ e1
          unfold get; rw [if_neg this, ih h.tail, if_pos ek]
        · rw [if_neg ek]
          unfold get
          by_cases ep : p.1 = k'
          · rw [if_pos ep, if_pos ep]
          · rw [if_neg ep, if_neg ep, ih h.tail, if_neg ek]

theorem set_get {m : M} (h : Ok m) (k : Key) : Bk.set m k (get m k) = m :=
  ext (h.set _ _) h fun k' => by
    rw [get_set h]
    by_cases e : k = k'
    · rw [if_pos e, e]
    · rw [if_neg e]
theorem set_set {m : M} (h : Ok m) (k : Key) (n n' : Nat) : Bk.set (Bk.set m k n) k n' = Bk.set m k n' :=
  ext ((h.set _ _).set _ _) (h.set _ _) fun k' => by
    rw [get_set (h.set _ _), get_set h, get_set h]
    by_cases e : k = k' <;> simp [e]

/-- as much of a denomination as all have together -/
def tot (d : S) : M → Nat
  | [] => 0
  | p :: r => (if p.1.2 = d then p.2 else 0) + tot d r

theorem tot_set {m : M} (h : Ok m) (a d : S) (n : Nat) (d' : S) : tot d' (Bk.set m (a, d) n) + (if d = d' then get m (a, d) else 0) = tot d' m + (if d = d' then n else 0) := by
  induction m with
  | nil =>
    unfold Bk.set
    by_cases e : n = 0
    · rw [if_pos e]; simp [tot, get, e]
    · rw [if_neg e]; simp [tot, get]
  | cons p r ih =>
    unfold Bk.set
    by_cases e1 : p.1 = (a, d)
    · have h2 : p.1.2 = d := by rw [e1]
      rw [if_pos e1]
      have hg : get (p :: r) (a, d) = p.2 := by simp [get, e1]
      rw [hg]
      by_cases e : n = 0
      · rw [if_pos e]; simp only [tot, h2, e]; by_cases ed : d = d' <;> simp [ed] <;> omega
      · rw [if_neg e]; simp only [tot, h2]; by_cases ed : d = d' <;> simp [ed] <;> omega
    · rw [if_neg e1]
      by_cases e2 : klt (a, d) p.1 = true
      · rw [if_pos e2]
        have h0 : get (p :: r) (a, d) = 0 := get_of_not_mem fun x hx => by
          rcases List.mem_cons.1 hx with rfl | hx
          · exact e1
          · exact (klt_ne (klt_trans e2 (h.head x hx))).symm
        rw [h0]
        by_cases e : n = 0
        · rw [if_pos e, e]
        · rw [if_neg e]; simp only [tot]; by_cases ed : d = d' <;> simp [ed] <;> omega
      · rw [if_neg e2]
        have := ih h.tail
        have hg : get (p :: r) (a, d) = get r (a, d) := by simp [get, e1]
        rw [hg]
        simp only [tot]
        omega

/-- what a list has of which the purses are a bank's, in whatever order -/
theorem perm_sorted {l l' : M} (hp : l.Perm l') (h : l.Pairwise (fun p q => klt p.1 q.1 = true)) (h' : l'.Pairwise (fun p q => klt p.1 q.1 = true)) : l = l' := by
  induction l generalizing l' with
  | nil => exact hp.nil_eq
  | cons p r ih =>
    cases l' with
    | nil => exact absurd hp.symm (by simp)
    | cons q s =>
      have hpq : p = q := by
        have hp1 : p ∈ q :: s := hp.mem_iff.1 (by simp)
        have hq1 : q ∈ p :: r := hp.mem_iff.2 (by simp)
        rcases List.mem_cons.1 hp1 with e | hp1
        · exact e
        · rcases List.mem_cons.1 hq1 with e | hq1
          · exact e.symm
          · have a1 := (List.pairwise_cons.1 h').1 p hp1
            have a2 := (List.pairwise_cons.1 h).1 q hq1
            rw [klt_asymm a2] at a1
            exact absurd a1 (by simp)
      subst hpq
      rw [ih (List.Perm.cons_inv hp) (List.pairwise_cons.1 h).2 (List.pairwise_cons.1 h').2]

end Bk
end Go.Proofs.YtidkamnciomnmaaDoor
