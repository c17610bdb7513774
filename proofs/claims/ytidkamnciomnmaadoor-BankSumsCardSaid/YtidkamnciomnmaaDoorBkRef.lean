/-
  The reference's bank, in plain Lean: a list of purses in any order holds what a bank holds.
-/
import Derived.Test.YtidkamnciomnmaaDoorBkTrans
namespace Go.Proofs.YtidkamnciomnmaaDoor
namespace Bk

/-- the list holds what m holds -/
def Rel (l m : M) : Prop := l.Perm m

theorem Rel.nil : Rel [] [] := List.Perm.refl _

theorem get_perm {l m : M} (hm : Ok m) (h : Rel l m) (k : Key) : get l k = get m k := by
  have hk : l.Pairwise (fun p q => p.1 ≠ q.1) := (h.pairwise_iff (fun {a b} (e : a.1 ≠ b.1) => e.symm)).2 (hm.rise.imp klt_ne)
  have mem_get : ∀ {l : M}, l.Pairwise (fun p q => p.1 ≠ q.1) → ∀ {k : Key} {n : Nat}, (k, n) ∈ l → get l k = n := by
    intro l
    induction l with
    | nil => intro _ k n hx; cases hx
    | cons p r ih =>
      intro hp k n hx
      unfold get
      rcases List.mem_cons.1 hx with e | hx
      · rw [← e]; simp
      · rw [if_neg ((List.pairwise_cons.1 hp).1 _ hx)]; exact ih (List.pairwise_cons.1 hp).2 hx
  by_cases e : get m k = 0
  · rw [e]
    refine get_of_not_mem fun p hp => ?_
    rintro rfl
    have hp' : p ∈ m := h.mem_iff.1 hp
    have := get_of_mem hm (k := p.1) (n := p.2) hp'
    have hpos := hm.pos p hp'
    omega
  · exact mem_get hk (h.mem_iff.2 (mem_of_get e))

def setR (l : M) (k : Key) (n : Nat) : M := l.filter (fun p => decide (p.1 ≠ k)) ++ if 0 < n then [(k, n)] else []

theorem filter_self {r : M} {k : Key} (h : ∀ q ∈ r, q.1 ≠ k) : r.filter (fun p => decide (p.1 ≠ k)) = r :=
  List.filter_eq_self.2 fun q hq => by simpa using h q hq

theorem set_perm {m : M} (hm : Ok m) (k : Key) (n : Nat) : (setR m k n).Perm (set m k n) := by
  induction m with
  | nil =>
    unfold setR set
    by_cases e : n = 0
    · simp [e]
    · simp [e, Nat.pos_of_ne_zero e]
  | cons p r ih =>
    unfold set
    by_cases e1 : p.1 = k
    · rw [if_pos e1]
      have hr : r.filter (fun p => decide (p.1 ≠ k)) = r := filter_self fun q hq => by rw [← e1]; exact (klt_ne (hm.head q hq)).symm
      unfold setR
      rw [List.filter_cons, if_neg (by simpa using e1), hr]
      by_cases e : n = 0
      · simp [e]
      · rw [if_neg e, if_pos (Nat.pos_of_ne_zero e)]; exact List.perm_append_comm (l₂ := [(k, n)])
    · rw [if_neg e1]
      by_cases e2 : klt k p.1 = true
      · rw [if_pos e2]
        have hr : (p :: r).filter (fun p => decide (p.1 ≠ k)) = p :: r := filter_self fun q hq => by
          rcases List.mem_cons.1 hq with rfl | hq
          · exact e1
          · exact (klt_ne (klt_trans e2 (hm.head q hq))).symm
        unfold setR
        rw [hr]
        by_cases e : n = 0
        · simp [e]
        · rw [if_neg e, if_pos (Nat.pos_of_ne_zero e)]; exact List.perm_append_comm (l₂ := [(k, n)])
      · rw [if_neg e2]
        have := ih hm.tail
        unfold setR at this ⊢
        rw [List.filter_cons, if_pos (by simpa using e1)]
        exact this.cons p

theorem Rel.set {l m : M} (hm : Ok m) (h : Rel l m) (k : Key) (n : Nat) : Rel (setR l k n) (Bk.set m k n) :=
  ((h.filter _).append_right _).trans (set_perm hm k n)

/-- one more, in order -/
def insR : M → Key × Nat → M
  | [], x => [x]
  | p :: r, x => if klt p.1 x.1 = true then p :: insR r x else x :: p :: r
def allR (l : M) : M := l.foldl insR []

theorem insR_perm (l : M) (x : Key × Nat) : (insR l x).Perm (x :: l) := by
  induction l with
  | nil => exact List.Perm.refl _
  | cons p r ih =>
    unfold insR
    split
    · exact (ih.cons p).trans (List.Perm.swap x p r)
    · exact List.Perm.refl _
theorem mem_insR {l : M} {x q : Key × Nat} : q ∈ insR l x ↔ q = x ∨ q ∈ l := by
  rw [(insR_perm l x).mem_iff]; simp
theorem insR_sorted {l : M} {x : Key × Nat} (h : l.Pairwise (fun p q => klt p.1 q.1 = true)) (hx : ∀ p ∈ l, p.1 ≠ x.1) : (insR l x).Pairwise (fun p q => klt p.1 q.1 = true) := by
  induction l with
  | nil => simp [insR]
  | cons p r ih =>
    unfold insR
    by_cases e : klt p.1 x.1 = true
    · rw [if_pos e]
      refine List.pairwise_cons.2 ⟨fun q hq => ?_, ih (List.pairwise_cons.1 h).2 fun q hq => hx q (by simp [hq])⟩
      rcases mem_insR.1 hq with rfl | hq
      · exact e
      · exact (List.pairwise_cons.1 h).1 q hq
    · rw [if_neg e]
      have hxp : klt x.1 p.1 = true := by
        cases e2 : klt x.1 p.1
        · exact absurd (klt_total (by simpa using e) e2) (hx p (by simp))
        · rfl
      refine List.pairwise_cons.2 ⟨fun q hq => ?_, h⟩
      rcases List.mem_cons.1 hq with rfl | hq
      · exact hxp
      · exact klt_trans hxp ((List.pairwise_cons.1 h).1 q hq)

theorem foldl_ins (l : M) : ∀ acc : M, acc.Pairwise (fun p q => klt p.1 q.1 = true) → (acc ++ l).Pairwise (fun p q => p.1 ≠ q.1) →
    (l.foldl insR acc).Perm (acc ++ l) ∧ (l.foldl insR acc).Pairwise (fun p q => klt p.1 q.1 = true) := by
  induction l with
  | nil => intro acc ha _; simp; exact ha
  | cons x r ih =>
    intro acc ha hn
    have hn1 : (x :: (acc ++ r)).Pairwise (fun p q => p.1 ≠ q.1) := ((List.perm_middle (a := x) (l₁ := acc) (l₂ := r)).pairwise_iff (fun {a b : Key × Nat} (e : a.1 ≠ b.1) => e.symm)).1 hn
    have hx : ∀ p ∈ acc, p.1 ≠ x.1 := fun p hp => ((List.pairwise_cons.1 hn1).1 p (by simp [hp])).symm
    have hperm : (insR acc x ++ r).Perm (acc ++ x :: r) := ((insR_perm acc x).append_right r).trans List.perm_middle.symm
    have h2 := ih (insR acc x) (insR_sorted ha hx) ((hperm.pairwise_iff (fun {a b} (e : a.1 ≠ b.1) => e.symm)).2 hn)
    exact ⟨h2.1.trans hperm, h2.2⟩

theorem allR_eq {l m : M} (hm : Ok m) (h : Rel l m) : allR l = m := by
  have hk : l.Pairwise (fun p q => p.1 ≠ q.1) := (h.pairwise_iff (fun {a b} (e : a.1 ≠ b.1) => e.symm)).2 (hm.rise.imp klt_ne)
  have h2 := foldl_ins l [] (by simp) (by simpa using hk)
  exact perm_sorted (h2.1.trans (by simp; exact h)) h2.2 hm.rise

end Bk
end Go.Proofs.YtidkamnciomnmaaDoor
