/-
  Of how much of a denomination is there, in plain Lean: banks whose denominations are of three.
-/
import Derived.Test.YtidkamnciomnmaaDoorBkOps
namespace Go.Proofs.YtidkamnciomnmaaDoor
namespace Bk
/-- one of three denominations -/
def dk (k : Nat) : S := [UInt8.ofNat (120 + k)]
def AllD (m : M) : Prop := ∀ p ∈ m, ∃ k, k < 3 ∧ p.1.2 = dk k
theorem AllD.nil : AllD [] := fun _ h => absurd h List.not_mem_nil
theorem AllD.set {m : M} (h : AllD m) (a : S) {k : Nat} (hk : k < 3) (n : Nat) : AllD (Bk.set m (a, dk k) n) := fun p hp => by
  rcases mem_set_key hp with hp | ⟨rfl, _⟩
  · exact h p hp
  · exact ⟨k, hk, rfl⟩
theorem AllD.give {m : M} (h : AllD m) (a : S) {k : Nat} (hk : k < 3) (n : Nat) : AllD (give m a (dk k) n).2 := by
  unfold Bk.give
  split
  · exact h
  · split
    · exact h
    · exact h.set a hk _
theorem AllD.take {m : M} (h : AllD m) (a : S) {k : Nat} (hk : k < 3) (n : Nat) : AllD (take m a (dk k) n).2 := by
  unfold Bk.take
  split
  · exact h
  · split
    · exact h
    · exact h.set a hk _
theorem AllD.move {m : M} (h : AllD m) (a c : S) {k : Nat} (hk : k < 3) (n : Nat) : AllD (move m a c (dk k) n).2 := by
  by_cases e : (Bk.move m a c (dk k) n).1 = 0
  · obtain ⟨_, _, e2⟩ := move_ok e
    rw [e2]
    exact (h.take a hk n).give c hk n
  · rw [move_fails e]
    exact h
theorem dk_inj {j k : Nat} (hj : j < 3) (hk : k < 3) (h : dk j = dk k) : j = k := by
  have e1 : j = 0 ∨ j = 1 ∨ j = 2 := by omega
  have e2 : k = 0 ∨ k = 1 ∨ k = 2 := by omega
  rcases e1 with rfl | rfl | rfl <;> rcases e2 with rfl | rfl | rfl <;> first | rfl | (exact absurd h (by decide))
theorem tot_take_succ (d : S) : ∀ (m : M) (i : Nat) (h : i < m.length), tot d (m.take (i + 1)) = tot d (m.take i) + (if m[i].1.2 = d then m[i].2 else 0)
  | [], _, h => absurd h (Nat.not_lt_zero _)
  | p :: r, 0, _ => by simp [tot]
  | p :: r, i + 1, h => by
    have := tot_take_succ d r i (by simpa using h)
    simp only [List.take_succ_cons, tot, List.getElem_cons_succ, this]
    omega
theorem tot_take_le (d : S) : ∀ (m : M) (i : Nat), tot d (m.take i) ≤ tot d m
  | [], _ => by simp
  | p :: r, 0 => by simp [tot]
  | p :: r, i + 1 => by
    have := tot_take_le d r i
    simp only [List.take_succ_cons, tot]
    omega
end Bk
end Go.Proofs.YtidkamnciomnmaaDoor
