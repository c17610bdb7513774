/-
  Giving, taking, moving, in plain Lean: error numbers and what a bank has behind a call.
-/
import Derived.Test.YtidkamnciomnmaaDoorBkPure
namespace Go.Proofs.YtidkamnciomnmaaDoor
namespace Bk

def maxU : Nat := 18446744073709551615

/-- an error's number of a purse and an amount; 0: none -/
def wrong (a d : S) (n : Nat) : Nat :=
  if a.length = 0 ∨ 16 < a.length ∨ 47 ∈ a then 42 else if d.length = 0 ∨ 40 < d.length then 43 else if n = 0 then 44 else 0

def give (m : M) (a d : S) (n : Nat) : Nat × M :=
  if wrong a d n ≠ 0 then (wrong a d n, m) else if maxU < get m (a, d) + n then (41, m) else (0, set m (a, d) (get m (a, d) + n))

def take (m : M) (a d : S) (n : Nat) : Nat × M :=
  if wrong a d n ≠ 0 then (wrong a d n, m) else if get m (a, d) < n then (40, m) else (0, set m (a, d) (get m (a, d) - n))

def move (m : M) (a c d : S) (n : Nat) : Nat × M :=
  if (take m a d n).1 ≠ 0 then ((take m a d n).1, m) else
  if (give (take m a d n).2 c d n).1 ≠ 0 then ((give (take m a d n).2 c d n).1, m) else (0, (give (take m a d n).2 c d n).2)

/-- what a purse may be that is not empty; how much it holds -/
structure Fine (m : M) : Prop extends Ok m where
  names : ∀ p ∈ m, wrong p.1.1 p.1.2 1 = 0
  low : ∀ p ∈ m, p.2 ≤ maxU

theorem Fine.nil : Fine [] := ⟨Ok.nil, by simp, by simp⟩
theorem Fine.get_le {m : M} (h : Fine m) (k : Key) : get m k ≤ maxU := by
  by_cases e : get m k = 0
  · omega
  · exact h.low _ (mem_of_get e)
theorem Fine.get_name {m : M} (h : Fine m) {a d : S} (e : get m (a, d) ≠ 0) : wrong a d 1 = 0 := h.names _ (mem_of_get e)

theorem wrong_one {a d : S} {n : Nat} (h : wrong a d n = 0) : wrong a d 1 = 0 := by
  unfold wrong at *
  split at h
  · cases h
  · split at h
    · cases h
    · rename_i h1 h2; rw [if_neg h1, if_neg h2]; simp
theorem wrong_pos {a d : S} {n : Nat} (h : wrong a d n = 0) : 0 < n := by
  unfold wrong at *
  split at h
  · cases h
  · split at h
    · cases h
    · split at h
      · cases h
      · omega

theorem Fine.set {m : M} (h : Fine m) {a d : S} {n : Nat} (hn : n ≤ maxU) (hw : wrong a d 1 = 0) : Fine (set m (a, d) n) := by
  refine ⟨h.toOk.set _ _, fun p hp => ?_, fun p hp => ?_⟩
  · rcases mem_set_key hp with hp | ⟨rfl, _⟩
    · exact h.names p hp
    · exact hw
  · rcases mem_set_key hp with hp | ⟨rfl, _⟩
    · exact h.low p hp
    · exact hn

theorem Fine.give {m : M} (h : Fine m) (a d : S) (n : Nat) : Fine (give m a d n).2 := by
  unfold Bk.give
  by_cases e1 : wrong a d n ≠ 0
  · rw [if_pos e1]; exact h
  · rw [if_neg e1]
    by_cases e2 : maxU < get m (a, d) + n
    · rw [if_pos e2]; exact h
    · rw [if_neg e2]; exact h.set (by omega) (wrong_one (n := n) (by omega))
theorem Fine.take {m : M} (h : Fine m) (a d : S) (n : Nat) : Fine (take m a d n).2 := by
  unfold Bk.take
  by_cases e1 : wrong a d n ≠ 0
  · rw [if_pos e1]; exact h
  · rw [if_neg e1]
    by_cases e2 : get m (a, d) < n
    · rw [if_pos e2]; exact h
    · rw [if_neg e2]; exact h.set (by have := h.get_le (a, d); omega) (wrong_one (n := n) (by omega))
theorem Fine.move {m : M} (h : Fine m) (a c d : S) (n : Nat) : Fine (move m a c d n).2 := by
  unfold Bk.move
  split
  · exact h
  · split
    · exact h
    · exact (h.take a d n).give c d n

theorem give_fails {m : M} {a d : S} {n : Nat} (h : (give m a d n).1 ≠ 0) : (give m a d n).2 = m := by
  unfold give at *
  by_cases e1 : wrong a d n ≠ 0
  · rw [if_pos e1]
  · rw [if_neg e1] at h ⊢
    by_cases e2 : maxU < get m (a, d) + n
    · rw [if_pos e2]
    · rw [if_neg e2] at h; exact absurd rfl h
theorem take_fails {m : M} {a d : S} {n : Nat} (h : (take m a d n).1 ≠ 0) : (take m a d n).2 = m := by
  unfold take at *
  by_cases e1 : wrong a d n ≠ 0
  · rw [if_pos e1]
  · rw [if_neg e1] at h ⊢
    by_cases e2 : get m (a, d) < n
    · rw [if_pos e2]
    · rw [if_neg e2] at h; exact absurd rfl h
theorem move_fails {m : M} {a c d : S} {n : Nat} (h : (move m a c d n).1 ≠ 0) : (move m a c d n).2 = m := by
  unfold move at *
  split
  · rfl
  · split
    · rfl
    · rename_i h1 h2; rw [if_neg h1, if_neg h2] at h; exact absurd rfl h

theorem give_ok {m : M} {a d : S} {n : Nat} (h : (give m a d n).1 = 0) : wrong a d n = 0 ∧ get m (a, d) + n ≤ maxU ∧ (give m a d n).2 = set m (a, d) (get m (a, d) + n) := by
  unfold give at *
  by_cases e1 : wrong a d n ≠ 0
  · rw [if_pos e1] at h; exact absurd h e1
  · rw [if_neg e1] at h ⊢
    by_cases e2 : maxU < get m (a, d) + n
    · rw [if_pos e2] at h; cases h
    · rw [if_neg e2]; exact ⟨by omega, by omega, rfl⟩
theorem take_ok {m : M} {a d : S} {n : Nat} (h : (take m a d n).1 = 0) : wrong a d n = 0 ∧ n ≤ get m (a, d) ∧ (take m a d n).2 = set m (a, d) (get m (a, d) - n) := by
  unfold take at *
  by_cases e1 : wrong a d n ≠ 0
  · rw [if_pos e1] at h; exact absurd h e1
  · rw [if_neg e1] at h ⊢
    by_cases e2 : get m (a, d) < n
    · rw [if_pos e2] at h; cases h
    · rw [if_neg e2]; exact ⟨by omega, by omega, rfl⟩
theorem move_ok {m : M} {a c d : S} {n : Nat} (h : (move m a c d n).1 = 0) :
    (take m a d n).1 = 0 ∧ (give (take m a d n).2 c d n).1 = 0 ∧ (move m a c d n).2 = (give (take m a d n).2 c d n).2 := by
  unfold move at *
  by_cases e1 : (take m a d n).1 ≠ 0
  · rw [if_pos e1] at h; exact absurd h e1
  · rw [if_neg e1] at h ⊢
    by_cases e2 : (give (take m a d n).2 c d n).1 ≠ 0
    · rw [if_pos e2] at h; exact absurd h e2
    · rw [if_neg e2]; exact ⟨by omega, by omega, rfl⟩

theorem give_of {m : M} {a d : S} {n : Nat} (hw : wrong a d n = 0) (hn : get m (a, d) + n ≤ maxU) : give m a d n = (0, set m (a, d) (get m (a, d) + n)) := by
  unfold give; rw [if_neg (by omega), if_neg (by omega)]
theorem take_of {m : M} {a d : S} {n : Nat} (hw : wrong a d n = 0) (hn : n ≤ get m (a, d)) : take m a d n = (0, set m (a, d) (get m (a, d) - n)) := by
  unfold take; rw [if_neg (by omega), if_neg (by omega)]
theorem move_of {m : M} {a c d : S} {n : Nat} (h1 : (take m a d n).1 = 0) (h2 : (give (take m a d n).2 c d n).1 = 0) : move m a c d n = (0, (give (take m a d n).2 c d n).2) := by
  unfold move; rw [if_neg (by omega), if_neg (by omega)]

/-- what is given and taken again leaves all as it was -/
theorem give_take {m : M} (h : Fine m) {a d : S} {n : Nat} (hg : (give m a d n).1 = 0) : take (give m a d n).2 a d n = (0, m) := by
  obtain ⟨hw, hn, e⟩ := give_ok hg
  have hs : get (give m a d n).2 (a, d) = get m (a, d) + n := by rw [e, get_set h.toOk, if_pos rfl]
  rw [take_of hw (by omega), hs, Nat.add_sub_cancel, e, set_set h.toOk, set_get h.toOk]
theorem take_give {m : M} (h : Fine m) {a d : S} {n : Nat} (hg : (take m a d n).1 = 0) : give (take m a d n).2 a d n = (0, m) := by
  obtain ⟨hw, hn, e⟩ := take_ok hg
  have hl := h.get_le (a, d)
  have hs : get (take m a d n).2 (a, d) = get m (a, d) - n := by rw [e, get_set h.toOk, if_pos rfl]
  rw [give_of hw (by omega), hs, Nat.sub_add_cancel hn, e, set_set h.toOk, set_get h.toOk]

/-- what is moved there and back leaves all as it was -/
theorem move_back {m : M} (h : Fine m) {a c d : S} {n : Nat} (hm : (move m a c d n).1 = 0) : move (move m a c d n).2 c a d n = (0, m) := by
  obtain ⟨h1, h2, e⟩ := move_ok hm
  have hf := h.take a d n
  have h3 := give_take hf h2
  rw [e]
  have h4 := take_give h h1
  rw [move_of (by rw [h3]) (by rw [h3]; simp only; rw [h4]), h3]
  simp only
  rw [h4]

/-- a giving that does not fail changes something -/
theorem give_changes {m : M} (h : Fine m) {a d : S} {n : Nat} (hg : (give m a d n).1 = 0) : (give m a d n).2 ≠ m := by
  obtain ⟨hw, hn, e⟩ := give_ok hg
  have hp := wrong_pos hw
  intro he
  have : get (give m a d n).2 (a, d) = get m (a, d) := by rw [he]
  rw [e, get_set h.toOk, if_pos rfl] at this
  omega
theorem take_changes {m : M} (h : Fine m) {a d : S} {n : Nat} (hg : (take m a d n).1 = 0) : (take m a d n).2 ≠ m := by
  obtain ⟨hw, hn, e⟩ := take_ok hg
  have hp := wrong_pos hw
  intro he
  have : get (take m a d n).2 (a, d) = get m (a, d) := by rw [he]
  rw [e, get_set h.toOk, if_pos rfl] at this
  omega
theorem move_same {m : M} (h : Fine m) {a d : S} {n : Nat} (hm : (move m a a d n).1 = 0) : (move m a a d n).2 = m := by
  obtain ⟨h1, h2, e⟩ := move_ok hm
  rw [e, take_give h h1]
theorem move_changes {m : M} (h : Fine m) {a c d : S} {n : Nat} (hm : (move m a c d n).1 = 0) (hac : a ≠ c) : (move m a c d n).2 ≠ m := by
  obtain ⟨h1, h2, e⟩ := move_ok hm
  obtain ⟨hw, hn, e1⟩ := take_ok h1
  obtain ⟨hw2, hn2, e2⟩ := give_ok h2
  have hp := wrong_pos hw
  have hf := h.take a d n
  intro he
  have : get (move m a c d n).2 (a, d) = get m (a, d) := by rw [he]
  rw [e, e2, get_set hf.toOk, if_neg (by intro x; exact hac (by injection x with x _; exact x.symm)), e1, get_set h.toOk, if_pos rfl] at this
  omega

/-- moving makes nothing, and loses nothing -/
theorem tot_move {m : M} (h : Fine m) (a c d : S) (n : Nat) (d' : S) : tot d' (move m a c d n).2 = tot d' m := by
  by_cases hm : (move m a c d n).1 = 0
  · obtain ⟨h1, h2, e⟩ := move_ok hm
    obtain ⟨hw, hn, e1⟩ := take_ok h1
    obtain ⟨hw2, hn2, e2⟩ := give_ok h2
    have hf := h.take a d n
    have t1 := tot_set h.toOk a d (get m (a, d) - n) d'
    have t2 := tot_set hf.toOk c d (get (take m a d n).2 (c, d) + n) d'
    rw [← e1] at t1
    rw [← e2] at t2
    rw [e]
    by_cases hd : d = d'
    · simp only [hd, if_true] at t1 t2
      rw [hd] at hn
      simp only [hd] at *
      omega
    · simp only [if_neg hd] at t1 t2
      omega
  · rw [move_fails hm]
theorem tot_give {m : M} (h : Fine m) {a d : S} {n : Nat} (hg : (give m a d n).1 = 0) (d' : S) : tot d' (give m a d n).2 = tot d' m + if d = d' then n else 0 := by
  obtain ⟨hw, hn, e⟩ := give_ok hg
  have t1 := tot_set h.toOk a d (get m (a, d) + n) d'
  rw [e]
  by_cases hd : d = d'
  · simp only [if_pos hd] at t1 ⊢; omega
  · simp only [if_neg hd] at t1 ⊢; omega

theorem wrong_le (a d : S) (n : Nat) : wrong a d n = 0 ∨ wrong a d n = 42 ∨ wrong a d n = 43 ∨ wrong a d n = 44 := by
  unfold wrong; repeat' split
  all_goals simp

end Bk
end Go.Proofs.YtidkamnciomnmaaDoor
