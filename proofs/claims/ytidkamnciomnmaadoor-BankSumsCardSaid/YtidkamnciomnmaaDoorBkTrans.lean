/-
  Sending, receiving, giving back, in plain Lean.
-/
import Derived.Test.YtidkamnciomnmaaDoorBkOps
namespace Go.Proofs.YtidkamnciomnmaaDoor
namespace Bk

def letter (c : UInt8) : Bool := (97 ≤ c && c ≤ 122) || (48 ≤ c && c ≤ 57)

/-- may the byte at i stand there in a denomination's name? -/
def okAt (s : S) (i : Nat) : Bool :=
  letter (s.getD i 0) || (s.getD i 0 == 47 && decide (0 < i) && decide (i + 1 < s.length) && s.getD (i - 1) 0 != 47)

def chk (s : S) : Bool := decide (0 < s.length) && decide (s.length ≤ 40) && (List.range s.length).all (okAt s)

/-- what a channel puts ahead -/
def pre (c : Nat) : S := [99, 104, UInt8.ofNat (48 + c), 47]

def backB (c : Nat) (s : S) : Bool := decide (c < 4) && (pre c).isPrefixOf s

/-- a denomination's name on the other chain; an error's number -/
def there (c : Int) (s : S) : S × Nat :=
  if c < 0 ∨ 4 ≤ c then ([], 2) else if chk s = false then ([], 43) else
  if backB c.toNat s = true then (s.drop 4, 0) else if 36 < s.length then ([], 43) else (pre c.toNat ++ s, 0)

def escrow (c : Nat) : S := [101, 115, 99, 114, 111, 119, 45, UInt8.ofNat (48 + c)]

/-- where a name is wrong -/
def nameB (s : S) : Bool := decide (0 < s.length) && decide (s.length ≤ 16) && s.all letter

def checkN (c : Int) (d : S) (n : Nat) (f t : S) : Nat :=
  if (there c d).2 ≠ 0 then (there c d).2 else if nameB f = false then 42 else if nameB t = false then 42 else if n = 0 then 44 else 0

def sendM (m : M) (c : Int) (d : S) (n : Nat) (f t : S) : Nat × M :=
  if checkN c d n f t ≠ 0 then (checkN c d n f t, m) else
  if backB c.toNat d = true then take m f d n else move m f (escrow c.toNat) d n
def recvM (m : M) (c : Int) (d : S) (n : Nat) (f t : S) : Nat × M :=
  if checkN c d n f t ≠ 0 then (checkN c d n f t, m) else
  if backB c.toNat d = true then move m (escrow c.toNat) t (there c d).1 n else give m t (there c d).1 n
def refundM (m : M) (c : Int) (d : S) (n : Nat) (f t : S) : Nat × M :=
  if checkN c d n f t ≠ 0 then (checkN c d n f t, m) else
  if backB c.toNat d = true then give m f d n else move m (escrow c.toNat) f d n

theorem Fine.sendM {m : M} (h : Fine m) (c : Int) (d : S) (n : Nat) (f t : S) : Fine (sendM m c d n f t).2 := by
  unfold Bk.sendM; split
  · exact h
  · split
    · exact h.take _ _ _
    · exact h.move _ _ _ _
theorem Fine.recvM {m : M} (h : Fine m) (c : Int) (d : S) (n : Nat) (f t : S) : Fine (recvM m c d n f t).2 := by
  unfold Bk.recvM; split
  · exact h
  · split
    · exact h.move _ _ _ _
    · exact h.give _ _ _
theorem Fine.refundM {m : M} (h : Fine m) (c : Int) (d : S) (n : Nat) (f t : S) : Fine (refundM m c d n f t).2 := by
  unfold Bk.refundM; split
  · exact h
  · split
    · exact h.give _ _ _
    · exact h.move _ _ _ _

theorem nameB_ne {s : S} (h : nameB s = true) (c : Nat) : s ≠ escrow c := by
  rintro rfl
  simp [nameB, escrow, letter] at h

theorem checkN_ok {c : Int} {d : S} {n : Nat} {f t : S} (h : checkN c d n f t = 0) : (there c d).2 = 0 ∧ nameB f = true ∧ nameB t = true ∧ n ≠ 0 := by
  unfold checkN at h
  by_cases e1 : (there c d).2 ≠ 0
  · rw [if_pos e1] at h; exact absurd h e1
  · rw [if_neg e1] at h
    by_cases e2 : nameB f = false
    · rw [if_pos e2] at h; cases h
    · rw [if_neg e2] at h
      by_cases e3 : nameB t = false
      · rw [if_pos e3] at h; cases h
      · rw [if_neg e3] at h
        by_cases e4 : n = 0
        · rw [if_pos e4] at h; cases h
        · exact ⟨by omega, by simpa using e2, by simpa using e3, e4⟩

/-- TransferBack -/
theorem send_refund {m : M} (h : Fine m) {c : Int} {d : S} {n : Nat} {f t : S} (hs : (sendM m c d n f t).1 = 0) : refundM (sendM m c d n f t).2 c d n f t = (0, m) := by
  unfold sendM at hs ⊢
  by_cases e1 : checkN c d n f t ≠ 0
  · rw [if_pos e1] at hs; exact absurd hs e1
  · rw [if_neg e1] at hs ⊢
    unfold refundM
    rw [if_neg e1]
    by_cases e2 : backB c.toNat d = true
    · rw [if_pos e2] at hs ⊢; rw [if_pos e2]; exact take_give h hs
    · rw [if_neg e2] at hs ⊢; rw [if_neg e2]; exact move_back h hs

/-- TransferFails -/
theorem send_same {m : M} (h : Fine m) (c : Int) (d : S) (n : Nat) (f t : S) : (sendM m c d n f t).2 = m ↔ (sendM m c d n f t).1 ≠ 0 := by
  unfold sendM
  by_cases e1 : checkN c d n f t ≠ 0
  · rw [if_pos e1]; simp [e1]
  · rw [if_neg e1]
    have hk := checkN_ok (by simpa using e1)
    by_cases e2 : backB c.toNat d = true
    · rw [if_pos e2]; exact ⟨fun e h0 => take_changes h h0 e, take_fails⟩
    · rw [if_neg e2]; exact ⟨fun e h0 => move_changes h h0 (nameB_ne hk.2.1 _) e, move_fails⟩
theorem recv_same {m : M} (h : Fine m) (c : Int) (d : S) (n : Nat) (f t : S) : (recvM m c d n f t).2 = m ↔ (recvM m c d n f t).1 ≠ 0 := by
  unfold recvM
  by_cases e1 : checkN c d n f t ≠ 0
  · rw [if_pos e1]; simp [e1]
  · rw [if_neg e1]
    have hk := checkN_ok (by simpa using e1)
    by_cases e2 : backB c.toNat d = true
    · rw [if_pos e2]; exact ⟨fun e h0 => move_changes h h0 (nameB_ne hk.2.2.1 _).symm e, move_fails⟩
    · rw [if_neg e2]; exact ⟨fun e h0 => give_changes h h0 e, give_fails⟩
theorem refund_same {m : M} (h : Fine m) (c : Int) (d : S) (n : Nat) (f t : S) : (refundM m c d n f t).2 = m ↔ (refundM m c d n f t).1 ≠ 0 := by
  unfold refundM
  by_cases e1 : checkN c d n f t ≠ 0
  · rw [if_pos e1]; simp [e1]
  · rw [if_neg e1]
    have hk := checkN_ok (by simpa using e1)
    by_cases e2 : backB c.toNat d = true
    · rw [if_pos e2]; exact ⟨fun e h0 => give_changes h h0 e, give_fails⟩
    · rw [if_neg e2]; exact ⟨fun e h0 => move_changes h h0 (nameB_ne hk.2.1 _).symm e, move_fails⟩

/-! TransferRound -/
theorem okAt_pre {c : Nat} (hc : c < 4) {s : S} (hs : chk s = true) (i : Nat) (hi : i < (pre c ++ s).length) : okAt (pre c ++ s) i = true := by
  simp only [chk, Bool.and_eq_true, decide_eq_true_eq, List.all_eq_true, List.mem_range] at hs
  obtain ⟨⟨h0, h40⟩, hall⟩ := hs
  have hl : (pre c ++ s).length = 4 + s.length := by simp [pre]; omega
  rw [hl] at hi
  by_cases h4 : i < 4
  · have hc' : c = 0 ∨ c = 1 ∨ c = 2 ∨ c = 3 := by omega
    have hi' : i = 0 ∨ i = 1 ∨ i = 2 ∨ i = 3 := by omega
    rcases hc' with rfl | rfl | rfl | rfl <;> rcases hi' with rfl | rfl | rfl | rfl <;> simp [okAt, pre, letter] <;> omega
  · obtain ⟨j, rfl⟩ : ∃ j, i = 4 + j := ⟨i - 4, by omega⟩
    have hj := hall j (by omega)
    have e1 : (pre c ++ s).getD (4 + j) 0 = s.getD j 0 := by
      simp [pre, List.getD_eq_getElem?_getD, show 4 + j = j + 1 + 1 + 1 + 1 from by omega]
    unfold okAt at hj ⊢
    rw [e1, hl]
    simp only [Bool.or_eq_true, Bool.and_eq_true, decide_eq_true_eq, beq_iff_eq, bne_iff_ne] at hj ⊢
    rcases hj with hj | ⟨⟨⟨h1, h2⟩, h3⟩, h4⟩
    · exact .inl hj
    · refine .inr ⟨⟨⟨h1, by omega⟩, by omega⟩, ?_⟩
      have e2 : (pre c ++ s).getD (4 + j - 1) 0 = s.getD (j - 1) 0 := by
        simp [pre, List.getD_eq_getElem?_getD, show 4 + j - 1 = (j - 1) + 1 + 1 + 1 + 1 from by omega]
      rw [e2]; exact h4
theorem chk_pre {c : Nat} (hc : c < 4) {s : S} (hs : chk s = true) (h36 : s.length ≤ 36) : chk (pre c ++ s) = true := by
  have ha := okAt_pre hc hs
  have hl : (pre c ++ s).length = 4 + s.length := by simp [pre]; omega
  simp only [chk, Bool.and_eq_true, decide_eq_true_eq, List.all_eq_true, List.mem_range]
  refine ⟨⟨by omega, by omega⟩, ha⟩
theorem backB_pre {c : Nat} (hc : c < 4) (s : S) : backB c (pre c ++ s) = true := by
  simp [backB, hc]
theorem there_of {c : Nat} (hc : c < 4) {s : S} (he : (there c s).2 = 0) (hb : backB c s = false) : chk s = true ∧ s.length ≤ 36 ∧ (there c s).1 = pre c ++ s := by
  unfold there at *
  rw [if_neg (by omega)] at he ⊢
  by_cases e1 : chk s = false
  · rw [if_pos e1] at he; cases he
  · rw [if_neg e1] at he ⊢
    rw [Int.toNat_natCast] at *
    rw [hb] at he ⊢
    simp only [Bool.false_eq_true, if_false] at he ⊢
    by_cases e2 : 36 < s.length
    · rw [if_pos e2] at he; cases he
    · rw [if_neg e2]; exact ⟨by simpa using e1, by omega, rfl⟩
theorem there_back {c : Nat} (hc : c < 4) {s : S} (hs : chk s = true) (h36 : s.length ≤ 36) : there c (pre c ++ s) = (s, 0) := by
  unfold there
  rw [if_neg (by omega), if_neg (by rw [chk_pre hc hs h36]; simp), Int.toNat_natCast, if_pos (backB_pre hc s)]
  simp [pre]

theorem escrow_wrong {c : Nat} (hc : c < 4) {d : S} {n : Nat} (hd : wrong [97] d n = 0) : wrong (escrow c) d n = 0 := by
  unfold wrong at *
  have h1 : ¬ ((escrow c).length = 0 ∨ 16 < (escrow c).length ∨ 47 ∈ escrow c) := by
    have hc' : c = 0 ∨ c = 1 ∨ c = 2 ∨ c = 3 := by omega
    rcases hc' with rfl | rfl | rfl | rfl <;> decide
  have h2 : ¬ (([97] : S).length = 0 ∨ 16 < ([97] : S).length ∨ 47 ∈ ([97] : S)) := by decide
  rw [if_neg h2] at hd
  rw [if_neg h1]; exact hd
theorem letter_wrong {x : UInt8} (hx : x ≠ 47) {d : S} {n : Nat} (hd : wrong [97] d n = 0) : wrong [x] d n = 0 := by
  unfold wrong at *
  have h1 : ¬ (([x] : S).length = 0 ∨ 16 < ([x] : S).length ∨ 47 ∈ ([x] : S)) := by simp; exact fun e => hx e.symm
  have h2 : ¬ (([97] : S).length = 0 ∨ 16 < ([97] : S).length ∨ 47 ∈ ([97] : S)) := by decide
  rw [if_neg h2] at hd
  rw [if_neg h1]; exact hd
theorem wrong_a {d : S} {n : Nat} (h0 : 0 < d.length) (h40 : d.length ≤ 40) (hn : n ≠ 0) : wrong [97] d n = 0 := by
  unfold wrong
  have h2 : ¬ (([97] : S).length = 0 ∨ 16 < ([97] : S).length ∨ 47 ∈ ([97] : S)) := by decide
  rw [if_neg h2, if_neg (by omega), if_neg hn]

theorem set_nil {k : Key} {n : Nat} (hn : n ≠ 0) : set [] k n = [(k, n)] := by simp [set, hn]

section
variable {c : Nat} (hc : c < 4) {s : S} {n : Nat} (he : (there c s).2 = 0) (hb : backB c s = false) (hn : n ≠ 0) (hu : n ≤ maxU)
include hc he hb hn hu
theorem round_x : give [] [97] s n = (0, [(([97], s), n)]) ∧ sendM [(([97], s), n)] c s n [97] [98] = (0, [((escrow c, s), n)]) := by
  obtain ⟨hs, h36, ht⟩ := there_of hc he hb
  have hl : 0 < s.length := by simp only [chk, Bool.and_eq_true, decide_eq_true_eq] at hs; exact hs.1.1
  have hw := wrong_a hl (by omega : s.length ≤ 40) hn
  have hg : give [] [97] s n = (0, [(([97], s), n)]) := by
    rw [give_of hw (by simp [get]; exact hu)]; simp [get, set_nil hn]
  refine ⟨hg, ?_⟩
  have hk : checkN c s n [97] [98] = 0 := by
    unfold checkN; rw [if_neg (by omega), if_neg (by decide), if_neg (by decide), if_neg hn]
  unfold sendM
  rw [if_neg (by omega), Int.toNat_natCast, hb]
  simp only [Bool.false_eq_true, if_false]
  have hf : Fine [(([97], s), n)] := by have := Fine.nil.give [97] s n; rw [hg] at this; exact this
  have ht : take [(([97], s), n)] [97] s n = (0, []) := by
    rw [take_of hw (by simp [get])]; simp [get, set]
  have hg2 : give [] (escrow c) s n = (0, [((escrow c, s), n)]) := by
    rw [give_of (escrow_wrong hc hw) (by simp [get]; exact hu)]; simp [get, set_nil hn]
  rw [move_of (by rw [ht]) (by rw [ht]; simp only; rw [hg2]), ht]
  simp only
  rw [hg2]
theorem round_y : recvM [] c s n [97] [98] = (0, [(([98], (there c s).1), n)]) ∧ sendM [(([98], (there c s).1), n)] c (there c s).1 n [98] [100] = (0, []) := by
  obtain ⟨hs, h36, ht⟩ := there_of hc he hb
  have hl : 0 < s.length := by simp only [chk, Bool.and_eq_true, decide_eq_true_eq] at hs; exact hs.1.1
  have hlp : (pre c ++ s).length = 4 + s.length := by simp [pre]; omega
  have hw := wrong_a (d := pre c ++ s) (by omega) (by omega) hn
  have hw2 := letter_wrong (x := 98) (by decide) hw
  have hk : checkN c s n [97] [98] = 0 := by
    unfold checkN; rw [if_neg (by omega), if_neg (by decide), if_neg (by decide), if_neg hn]
  have hk2 : checkN c (pre c ++ s) n [98] [100] = 0 := by
    unfold checkN; rw [there_back hc hs h36, if_neg (by simp), if_neg (by decide), if_neg (by decide), if_neg hn]
  rw [ht]
  constructor
  · unfold recvM
    rw [if_neg (by omega), Int.toNat_natCast, hb, ht]
    simp only [Bool.false_eq_true, if_false]
    rw [give_of hw2 (by simp [get]; exact hu)]; simp [get, set_nil hn]
  · unfold sendM
    rw [if_neg (by omega), Int.toNat_natCast, if_pos (backB_pre hc s)]
    rw [take_of hw2 (by simp [get])]; simp [get, set]
theorem round_back : recvM [((escrow c, s), n)] c (there c s).1 n [98] [100] = (0, [(([100], s), n)]) := by
  obtain ⟨hs, h36, ht⟩ := there_of hc he hb
  have hl : 0 < s.length := by simp only [chk, Bool.and_eq_true, decide_eq_true_eq] at hs; exact hs.1.1
  have hw := wrong_a (d := s) (by omega) (by omega) hn
  have hk2 : checkN c (pre c ++ s) n [98] [100] = 0 := by
    unfold checkN; rw [there_back hc hs h36, if_neg (by simp), if_neg (by decide), if_neg (by decide), if_neg hn]
  rw [ht]
  unfold recvM
  rw [if_neg (by omega), Int.toNat_natCast, if_pos (backB_pre hc s), there_back hc hs h36]
  simp only
  have h1 : take [((escrow c, s), n)] (escrow c) s n = (0, []) := by
    rw [take_of (escrow_wrong hc hw) (by simp [get])]; simp [get, set]
  have h2 : give [] [100] s n = (0, [(([100], s), n)]) := by
    rw [give_of (letter_wrong (by decide) hw) (by simp [get]; exact hu)]; simp [get, set_nil hn]
  rw [move_of (by rw [h1]) (by rw [h1]; simp only; rw [h2]), h1]
  simp only
  rw [h2]
end

end Bk
end Go.Proofs.YtidkamnciomnmaaDoor
