/-
  THE CONTRACTS OF denom.Check, denom.There, transfer.name.
-/
import Derived.Test.YtidkamnciomnmaaDen
namespace Go.Proofs.Ytidkamnciomnmaa
open Go.RowKit Go.Maps Go.Lib

/-- how far a counter is from n -/
def left (n : Nat) (v : Value) : Nat := match v with | .int _ i => n - i.toNat | _ => 0
theorem left_int (n i : Nat) : left n (.int .i64 i) = n - i := rfl

theorem getD_byte (s : ByteArray) (i : Nat) (h : i < s.size) : s.data.toList.getD i 0 = s[i] := by
  have h2 : i < s.data.toList.length := by rw [len_data]; exact h
  rw [List.getD_eq_getElem?_getD, List.getElem?_eq_getElem h2]
  simp [ByteArray.getElem_eq_getElem_data]
theorem letter_iff (c : UInt8) : Bk.letter c = true ↔ (97 ≤ c.toNat ∧ c.toNat ≤ 122) ∨ (48 ≤ c.toNat ∧ c.toNat ≤ 57) := by
  simp [Bk.letter, UInt8.le_iff_toNat_le]
theorem eq47 (c : UInt8) : c = 47 ↔ c.toNat = 47 := by
  constructor
  · rintro rfl; rfl
  · intro h; exact UInt8.toNat_inj.1 h
theorem okAt_iff (s : ByteArray) (i : Nat) (h : i < s.size) : Bk.okAt s.data.toList i = true ↔
    ((97 ≤ s[i].toNat ∧ s[i].toNat ≤ 122) ∨ (48 ≤ s[i].toNat ∧ s[i].toNat ≤ 57)) ∨ (s[i].toNat = 47 ∧ 0 < i ∧ i + 1 < s.size ∧ s[i - 1].toNat ≠ 47) := by
  unfold Bk.okAt
  rw [getD_byte s i h, getD_byte s (i - 1) (by omega), len_data, Bool.or_eq_true, letter_iff]
  simp only [Bool.and_eq_true, decide_eq_true_eq, beq_iff_eq, bne_iff_ne, ne_eq, eq47, and_assoc]
theorem chk_iff (s : ByteArray) : Bk.chk s.data.toList = true ↔ 0 < s.size ∧ s.size ≤ 40 ∧ ∀ i, i < s.size → Bk.okAt s.data.toList i = true := by
  unfold Bk.chk
  rw [len_data]
  simp [and_assoc]

set_option maxRecDepth 100000 in
set_option maxHeartbeats 1000000 in
theorem check_any (s : ByteArray) (w : World) (hs : s.size ≤ maxLen) : Calls Try.prog 20 #[.string s] w fun e w' => e = .returned (.bool (Bk.chk s.data.toList)) ∧ w = w' := by
  unfold maxLen at hs
  go_enter Try.func20, Try.ntmps20
  go_wp2
  · have h : s = ByteArray.empty := by assumption
    have e : Bk.chk s.data.toList = false := by rw [h]; rfl
    go_ret
    exact ⟨by rw [e]; rfl, rfl⟩
  · have h : ((s.size : Int) == 0) = true ∨ 40 < (s.size : Int) := by assumption
    have e : Bk.chk s.data.toList = false := Bool.eq_false_iff.2 fun h2 => by
      have := (chk_iff s).1 h2
      rw [beq_iff_eq] at h
      omega
    go_ret
    exact ⟨by rw [e]; rfl, rfl⟩
  · have h0 : ((s.size : Int) == 0) = false ∧ (s.size : Int) ≤ 40 := by assumption
    have hsz : 0 < s.size ∧ s.size ≤ 40 := by
      have := h0.1
      rw [beq_eq_false_iff_ne] at this
      omega
    clear h0
    rename_i h1 h2 h3 h4
    clear h1 h2
    go_loopw [15] (fun v wr => ∃ i : Nat, v = .int .i64 i ∧ i ≤ s.size ∧ (∀ j, j < i → Bk.okAt s.data.toList j = true) ∧ wr = w) (fun v _ => left s.size v)
    case atStart => exact ⟨0, rfl, Nat.zero_le _, fun j h => absurd h (Nat.not_lt_zero _), rfl⟩
    case round =>
      obtain ⟨i, rfl, hi, hj, rfl⟩ := hrel
      by_cases hil : i < s.size
      · have Hj := Lib.hid hj
        clear hj
        have Hk := Lib.hid (okAt_iff s i hil)
        have Hf := Lib.hid (fun (h : ¬ Bk.okAt s.data.toList i = true) => (Bool.eq_false_iff.2 fun h2 => h (((chk_iff s).1 h2).2.2 i hil) : Bk.chk s.data.toList = false))
        go_wp2
        all_goals first
          | (refine ⟨⟨i + 1, rfl, hil, fun j hj => ?_, by first | rfl | trivial⟩, ?_⟩
             · rcases Nat.lt_or_ge j i with h | h
               · exact Hj.out j h
               · obtain rfl : j = i := by omega
                 refine Hk.out.2 ?_
                 clear Hj Hk Hf
                 simp only [beq_iff_eq, beq_eq_false_iff_ne, bne_iff_ne, bne_eq_false_iff_eq, ne_eq] at *
                 omega
             · show s.size - ((i : Int) + 1).toNat < s.size - (i : Int).toNat
               omega)
          | (go_roundw
             case rel =>
               refine ⟨i + 1, rfl, hil, fun j hj => ?_, by first | rfl | trivial⟩
               rcases Nat.lt_or_ge j i with h | h
               · exact Hj.out j h
               · obtain rfl : j = i := by omega
                 refine Hk.out.2 ?_
                 clear Hj Hk Hf
                 simp only [beq_iff_eq, beq_eq_false_iff_ne, bne_iff_ne, bne_eq_false_iff_eq, ne_eq] at *
                 omega
             case measure =>
               show s.size - ((i : Int) + 1).toNat < s.size - (i : Int).toNat
               omega)
          | (go_ret
             refine ⟨?_, rfl⟩
             rw [Hf.out fun h => ?_]
             · rfl
             · replace h := Hk.out.1 h
               clear Hj Hk Hf
               simp only [beq_iff_eq, beq_eq_false_iff_ne, bne_iff_ne, bne_eq_false_iff_eq, ne_eq] at *
               omega)
      · have Hc := Lib.hid ((chk_iff s).2 ⟨hsz.1, hsz.2, fun j h => hj j (by omega)⟩)
        clear hj
        go_wp2
        go_ret
        exact ⟨by rw [Hc.out]; rfl, rfl⟩

/-! ### transfer.name -/
theorem name_iff (s : ByteArray) : Bk.nameB s.data.toList = true ↔ 0 < s.size ∧ s.size ≤ 16 ∧ ∀ i (h : i < s.size), Bk.letter s[i] = true := by
  unfold Bk.nameB
  rw [len_data, Bool.and_eq_true, Bool.and_eq_true, decide_eq_true_eq, decide_eq_true_eq, and_assoc, List.all_eq_true]
  constructor
  · rintro ⟨h1, h2, h3⟩
    refine ⟨h1, h2, fun i h => ?_⟩
    refine h3 _ ?_
    have h4 : i < s.data.toList.length := by rw [len_data]; exact h
    simp [ByteArray.getElem_eq_getElem_data]
  · rintro ⟨h1, h2, h3⟩
    refine ⟨h1, h2, fun c hc => ?_⟩
    obtain ⟨i, hi, e⟩ := List.mem_iff_getElem.1 hc
    have h4 : i < s.size := by rwa [len_data] at hi
    have := h3 i h4
    rw [← e]
    simpa [ByteArray.getElem_eq_getElem_data] using this

/-- a step's error of number c -/
theorem err_step {w : World} {g : Nat} {s : ByteArray} {i : Int} {c : Nat} (hc : c ≠ 0) (h : Blk w g 75 #[.string s, .int .i64 i, .iface 26 (.int .i64 c)]) : ErrD w 1 (.iface 73 (.pointer (some ⟨g, 0, none⟩))) c :=
  .inr (.inr ⟨hc, g, s, i, _, rfl, h, ErrD.num _ _ hc⟩)

def NamePost (s : ByteArray) (w : World) (e : Ending) (w' : World) : Prop := ∃ v, e = .returned v ∧ ErrD w' 1 v (if Bk.nameB s.data.toList = true then 0 else 42) ∧ Below w.heap.size w w'
theorem name_bad {s : ByteArray} {w : World} (h : ¬ Bk.nameB s.data.toList = true) {i : Int} (t : ByteArray) : NamePost s w (.returned (.iface 73 (.pointer (some ⟨w.heap.size, 0, none⟩)))) (w.alloc (.cells #[.string t, .int .i64 i, .iface 26 (.int .i64 42)] 75)) := by
  refine ⟨_, rfl, ?_, (Below.refl _ _).alloc (Nat.le_refl _) _⟩
  rw [if_neg h]
  exact err_step (by decide) (Blk.new _ _ _)

set_option maxRecDepth 100000 in
set_option maxHeartbeats 1000000 in
theorem name_any (s : ByteArray) (w : World) (hs : s.size ≤ maxLen) : Calls Try.prog 36 #[.string s] w (NamePost s w) := by
  unfold maxLen at hs
  go_enter Try.func36, Try.ntmps36
  go_wp2_with (go_at_call 23; refine (at_some _ _ _ _ _).mono ?_; rintro e w' ⟨rfl, rfl⟩)
  · have h : s = ByteArray.empty := by assumption
    have e : ¬ Bk.nameB s.data.toList = true := by rw [h]; decide
    go_ret
    exact name_bad e _
  · have h : ((s.size : Int) == 0) = true ∨ 16 < (s.size : Int) := by assumption
    have e : ¬ Bk.nameB s.data.toList = true := fun h2 => by
      have := (name_iff s).1 h2
      rw [beq_iff_eq] at h
      omega
    go_ret
    exact name_bad e _
  · have h0 : ((s.size : Int) == 0) = false ∧ (s.size : Int) ≤ 16 := by assumption
    have hsz : 0 < s.size ∧ s.size ≤ 16 := by
      have := h0.1
      rw [beq_eq_false_iff_ne] at this
      omega
    clear h0
    rename_i h1 h2 h3 h4
    clear h1 h2
    go_loopw [19] (fun v wr => ∃ i : Nat, v = .int .i64 i ∧ i ≤ s.size ∧ (∀ j (h : j < s.size), j < i → Bk.letter s[j] = true) ∧ wr = w) (fun v _ => left s.size v)
    case atStart => exact ⟨0, rfl, Nat.zero_le _, fun j _ h => absurd h (Nat.not_lt_zero _), rfl⟩
    case round =>
      obtain ⟨i, rfl, hi, hj, rfl⟩ := hrel
      by_cases hil : i < s.size
      · have Hj := Lib.hid hj
        clear hj
        have Hk := Lib.hid (letter_iff s[i])
        have Hf := Lib.hid (fun (h : ¬ Bk.letter s[i] = true) => (fun h2 => h (((name_iff s).1 h2).2.2 i hil) : ¬ Bk.nameB s.data.toList = true))
        go_wp2_with (go_at_call 23; refine (at_some _ _ _ _ _).mono ?_; rintro e w' ⟨rfl, rfl⟩)
        all_goals first
          | (refine ⟨⟨i + 1, rfl, hil, fun j h0 hj => ?_, by first | rfl | trivial⟩, ?_⟩
             · rcases Nat.lt_or_ge j i with h | h
               · exact Hj.out j h0 h
               · obtain rfl : j = i := by omega
                 refine Hk.out.2 ?_
                 clear Hj Hk Hf
                 omega
             · show s.size - ((i : Int) + 1).toNat < s.size - (i : Int).toNat
               omega)
          | (go_roundw
             case rel =>
               refine ⟨i + 1, rfl, hil, fun j h0 hj => ?_, by first | rfl | trivial⟩
               rcases Nat.lt_or_ge j i with h | h
               · exact Hj.out j h0 h
               · obtain rfl : j = i := by omega
                 refine Hk.out.2 ?_
                 clear Hj Hk Hf
                 omega
             case measure =>
               show s.size - ((i : Int) + 1).toNat < s.size - (i : Int).toNat
               omega)
          | (go_ret
             refine name_bad (Hf.out fun h => ?_) _
             replace h := Hk.out.1 h
             clear Hj Hk Hf
             omega)
      · have Hc := Lib.hid ((name_iff s).2 ⟨hsz.1, hsz.2, fun j h => hj j h (by omega)⟩)
        clear hj
        go_wp2
        go_ret
        exact ⟨_, rfl, by rw [if_pos Hc.out]; exact ErrD.nil _ _, Below.refl _ _⟩
end Go.Proofs.Ytidkamnciomnmaa
