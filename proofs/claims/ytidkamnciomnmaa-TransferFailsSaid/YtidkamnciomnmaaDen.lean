/-
  THE CONTRACTS OF denom.* AND OF strings.CutPrefix.
-/
import Derived.Test.YtidkamnciomnmaaErr
import Derived.Test.YtidkamnciomnmaaBkTrans
import Derived.LoopN
namespace Go.Proofs.Ytidkamnciomnmaa
open Go.RowKit Go.Maps Go.Lib

/-- a list of bytes as a string -/
def st (l : Bk.S) : ByteArray := ⟨l.toArray⟩
theorem st_data (s : ByteArray) : st s.data.toList = s := by cases s; simp [st]
theorem data_st (l : Bk.S) : (st l).data.toList = l := by simp [st]

theorem one_byte (n : Int) (b : UInt8) (h : n = b.toNat) (w : World) :
    (convert 22 9 (.slice (some ⟨w.heap.size, 0, none⟩) 1 1)).run Try.prog (w.alloc (.cells #[.int .u8 n] 5)) = .ok (.string ⟨#[b]⟩) (w.alloc (.cells #[.int .u8 n] 5)) := by
  subst h
  have hb : Blk (w.alloc (.cells #[.int .u8 b.toNat] 5)) w.heap.size 5 #[.int .u8 b.toNat] := Blk.new _ _ _
  refine run_convert_bytes_back _ 22 9 5 ⟨w.heap.size, 0, none⟩ 1 [b] Try.underlying22 Try.underlying5 Try.underlying9 fun j hj => ?_
  obtain rfl : j = 0 := by simpa using hj
  exact hb.cell 0
theorem digit (c : Nat) (hc : c < 4) : (48 + (c : Int) % 10) = ((UInt8.ofNat (48 + c)).toNat : Int) := by
  have hc' : c = 0 ∨ c = 1 ∨ c = 2 ∨ c = 3 := by omega
  rcases hc' with rfl | rfl | rfl | rfl <;> rfl
set_option maxRecDepth 100000 in
theorem prefix_any (c : Nat) (hc : c < 4) (w : World) : Calls Try.prog 21 #[.int .i64 c] w fun e w' => e = .returned (.string (st (Bk.pre c))) ∧ Below w.heap.size w w' := by
  have hcv := one_byte _ _ (digit c hc) w
  go_enter Try.func21, Try.ntmps21
  go_wp2
  go_ret
  refine ⟨?_, (Below.refl _ _).alloc (Nat.le_refl _) _⟩
  show Ending.returned (.string _) = _
  congr 2
  apply ByteArray.ext
  simp [st, Bk.pre, Bk.escrow, ByteArray.data_append]
set_option maxRecDepth 100000 in
theorem escrow_any (c : Nat) (hc : c < 4) (w : World) : Calls Try.prog 28 #[.int .i64 c] w fun e w' => e = .returned (.string (st (Bk.escrow c))) ∧ w' = w.alloc (.cells #[.int .u8 (48 + (c : Int) % 10)] 5) := by
  have hcv := one_byte _ _ (digit c hc) w
  go_enter Try.func28, Try.ntmps28
  go_wp2
  go_ret
  refine ⟨?_, rfl⟩
  show Ending.returned (.string _) = _
  congr 2
  apply ByteArray.ext
  simp [st, Bk.pre, Bk.escrow, ByteArray.data_append]

theorem has_prefix (s p : ByteArray) (w : World) : Calls Try.prog 41 #[.string s, .string p] w fun e w' => e = .returned (.bool (p.data.toList.isPrefixOf s.data.toList)) ∧ w = w' := by
  have key : p.data.toList.isPrefixOf s.data.toList = (decide (p.size ≤ s.size) && ((s.extract 0 p.size).toList == p.toList)) := by
    rw [Lib.extract_toList, Lib.toList_data, List.drop_zero, Nat.sub_zero, Bool.eq_iff_iff, List.isPrefixOf_iff_prefix, List.prefix_iff_eq_take, Bool.and_eq_true, decide_eq_true_eq, beq_iff_eq]
    have e : p.data.toList.length = p.size := len_data p
    have e' : s.data.toList.length = s.size := len_data s
    rw [e]
    constructor
    · intro h
      refine ⟨?_, h.symm⟩
      have := congrArg List.length h
      rw [List.length_take, e, e'] at this
      omega
    · rintro ⟨_, h⟩; exact h.symm
  rw [key]
  go_enter Try.func41, Try.ntmps41
  go_wp2
  · rename_i h
    go_ret
    refine ⟨?_, rfl⟩
    show Ending.returned (Value.bool ((s.extract 0 p.size).toList == p.toList)) = _
    simp [h]
  · rename_i h
    go_ret
    refine ⟨?_, rfl⟩
    show Ending.returned (Value.bool false) = _
    have h' : ¬ p.size ≤ s.size := by omega
    simp [h']

theorem sl_cut (s p : ByteArray) (w : World) : Calls Try.prog 34 #[.string s, .string p] w fun e w' => e = .returned (.tuple #[.string (if p.data.toList.isPrefixOf s.data.toList = true then st (s.data.toList.drop p.size) else s), .bool (p.data.toList.isPrefixOf s.data.toList)]) ∧ w = w' := by
  have hp := has_prefix s p w
  by_cases h : p.data.toList.isPrefixOf s.data.toList = true
  · rw [if_pos h, h]
    rw [h] at hp
    have hl : p.size ≤ s.size := by
      have := (List.isPrefixOf_iff_prefix.1 h).length_le
      rwa [len_data, len_data] at this
    have e : s.extract p.size s.size = st (s.data.toList.drop p.size) := by
      apply ByteArray.ext
      apply Array.toList_inj.1
      rw [data_st, Lib.extract_data]
      exact List.take_of_length_le (by rw [List.length_drop, len_data]; omega)
    rw [← e]
    clear h e
    have Hp := Lib.hid hp
    clear hp
    go_enter Try.func34, Try.ntmps34
    go_wp2_with (go_at_call 41; refine Hp.out.mono ?_; rintro e w' ⟨rfl, rfl⟩)
    refine bodyPost_ret (v := .tuple #[.string (s.extract p.size s.size), .bool true]) (by simp [results, Try.results34, go_sem]) rfl ?_
    exact ⟨rfl, rfl⟩
  · rw [if_neg h]
    have h' : p.data.toList.isPrefixOf s.data.toList = false := by simpa using h
    rw [h']
    rw [h'] at hp
    clear h h'
    have Hp := Lib.hid hp
    clear hp
    go_enter Try.func34, Try.ntmps34
    go_wp2_with (go_at_call 41; refine Hp.out.mono ?_; rintro e w' ⟨rfl, rfl⟩)
    refine bodyPost_ret (v := .tuple #[.string s, .bool false]) (by simp [results, Try.results34, go_sem]) rfl ?_
    exact ⟨rfl, rfl⟩
theorem cut_any (s p : ByteArray) (w : World) : Calls Try.prog 22 #[.string s, .string p] w fun e w' => e = .returned (.tuple #[.string (if p.data.toList.isPrefixOf s.data.toList = true then st (s.data.toList.drop p.size) else s), .bool (p.data.toList.isPrefixOf s.data.toList)]) ∧ w = w' := by
  have hp := sl_cut s p w
  generalize (if p.data.toList.isPrefixOf s.data.toList = true then st (s.data.toList.drop p.size) else s) = r at hp ⊢
  generalize p.data.toList.isPrefixOf s.data.toList = b at hp ⊢
  have Hp := Lib.hid hp
  clear hp
  go_enter Try.func22, Try.ntmps22
  go_wp2_with (go_at_call 34; refine Hp.out.mono ?_; rintro e w' ⟨rfl, rfl⟩)
  refine bodyPost_ret (v := .tuple #[.string r, .bool b]) (by simp [results, Try.results22, go_sem]) rfl ?_
  exact ⟨rfl, rfl⟩

/-- what denom.Back gives -/
def home (c : Nat) (s : ByteArray) : ByteArray := if Bk.backB c s.data.toList = true then st (s.data.toList.drop 4) else st []
set_option maxRecDepth 100000 in
theorem back_any (c : Nat) (hc : c < 4) (s : ByteArray) (w : World) : Calls Try.prog 9 #[.int .i64 c, .string s] w fun e w' => e = .returned (.tuple #[.string (home c s), .bool (Bk.backB c s.data.toList)]) ∧ Below w.heap.size w w' := by
  have hcut := fun w => cut_any s (st (Bk.pre c)) w
  have hpre := prefix_any c hc w
  have e1 : (st (Bk.pre c)).data.toList.isPrefixOf s.data.toList = Bk.backB c s.data.toList := by rw [data_st]; simp [Bk.backB, hc]
  have e2 : (st (Bk.pre c)).size = 4 := rfl
  simp only [e1, e2] at hcut
  have e3 : home c s = if Bk.backB c s.data.toList = true then st (s.data.toList.drop 4) else st [] := rfl
  rw [e3]
  clear e1 e2 e3
  generalize hb : Bk.backB c s.data.toList = b at *
  clear hb
  have Hcut := Lib.hid hcut
  have Hpre := Lib.hid hpre
  clear hcut hpre
  cases b with
  | true =>
    go_enter Try.func9, Try.ntmps9
    go_wp2_with (first | (go_at_call 21; refine Hpre.out.mono ?_; rintro e w' ⟨rfl, hb⟩) | (go_at_call 22; refine (Hcut.out _).mono ?_; rintro e w' ⟨rfl, rfl⟩))
    refine bodyPost_ret (v := .tuple #[.string (st (List.drop 4 s.data.toList)), .bool true]) (by simp [results, Try.results9, go_sem]) rfl ?_
    exact ⟨rfl, by assumption⟩
  | false =>
    go_enter Try.func9, Try.ntmps9
    go_wp2_with (first | (go_at_call 21; refine Hpre.out.mono ?_; rintro e w' ⟨rfl, hb⟩) | (go_at_call 22; refine (Hcut.out _).mono ?_; rintro e w' ⟨rfl, rfl⟩))
    refine bodyPost_ret (v := .tuple #[.string ⟨#[]⟩, .bool false]) (by simp [results, Try.results9, go_sem]) rfl ?_
    exact ⟨rfl, by assumption⟩
end Go.Proofs.Ytidkamnciomnmaa
