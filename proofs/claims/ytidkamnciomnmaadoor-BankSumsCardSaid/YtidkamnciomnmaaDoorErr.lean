/-
  THE CONTRACTS OF fault.At, OF strings.Contains AT ONE SLASH, AND OF bank.of: for every argument.
-/
import Derived.Test.YtidkamnciomnmaaDoorKit
namespace Go.Proofs.YtidkamnciomnmaaDoor
open Go.RowKit Go.Maps Go.Lib

/-- fault.At of no error. -/
theorem at_nil (s : ByteArray) (i : Int) (w : World) :
    Calls Tryd.prog 23 #[.string s, .int .i64 i, .nilIface] w fun e w' => e = .returned .nilIface ∧ w = w' := by
  go_enter Tryd.func23, Tryd.ntmps23
  go_wp2
  go_ret
  exact ⟨rfl, rfl⟩

/-- fault.At of an error: one block. -/
theorem at_some (s : ByteArray) (i : Int) (t : TypeId) (x : Value) (w : World) :
    Calls Tryd.prog 23 #[.string s, .int .i64 i, .iface t x] w fun e w' => e = .returned (.iface 72 (.pointer (some ⟨w.heap.size, 0, none⟩))) ∧ w.alloc (.cells #[.string s, .int .i64 i, .iface t x] 74) = w' := by
  go_enter Tryd.func23, Tryd.ntmps23
  go_wp2
  go_ret
  exact ⟨rfl, rfl⟩

/-- fault.At, of whatever error. -/
theorem at_any (s : ByteArray) (i : Int) {k : Nat} {u : Value} {c : Nat} (w : World) (hu : ErrD w k u c) :
    Calls Tryd.prog 23 #[.string s, .int .i64 i, u] w fun e w' => ∃ v, e = .returned v ∧ ErrD w' (k + 1) v c ∧ Below w.heap.size w w' := by
  by_cases hc : c = 0
  · subst hc
    obtain rfl := hu.zero
    exact (at_nil s i w).mono fun e w' ⟨he, hw⟩ => ⟨_, he, ErrD.nil _ _, hw ▸ Below.refl _ _⟩
  · obtain ⟨t, x, rfl⟩ := hu.some hc
    refine (at_some s i t x w).mono fun e w' ⟨he, hw⟩ => ⟨_, he, ?_, hw ▸ (Below.refl _ _).alloc (Nat.le_refl _) _⟩
    subst hw
    exact .inr (.inr ⟨hc, _, s, i, _, rfl, Blk.new _ _ _, hu.below ((Below.refl _ _).alloc (Nat.le_refl _) _)⟩)

theorem indexByte_mem (c : UInt8) : ∀ l : List UInt8, decide (0 ≤ Lib.indexByte l c) = decide (c ∈ l)
  | [] => by simp [Lib.indexByte]
  | b :: l => by
    have ih := indexByte_mem c l
    have hge := Lib.indexByte_ge l c
    rw [decide_eq_decide] at ih ⊢
    unfold Lib.indexByte
    by_cases e : b = c
    · simp [e]
    · have e1 : (b == c) = false := by simp [e]
      rw [e1, List.mem_cons, ← ih]
      simp only [Bool.false_eq_true, if_false, Ne.symm e, false_or]
      by_cases h : Lib.indexByte l c = -1
      · rw [h]; simp
      · have h1 : (Lib.indexByte l c == -1) = false := by simp [h]
        rw [h1]
        simp only [Bool.false_eq_true, if_false]
        omega

theorem slIB_slash (s : ByteArray) (w : World) :
    Calls Tryd.prog 62 #[.string s, .int .u8 47] w fun e w' => e = .returned (.int .i64 (Lib.indexByte s.data.toList 47)) ∧ w = w' := by
  go_enter Tryd.func62, Tryd.ntmps62
  go_wp2
  rw [run_callFunc_extern Tryd.func67 (by kernel_rfl) (by kernel_rfl) (by kernel_rfl) (e := Extern.BytealgIndexByte.indexByte) (by kernel_rfl), Lib.run_indexByteString]
  simp only [Result.andThen]
  rw [Oper.upon_value]
  go_wp2
  go_ret
  exact ⟨rfl, rfl⟩

theorem slIndex_slash (s : ByteArray) (w : World) :
    Calls Tryd.prog 56 #[.string s, .string ⟨#[47]⟩] w fun e w' => e = .returned (.int .i64 (Lib.indexByte s.data.toList 47)) ∧ w = w' := by
  by_cases h : ([47] == s.toList) = true
  · have e0 : Lib.indexByte s.data.toList 47 = 0 := by
      have h1 : s.data.toList = [47] := by
        rw [← Lib.toList_data]; simpa using (beq_iff_eq.1 h).symm
      rw [h1]; rfl
    rw [e0]
    clear e0
    go_enter Tryd.func56, Tryd.ntmps56
    go_wp2
    go_ret
    exact ⟨rfl, rfl⟩
  · have h' : ([47] == s.toList) = false := by simpa using h
    clear h
    go_enter Tryd.func56, Tryd.ntmps56
    go_wp2_with (go_at_call 62; refine (slIB_slash _ _).mono ?_; rintro e w' ⟨rfl, rfl⟩)
    go_ret
    exact ⟨rfl, rfl⟩
theorem index_slash (s : ByteArray) (w : World) :
    Calls Tryd.prog 42 #[.string s, .string ⟨#[47]⟩] w fun e w' => e = .returned (.int .i64 (Lib.indexByte s.data.toList 47)) ∧ w = w' := by
  go_enter Tryd.func42, Tryd.ntmps42
  go_wp2_with (go_at_call 56; refine (slIndex_slash _ _).mono ?_; rintro e w' ⟨rfl, rfl⟩)
  go_ret
  exact ⟨rfl, rfl⟩
theorem contains_slash (s : ByteArray) (w : World) :
    Calls Tryd.prog 33 #[.string s, .string ⟨#[47]⟩] w fun e w' => e = .returned (.bool (decide (47 ∈ s.data.toList))) ∧ w = w' := by
  rw [← indexByte_mem]
  go_enter Tryd.func33, Tryd.ntmps33
  go_wp2_with (go_at_call 42; refine (index_slash _ _).mono ?_; rintro e w' ⟨rfl, rfl⟩)
  go_ret
  exact ⟨rfl, rfl⟩

/-! ### bank.of -/
def OfPost (a d : ByteArray) (x : Nat) (w : World) (e : Ending) (w' : World) : Prop :=
  ∃ p q v, e = .returned (.tuple #[.agg #[.string p, .string q], v]) ∧ ErrD w' 1 v (Bk.wrong a.data.toList d.data.toList x) ∧ (Bk.wrong a.data.toList d.data.toList x = 0 → p = a ∧ q = d) ∧ Below w.heap.size w w'
theorem of_err {a d : ByteArray} {x : Nat} {w w' : World} {c : Nat} (h : Bk.wrong a.data.toList d.data.toList x = c) (hc : c ≠ 0) {s : ByteArray} {i : Int} (p q : ByteArray) (g : Nat)
    (hg : Blk w' g 74 #[.string s, .int .i64 i, .iface 41 (.int .i64 c)]) (hb : Below w.heap.size w w') :
    OfPost a d x w (.returned (.tuple #[.agg #[.string p, .string q], .iface 72 (.pointer (some ⟨g, 0, none⟩))])) w' := by
  refine ⟨p, q, _, rfl, ?_, fun h0 => absurd (h.symm.trans h0) hc, hb⟩
  rw [h]
  exact .inr (.inr ⟨hc, g, s, i, _, rfl, hg, ErrD.num _ _ hc⟩)
theorem len_data (a : ByteArray) : a.data.toList.length = a.size := by rw [Array.length_toList]; rfl
theorem wr42 {a d : ByteArray} {x : Nat} (h : a.size = 0 ∨ 16 < a.size ∨ 47 ∈ a.data) : Bk.wrong a.data.toList d.data.toList x = 42 := by
  unfold Bk.wrong
  rw [if_pos (by rw [len_data, Array.mem_toList_iff]; exact h)]
theorem wr_no {a : ByteArray} (h1 : a.size ≠ 0) (h2 : a.size ≤ 16) (h3 : ¬ 47 ∈ a.data) : ¬ (a.data.toList.length = 0 ∨ 16 < a.data.toList.length ∨ 47 ∈ a.data.toList) := by
  rw [len_data, Array.mem_toList_iff]
  rintro (h | h | h)
  · exact h1 h
  · omega
  · exact h3 h
theorem wr43 {a d : ByteArray} {x : Nat} (h1 : a.size ≠ 0) (h2 : a.size ≤ 16) (h3 : ¬ 47 ∈ a.data) (h : d.size = 0 ∨ 40 < d.size) : Bk.wrong a.data.toList d.data.toList x = 43 := by
  unfold Bk.wrong
  rw [if_neg (wr_no h1 h2 h3), if_pos (by rw [len_data]; exact h)]
theorem wr44 {a d : ByteArray} {x : Nat} (h1 : a.size ≠ 0) (h2 : a.size ≤ 16) (h3 : ¬ 47 ∈ a.data) (h4 : d.size ≠ 0) (h5 : d.size ≤ 40) (h : x = 0) : Bk.wrong a.data.toList d.data.toList x = 44 := by
  unfold Bk.wrong
  rw [if_neg (wr_no h1 h2 h3), if_neg (by rw [len_data]; omega), if_pos h]
theorem wr0 {a d : ByteArray} {x : Nat} (h1 : a.size ≠ 0) (h2 : a.size ≤ 16) (h3 : ¬ 47 ∈ a.data) (h4 : d.size ≠ 0) (h5 : d.size ≤ 40) (h : x ≠ 0) : Bk.wrong a.data.toList d.data.toList x = 0 := by
  unfold Bk.wrong
  rw [if_neg (wr_no h1 h2 h3), if_neg (by rw [len_data]; omega), if_neg h]
theorem size_zero {a : ByteArray} (h : ¬ a = ByteArray.empty) : a.size ≠ 0 := fun e => h (by
  have : a.data.size = 0 := e
  cases a; simp only at this; congr 1; exact Array.eq_empty_of_size_eq_zero this)

set_option maxHeartbeats 400000 in
theorem of_any (a d : ByteArray) (x : Nat) (w : World) (ha : a.size ≤ maxLen) (hd : d.size ≤ maxLen) (hx : x ≤ Bk.maxU) :
    Calls Tryd.prog 24 #[.string a, .string d, .int .u64 x] w (OfPost a d x w) := by
  unfold maxLen at ha hd
  unfold Bk.maxU at hx
  go_enter Tryd.func24, Tryd.ntmps24
  go_wp2_with (first | (go_at_call 23; refine (at_some _ _ _ _ _).mono ?_; rintro e w' ⟨rfl, rfl⟩) | (go_at_call 33; refine (contains_slash _ _).mono ?_; rintro e w' ⟨rfl, rfl⟩))
  · have h0 : a = ByteArray.empty := by assumption
    refine bodyPost_ret (v := .tuple #[.agg #[.string ⟨#[]⟩, .string ⟨#[]⟩], .iface 72 (.pointer (some ⟨w.heap.size + 1, 0, none⟩))]) (by simp [results, Tryd.results24, go_sem]) rfl ?_
    exact of_err (wr42 (.inl (by rw [h0]; rfl))) (by omega) _ _ _ (by simpa using Blk.new (w.alloc _) _ _) (((Below.refl _ _).alloc (Nat.le_refl _) _).alloc (by simp) _)
  · have h0 : ((((a.size : Int) == 0) = true ∨ 16 < (a.size : Int)) ∨ 47 ∈ a.data) := by assumption
    refine bodyPost_ret (v := .tuple #[.agg #[.string ⟨#[]⟩, .string ⟨#[]⟩], .iface 72 (.pointer (some ⟨w.heap.size + 1, 0, none⟩))]) (by simp [results, Tryd.results24, go_sem]) rfl ?_
    refine of_err (wr42 ?_) (by omega) _ _ _ (by simpa using Blk.new (w.alloc _) _ _) (((Below.refl _ _).alloc (Nat.le_refl _) _).alloc (by simp) _)
    rcases h0 with (h | h) | h
    · exact .inl (by simpa using h)
    · exact .inr (.inl (by omega))
    · exact .inr (.inr h)
  · have h1 : ¬ a = ByteArray.empty := by assumption
    have h0 : d = ByteArray.empty := by assumption
    have h2 : (((a.size : Int) == 0) = false ∧ (a.size : Int) ≤ 16) ∧ ¬ 47 ∈ a.data := by assumption
    refine bodyPost_ret (v := .tuple #[.agg #[.string ⟨#[]⟩, .string ⟨#[]⟩], .iface 72 (.pointer (some ⟨w.heap.size + 1, 0, none⟩))]) (by simp [results, Tryd.results24, go_sem]) rfl ?_
    exact of_err (wr43 (size_zero h1) (by have := h2.1.2; omega) h2.2 (.inl (by rw [h0]; rfl))) (by omega) _ _ _ (by simpa using Blk.new (w.alloc _) _ _) (((Below.refl _ _).alloc (Nat.le_refl _) _).alloc (by simp) _)
  · have h1 : ¬ a = ByteArray.empty := by assumption
    have h2 : (((a.size : Int) == 0) = false ∧ (a.size : Int) ≤ 16) ∧ ¬ 47 ∈ a.data := by assumption
    have h0 : ((d.size : Int) == 0) = true ∨ 40 < (d.size : Int) := by assumption
    refine bodyPost_ret (v := .tuple #[.agg #[.string ⟨#[]⟩, .string ⟨#[]⟩], .iface 72 (.pointer (some ⟨w.heap.size + 1, 0, none⟩))]) (by simp [results, Tryd.results24, go_sem]) rfl ?_
    exact of_err (wr43 (size_zero h1) (by have := h2.1.2; omega) h2.2 (h0.imp (fun h => by simpa using h) (fun h => by omega))) (by omega) _ _ _ (by simpa using Blk.new (w.alloc _) _ _) (((Below.refl _ _).alloc (Nat.le_refl _) _).alloc (by simp) _)
  · have h1 : ¬ a = ByteArray.empty := by assumption
    have h2 : (((a.size : Int) == 0) = false ∧ (a.size : Int) ≤ 16) ∧ ¬ 47 ∈ a.data := by assumption
    have h3 : ¬ d = ByteArray.empty := by assumption
    have h4 : ((d.size : Int) == 0) = false ∧ (d.size : Int) ≤ 40 := by assumption
    have h0 : ((x : Int) == 0) = true := by assumption
    refine bodyPost_ret (v := .tuple #[.agg #[.string ⟨#[]⟩, .string ⟨#[]⟩], .iface 72 (.pointer (some ⟨w.heap.size + 1, 0, none⟩))]) (by simp [results, Tryd.results24, go_sem]) rfl ?_
    exact of_err (wr44 (size_zero h1) (by have := h2.1.2; omega) h2.2 (size_zero h3) (by have := h4.2; omega) (by simpa using h0)) (by omega) _ _ _ (by simpa using Blk.new (w.alloc _) _ _) (((Below.refl _ _).alloc (Nat.le_refl _) _).alloc (by simp) _)
  · have h1 : ¬ a = ByteArray.empty := by assumption
    have h2 : (((a.size : Int) == 0) = false ∧ (a.size : Int) ≤ 16) ∧ ¬ 47 ∈ a.data := by assumption
    have h3 : ¬ d = ByteArray.empty := by assumption
    have h4 : ((d.size : Int) == 0) = false ∧ (d.size : Int) ≤ 40 := by assumption
    have h0 : ((x : Int) == 0) = false := by assumption
    refine bodyPost_ret (v := .tuple #[.agg #[.string a, .string d], .nilIface]) (by simp [results, Tryd.results24, go_sem]) rfl ?_
    have hw := wr0 (size_zero h1) (by have := h2.1.2; omega) h2.2 (size_zero h3) (by have := h4.2; omega) (x := x) (by simpa using h0)
    exact ⟨a, d, _, rfl, by rw [hw]; exact ErrD.nil _ _, fun _ => ⟨rfl, rfl⟩, (Below.refl _ _).alloc (Nat.le_refl _) _⟩
  · have h1 : ¬ a = ByteArray.empty := by assumption
    have h0 : 16 < (a.size : Int) := by assumption
    refine bodyPost_ret (v := .tuple #[.agg #[.string ⟨#[]⟩, .string ⟨#[]⟩], .iface 72 (.pointer (some ⟨w.heap.size + 1, 0, none⟩))]) (by simp [results, Tryd.results24, go_sem]) rfl ?_
    exact of_err (wr42 (.inr (.inl (by omega)))) (by omega) _ _ _ (by simpa using Blk.new (w.alloc _) _ _) (((Below.refl _ _).alloc (Nat.le_refl _) _).alloc (by simp) _)
end Go.Proofs.YtidkamnciomnmaaDoor
