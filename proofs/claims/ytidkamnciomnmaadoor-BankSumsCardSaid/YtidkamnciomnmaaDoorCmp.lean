/-
  HOW COINS ARE SET IN ORDER: cmp.Compare at strings, cmp.Or, the function that (*Bank).All hands to slices.SortFunc.
-/
import Derived.Test.YtidkamnciomnmaaDoorErr
import Derived.Shelf.SlSortCmp.NoneTotal
import Derived.StillTailTactics
namespace Go.Proofs.YtidkamnciomnmaaDoor
open Go.RowKit Go.Maps Go.Lib Go.Sort

def cmpS (x y : ByteArray) : Int := if Op.bytesLess x.toList y.toList = true then -1 else if (x.toList == y.toList) = true then 0 else 1

theorem isNaN_any (x : ByteArray) (w : World) : Calls Tryd.prog 41 #[.string x] w fun e w' => e = .returned (.bool false) ∧ w = w' := by
  have h : (x.toList == x.toList) = true := by simp
  go_enter Tryd.func41, Tryd.ntmps41
  go_wp2
  go_ret
  exact ⟨rfl, rfl⟩

theorem compare_any (x y : ByteArray) (w : World) : Calls Tryd.prog 32 #[.string x, .string y] w fun e w' => e = .returned (.int .i64 (cmpS x y)) ∧ w = w' := by
  unfold cmpS
  by_cases h1 : Op.bytesLess x.toList y.toList = true
  · rw [if_pos h1]
    go_enter Tryd.func32, Tryd.ntmps32
    go_wp2_with (go_at_call 41; refine (isNaN_any _ _).mono ?_; rintro e w' ⟨rfl, rfl⟩)
    go_ret
    exact ⟨rfl, rfl⟩
  · have h1' : Op.bytesLess x.toList y.toList = false := by simpa using h1
    rw [if_neg h1]
    clear h1
    by_cases h2 : (x.toList == y.toList) = true
    · rw [if_pos h2]
      go_enter Tryd.func32, Tryd.ntmps32
      go_wp2_with (go_at_call 41; refine (isNaN_any _ _).mono ?_; rintro e w' ⟨rfl, rfl⟩)
      go_ret
      exact ⟨rfl, rfl⟩
    · have h2' : (x.toList == y.toList) = false := by simpa using h2
      rw [if_neg h2]
      clear h2
      go_enter Tryd.func32, Tryd.ntmps32
      go_wp2_with (go_at_call 41; refine (isNaN_any _ _).mono ?_; rintro e w' ⟨rfl, rfl⟩)
      go_ret
      exact ⟨rfl, rfl⟩

/-- cmp.Or of two numbers -/
theorem or_any (x y : Int) (g : Nat) (w : World) (h0 : w.cell? ⟨g, 0, none⟩ = some (.int .i64 x)) (h1 : w.cell? ⟨g, 1, none⟩ = some (.int .i64 y)) :
    Calls Tryd.prog 31 #[.slice (some ⟨g, 0, none⟩) 2 2] w fun e w' => e = .returned (.int .i64 (if x = 0 then y else x)) ∧ w = w' := by
  by_cases hx : x = 0
  · subst hx
    rw [if_pos rfl]
    by_cases hy : y = 0
    · subst hy
      go_enter Tryd.func31, Tryd.ntmps31
      go_wp2
      refine wp_loop_rounds 3 ?_
      rw [rounds_succ]
      go_wp2
      rw [rounds_succ]
      go_wp2
      rw [rounds_succ]
      go_wp2
      go_ret
      exact ⟨rfl, rfl⟩
    · have hy' : (y != 0) = true := by simpa using hy
      go_enter Tryd.func31, Tryd.ntmps31
      go_wp2
      refine wp_loop_rounds 2 ?_
      rw [rounds_succ]
      go_wp2
      rw [rounds_succ]
      go_wp2
      go_ret
      exact ⟨rfl, rfl⟩
  · have hx' : (x != 0) = true := by simpa using hx
    rw [if_neg hx]
    go_enter Tryd.func31, Tryd.ntmps31
    go_wp2
    refine wp_loop_rounds 1 ?_
    rw [rounds_succ]
    go_wp2
    go_ret
    exact ⟨rfl, rfl⟩
/-- a coin: an account, a denomination, so much -/
abbrev Coin3 := ByteArray × ByteArray × Nat
def encC (c : Coin3) : List Value := [.string c.1, .string c.2.1, .int .u64 c.2.2]
def cmpC (x y : Coin3) : Int := if cmpS x.1 y.1 = 0 then cmpS x.2.1 y.2.1 else cmpS x.1 y.1
set_option maxRecDepth 100000 in
set_option maxHeartbeats 400000 in
theorem closure_any (x y : Coin3) (W : World) : Calls Tryd.prog 30 #[.agg (encC x).toArray, .agg (encC y).toArray] W fun e w' => e = .returned (.int .i64 (cmpC x y)) ∧ ∃ q os', w' = grow (W.drewN q) os' := by
  obtain ⟨a, d, n⟩ := x
  obtain ⟨a', d', n'⟩ := y
  simp only [encC]
  have hb := Blk.new ((W.alloc (.cells #[.string a, .string d, .int .u64 n] 49)).alloc (.cells #[.string a', .string d', .int .u64 n'] 49)) 3 #[.int .i64 (cmpS a a'), .int .i64 (cmpS d d')]
  rw [World.size_alloc, World.size_alloc] at hb
  have k0 := hb.drew.cell 0
  have k1 := hb.drew.cell 1
  simp only [List.getElem?_toArray, List.getElem?_cons_zero, List.getElem?_cons_succ] at k0 k1
  have hor := or_any _ _ _ _ k0 k1
  have er : (if cmpS a a' = 0 then cmpS d d' else cmpS a a') = cmpC (a, d, n) (a', d', n') := rfl
  rw [er] at hor
  clear er
  generalize cmpC (a, d, n) (a', d', n') = r at hor ⊢
  clear k0 k1 hb
  have Hor := Lib.hid hor
  clear hor
  go_enter Tryd.func30, Tryd.ntmps30
  go_wp2
  refine wp_region_still_tail 10 (by kernel_rfl) (by kernel_rfl) ?_
  simp only [List.take_succ_cons, List.take_zero, List.drop_succ_cons, List.drop_zero]
  change wpStill _ _ ((W.alloc (.cells #[.string a, .string d, .int .u64 n] 49)).alloc (.cells #[.string a', .string d', .int .u64 n'] 49)).drew _ _ _
  repeat still_step
  still_call ((compare_any _ _ _).mono fun _ _ ⟨h1, h2⟩ => ⟨h1, h2.symm⟩)
  repeat still_step
  still_call ((compare_any _ _ _).mono fun _ _ ⟨h1, h2⟩ => ⟨h1, h2.symm⟩)
  refine wpStill_nil ?_
  go_wp2_with (go_at_call 31; refine Hor.out.mono ?_; rintro e w' ⟨rfl, rfl⟩)
  go_ret
  exact ⟨rfl, 1, _, by rw [alloc_eq_grow, alloc_eq_grow, alloc_eq_grow, grow_grow, grow_grow]; rfl⟩
theorem closure_lays (blk off size : Nat) (w : World) : CmpLays Tryd.prog 30 #[] encC 3 cmpC blk off size w :=
  fun _ _ _ _ x y => closure_any x y _
end Go.Proofs.YtidkamnciomnmaaDoor
