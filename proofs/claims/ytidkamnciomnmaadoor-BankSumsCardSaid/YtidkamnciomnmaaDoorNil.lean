/-
  THE CALLS ON A NIL BANK; ferrymanlaw12.Awake; THE WALK OF ferrymanlaw12.BankNil.
-/
import Derived.Test.YtidkamnciomnmaaDoorBank
import Derived.Test.YtidkamnciomnmaaDoorAs
import Derived.Deep.RegionWith
import Derived.Outline
namespace Go.Proofs.YtidkamnciomnmaaDoor
open Go.RowKit Go.Maps Go.Lib

/-- another bank lies as it lay -/
theorem BankAt.other {W W' : World} {b mb n : Nat} {m : Bk.M} {mb' : Nat} (h : BankAt W b mb n m) (hg : W.grownBy W' (some mb')) (h1 : b ≠ mb') (h2 : mb ≠ mb') : BankAt W' b mb n m :=
  h.grown hg (fun e => h1 (Option.some.inj e)) (fun e => h2 (Option.some.inj e))
theorem Blk.other {W W' : World} {g : Nat} {t : TypeId} {cs : Array Value} {mb' : Nat} (h : Blk W g t cs) (hg : W.grownBy W' (some mb')) (h1 : g ≠ mb') : Blk W' g t cs := h.grown hg (fun e => h1 (Option.some.inj e))
theorem below_of_grown {w W W' : World} {mb : Nat} (hb : Below w.heap.size w W) (hg : W.grownBy W' (some mb)) (h : w.heap.size ≤ mb) : Below w.heap.size w W' :=
  hb.grown hg hb.size (fun j e => by cases e; exact h)

/-- what errors.errorType holds, as the program's text lays it -/
def Handle (w : World) : Prop := w.cell? ⟨0, 0, none⟩ = some (.iface 95 (.agg #[.pointer (some ⟨2, 36, none⟩)]))
theorem Handle.below {w w' : World} (h : Handle w) (hb : Below w.heap.size w w') : Handle w' := (hb.cell (p := ⟨0, 0, none⟩) (cell_lt h)).trans h
theorem Handle.lt {w : World} (h : Handle w) : 0 < w.heap.size := cell_lt h

theorem has_nil (a d : ByteArray) (w : World) : Calls Tryd.prog 21 #[.pointer none, .string a, .string d] w fun e w' => e = .returned (.int .u64 0) ∧ w = w' := by
  go_enter Tryd.func21, Tryd.ntmps21
  go_wp2
  go_ret
  exact ⟨rfl, rfl⟩
def NilPost (w : World) (e : Ending) (w' : World) : Prop := ∃ v, e = .returned v ∧ ErrD w' 1 v 1 ∧ Below w.heap.size w w'
theorem nil_step (s : ByteArray) (i : Int) (w : World) : NilPost w (.returned (.iface 72 (.pointer (some ⟨w.heap.size, 0, none⟩)))) (w.alloc (.cells #[.string s, .int .i64 i, .iface 41 (.int .i64 1)] 74)) :=
  ⟨_, rfl, .inr (.inr ⟨by decide, _, s, i, _, rfl, Blk.new _ _ _, ErrD.num (c := 1) _ _ (by decide)⟩), (Below.refl _ _).alloc (Nat.le_refl _) _⟩
theorem give_nil (a d x : Value) (w : World) : Calls Tryd.prog 15 #[.pointer none, a, d, x] w (NilPost w) := by
  go_enter Tryd.func15, Tryd.ntmps15
  go_wp2_with (go_at_call 23; refine (at_some _ _ _ _ _).mono ?_; rintro e w' ⟨rfl, rfl⟩)
  go_ret
  exact nil_step _ _ _
theorem take_nil (a d x : Value) (w : World) : Calls Tryd.prog 11 #[.pointer none, a, d, x] w (NilPost w) := by
  go_enter Tryd.func11, Tryd.ntmps11
  go_wp2_with (go_at_call 23; refine (at_some _ _ _ _ _).mono ?_; rintro e w' ⟨rfl, rfl⟩)
  go_ret
  exact nil_step _ _ _
theorem move_nil (a c d x : Value) (w : World) : Calls Tryd.prog 13 #[.pointer none, a, c, d, x] w (NilPost w) := by
  go_enter Tryd.func13, Tryd.ntmps13
  go_wp2_with fail
  refine (take_nil _ _ _ _).mono ?_
  rintro e w1 ⟨v, rfl, hv, hb⟩
  obtain ⟨t, y, rfl⟩ := hv.some (by decide)
  go_wp2
  go_ret
  exact ⟨_, rfl, hv, hb⟩
theorem all_nil (w : World) : Calls Tryd.prog 19 #[.pointer none] w fun e w' => e = .returned (.slice none 0 0) ∧ Below w.heap.size w w' := by
  go_enter Tryd.func19, Tryd.ntmps19
  go_wp2
  go_ret
  exact ⟨rfl, ((Below.refl _ _).alloc (Nat.le_refl _) _).alloc (by simp) _⟩

def a12 : Bk.M := [(([97], [120]), 5)]
def b12 : Bk.M := [(([97], [120]), 2), (([98], [120]), 3)]
set_option maxRecDepth 100000 in
theorem a12_give : Bk.give [] [97] [120] 5 = (0, a12) := by decide
set_option maxRecDepth 100000 in
theorem a12_move : Bk.move a12 [97] [98] [120] 3 = (0, b12) := by decide
set_option maxRecDepth 100000 in
theorem b12_a : Bk.get b12 ([97], [120]) = 2 := by decide
set_option maxRecDepth 100000 in
theorem b12_b : Bk.get b12 ([98], [120]) = 3 := by decide
set_option maxRecDepth 100000 in
theorem b12_take : Bk.take b12 [97] [120] 3 = (40, b12) := by decide

set_option maxRecDepth 100000 in
set_option maxHeartbeats 1000000 in
theorem awake12_any (w : World) (hh : Handle w) : Calls Tryd.prog 8 #[] w fun e w' => e = .returned (.bool true) ∧ Below w.heap.size w w' := by
  have Hh := Lib.hid hh
  clear hh
  go_enter Tryd.func8, Tryd.ntmps8
  go_wp2_with fail
  refine (new_any _).mono ?_
  rintro e W1 ⟨rfl, hx, hb1, hs1⟩
  have Hg := Lib.hid (fun W (h : BankAt W (w.heap.size + 1) w.heap.size 0 []) => give_any h (by decide) ⟨#[97]⟩ ⟨#[120]⟩ 5 (by decide) (by decide) (by decide))
  have Hm := Lib.hid (fun W (h : BankAt W (w.heap.size + 1) w.heap.size 1 a12) => move_any h (by decide) ⟨#[97]⟩ ⟨#[98]⟩ ⟨#[120]⟩ 3 (by decide) (by decide) (by decide) (by decide))
  simp only [a12_give, a12_move] at Hg Hm
  go_wp2_with fail
  refine (Hg.out _ hx).mono ?_
  rintro e W2 ⟨v2, rfl, hv2, hx2, hg2⟩
  obtain rfl := hv2.zero
  have hb2 := below_of_grown hb1 hg2 (Nat.le_refl _)
  clear hx hb1 hg2 hv2
  go_wp2_with fail
  refine (Hm.out _ hx2).mono ?_
  rintro e W3 ⟨v3, rfl, hv3, hx3, hg3⟩
  obtain rfl := hv3.zero
  have hb3 := below_of_grown hb2 hg3 (Nat.le_refl _)
  clear hx2 hb2 hg3 hv3
  have Hh1 := Lib.hid (has_any hx3 ⟨#[97]⟩ ⟨#[120]⟩ (by decide) (by decide))
  have Hh2 := Lib.hid (has_any hx3 ⟨#[98]⟩ ⟨#[120]⟩ (by decide) (by decide))
  have Ht := Lib.hid (take_any hx3 (by decide) ⟨#[97]⟩ ⟨#[120]⟩ 3 (by decide) (by decide) (by decide))
  simp only [a12_move, b12_a, b12_b, b12_take] at Hh1 Hh2 Ht
  clear hx3
  go_wp2_with fail
  refine Hh1.out.mono ?_
  rintro e W7 ⟨rfl, hW7⟩
  subst hW7
  go_wp2_with fail
  refine Hh2.out.mono ?_
  rintro e W7 ⟨rfl, hW7⟩
  subst hW7
  go_wp2_with fail
  refine Ht.out.mono ?_
  rintro e W4 ⟨v4, rfl, hv4, hx4, hg4⟩
  have hb4 := below_of_grown hb3 hg4 (Nat.le_refl _)
  have Hc := Lib.hid (code_any hv4 (Hh.out.below hb4))
  clear hb3 hg4 hv4 hx4
  go_wp2_with fail
  refine Hc.out.mono ?_
  rintro e W5 ⟨rfl, hb5⟩
  have hb05 := hb4.trans (hb5.mono hb4.size)
  clear Hc hb4 hb5
  go_wp2
  go_ret
  exact ⟨rfl, hb05⟩

set_option maxRecDepth 100000 in
set_option maxHeartbeats 1000000 in
theorem nil_walk (a c d : ByteArray) (x : Nat) (w : World) (hh : Handle w) :
    Calls Tryd.prog 6 #[.string a, .string c, .string d, .int .u64 x] w fun e w' => e = .returned (.bool true) ∧ Below w.heap.size w w' := by
  have ha := awake12_any w hh
  have Hh := Lib.hid hh
  clear hh
  go_enter Tryd.func6, Tryd.ntmps6
  go_wp2_with fail
  refine ha.mono ?_
  rintro e W1 ⟨rfl, hb1⟩
  have Hh1 := Lib.hid (Hh.out.below hb1)
  clear ha
  go_wp2_with fail
  refine (has_nil _ _ _).mono ?_
  rintro e W7 ⟨rfl, hW7⟩
  subst hW7
  go_wp2_with fail
  refine (give_nil _ _ _ _).mono ?_
  rintro e W2 ⟨v2, rfl, hv2, hb2⟩
  have Hc := Lib.hid (code_any hv2 (Hh1.out.below hb2))
  have hb02 := hb1.trans (hb2.mono hb1.size)
  clear hv2 hb1 hb2
  go_wp2_with fail
  refine Hc.out.mono ?_
  rintro e W3 ⟨rfl, hb3⟩
  have hb03 := hb02.trans (hb3.mono hb02.size)
  clear Hc hb02 hb3
  go_wp2_with fail
  refine (take_nil _ _ _ _).mono ?_
  rintro e W2 ⟨v2, rfl, hv2, hb2⟩
  have hb04 := hb03.trans (hb2.mono hb03.size)
  have Hc := Lib.hid (code_any hv2 (Hh.out.below hb04))
  clear hv2 hb03 hb2
  go_wp2_with fail
  refine Hc.out.mono ?_
  rintro e W4 ⟨rfl, hb3⟩
  have hb05 := hb04.trans (hb3.mono hb04.size)
  clear Hc hb04 hb3
  go_wp2_with fail
  refine (move_nil _ _ _ _ _).mono ?_
  rintro e W2 ⟨v2, rfl, hv2, hb2⟩
  have hb06 := hb05.trans (hb2.mono hb05.size)
  have Hc := Lib.hid (code_any hv2 (Hh.out.below hb06))
  clear hv2 hb05 hb2
  go_wp2_with fail
  refine Hc.out.mono ?_
  rintro e W5 ⟨rfl, hb3⟩
  have hb07 := hb06.trans (hb3.mono hb06.size)
  clear Hc hb06 hb3
  go_wp2_with fail
  refine (all_nil _).mono ?_
  rintro e W6 ⟨rfl, hb6⟩
  have hb08 := hb07.trans (hb6.mono hb07.size)
  clear hb07 hb6
  go_wp2
  go_ret
  exact ⟨rfl, hb08⟩
end Go.Proofs.YtidkamnciomnmaaDoor
