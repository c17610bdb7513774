/-
  THE CONTRACT OF maps.Keys OVER A BANK'S MAP: its iterator gives each purse that is there once, in some order.
-/
import Derived.Test.YtidkamnciomnmaaDoorRnd
import Derived.Sort.MapsRangeIn
import Derived.RangeFuncBox
import Derived.RangeFuncNested
import Derived.WalkKit
import Derived.OwnWalkIn
import Derived.TacticsInMore
import Derived.LoopNIn
import Derived.LoopIn
import Derived.Shelf.Abstract
namespace Go.Proofs.YtidkamnciomnmaaDoor
open Go.RowKit Go.Maps Go.Lib
attribute [local go_sem] Oper.semAt_some

abbrev P2 := ByteArray × ByteArray
def P2.ok (x : P2) : Prop := x.1.size ≤ maxLen ∧ x.2.size ≤ maxLen
def encP (x : P2) : Value := .agg #[.string x.1, .string x.2]
def klP (x : P2) : Lit := kl x.1 x.2
theorem klP_inj {x y : P2} (hx : x.ok) (hy : y.ok) (h : klP x = klP y) : x = y := by
  obtain ⟨h1, h2⟩ := kl_inj hx.1 hx.2 hy.1 hy.2 h
  exact Prod.ext h1 h2
theorem klP_self (x : P2) : (klP x).sameKey (klP x) = true := by simp [klP, kl, Lit.sameKey]

abbrev Pk := {x : P2 // x.ok}
theorem klP_ne {x y : Pk} (h : x ≠ y) : klP x.1 ≠ klP y.1 := fun e => h (Subtype.ext (klP_inj x.2 y.2 e))
def Coll (D : DataW Unit) (left : Lit → Bool) (ss : List Pk) : Prop := ss.Nodup ∧ ∀ x : Pk, x ∈ ss ↔ (has D (klP x.1) = true ∧ left (klP x.1) = false)
theorem Coll.start (D : DataW Unit) : Coll D (has D) [] := ⟨List.nodup_nil, fun x => by cases has D (klP x.1) <;> simp⟩
theorem Coll.step {D : DataW Unit} {left : Lit → Bool} {ss : List Pk} (h : Coll D left ss) {x : Pk} {y : DataW Unit} (hlk : left (klP x.1) = true) (hat : ∀ zd, D.atKey (klP x.1) zd = y) :
    Coll D (fun z => left z && !z.sameKey (klP x.1)) (ss ++ [x]) := by
  have hhas : has D (klP x.1) = true := has_true_of_atKey hat
  have hnew : x ∉ ss := fun hm => by have := ((h.2 x).1 hm).2; rw [hlk] at this; cases this
  refine ⟨List.nodup_append.2 ⟨h.1, by simp, fun a ha b hb => by simp at hb; subst hb; exact fun e => hnew (e ▸ ha)⟩, fun y => ?_⟩
  by_cases e : y = x
  · subst e; simp [hhas, klP_self]
  · have hne : (klP y.1).sameKey (klP x.1) = false := Maps.sameKey_ne (klP_ne e)
    simp only [List.mem_append, List.mem_singleton, e, or_false, h.2 y, hne, Bool.not_false, Bool.and_true]

theorem encP_inj {x y : P2} (h : encP x = encP y) : x = y := by
  have h0 := Value.agg.inj h
  have e1 := congrArg (fun x : Array Value => x.getD 0 undef) h0
  have e2 := congrArg (fun x : Array Value => x.getD 1 undef) h0
  exact Prod.ext (Value.string.inj e1) (Value.string.inj e2)
theorem keyP {x : P2} {l : Lit} (h : keyOf Tryd.prog 59 (encP x) = some l) : x.ok ∧ l = klP x := by
  obtain ⟨a, d, e, ha, hd, hl⟩ := keyOf_inv h
  have e2 : x = (a, d) := encP_inj (y := (a, d)) e
  subst e2
  exact ⟨⟨ha, hd⟩, hl⟩

set_option maxRecDepth 100000 in
set_option maxHeartbeats 1000000 in
theorem keys1_in (n l Bm b nn : Nat) (D0 : DataW Unit) (J Jx : List Pk → World → Prop)
    (hY : ∀ pre x W, J pre W → pre.length < Maps.size D0 → YieldAt Fence.wide (n - 1) Tryd.prog l #[encP x.1] W fun e W' =>
      (e = .returned (.bool true) ∧ J (pre ++ [x]) W' ∧ KeepsWalks W W') ∨ (e = .returned (.bool false) ∧ Jx (pre ++ [x]) W'))
    (W : World) (hJ : AbidesFrom W.heap.size J) (hm : W.cell? ⟨Bm, 0, none⟩ = some (.map (some b))) (hown : W.ownsMap Tryd.prog 59 (plainElem Tryd.prog 30) b nn D0) (h0 : J [] W) :
    CallsIn Fence.wide n Tryd.prog 38 #[.func (.yield l) #[] #[], .pointer (some ⟨Bm, 0, none⟩)] W fun e W' => (∃ v, e = .returned v) ∧
      ((∃ ss : List Pk, (ss.Nodup ∧ ∀ x : Pk, x ∈ ss ↔ has D0 (klP x.1) = true) ∧ J ss W') ∨ (∃ pre : List Pk, True ∧ Jx pre W')) := by
  refine callsIn_of_wp Tryd.func38 rfl trivial ?_ rfl
  simp only [Tryd.ntmps38, List.size_toArray, List.length_cons, List.length_nil, Nat.reduceAdd, Nat.reduceSub, Array.replicate_succ, Array.replicate_zero, List.push_toArray, List.append_toArray, List.nil_append, List.cons_append]
  gi_wp2_with (first
    | (gi_at_range; refine wpListIn_range_own _ rfl _ 54 rfl 59 30 (Keyed.of_law kLaw) Tryd.underlying54 _ b nn _ rfl hown ?_; intro w0 hrg0 hg0 hs0)
    | gi_in)
  go_frame
  gi_loopw [3] (fun _ wr => ∃ (left : Lit → Bool) (cnt : Nat) (ss : List Pk), wr.ranges Tryd.prog 59 (plainElem Tryd.prog 30) b W.heap.size nn D0 left cnt ∧ ss.length + cnt ≤ Maps.size D0 ∧ Coll D0 left ss ∧ J ss wr)
    (fun _ wr => wr.rangeLeft b W.heap.size)
  case atStart =>
    exact ⟨_, _, [], hrg0, by simp, Coll.start D0, hJ [] W w0 none h0 hg0 (fun r e => by cases e)⟩
  case round =>
    obtain ⟨left, cnt, ss, hrg, hcs, hC, hJs⟩ := hrel
    gi_wp2_with (first
      | (gi_at_next; refine wpListIn_next_ranges _ rfl _ rfl 59 (Keyed.of_law kLaw) (plainElem Tryd.prog 30) encP id (fun key kl hk => by obtain ⟨a, d, e, _⟩ := keyOf_inv hk; exact ⟨(a, d), e⟩) (fun v _ _ => ⟨v, rfl⟩) b W.heap.size nn _ _ _ rfl hrg ?_ ?_)
      | gi_in)
    · -- nothing is left
      intro hc0 hl0
      gi_wp2
      go_end0
      exact ⟨⟨_, rfl⟩, .inl ⟨ss, ⟨hC.1, fun x => by rw [hC.2 x, hl0]; simp⟩, hJs⟩⟩
    · -- a purse has come
      intro xa xd c kl yd yp w2 cnt2 hkey hlk hv hat hrg2 hlt hg2 hs2 hen
      obtain ⟨x, hxx⟩ : ∃ x : P2, x = (xa, xd) := ⟨_, rfl⟩
      rw [← hxx] at hkey hen ⊢
      clear hxx
      obtain ⟨hx, rfl⟩ := keyP hkey
      have hJ2 : J ss w2 := hJ ss wr w2 (some W.heap.size) hJs hg2 (fun r e => by cases e; exact ⟨Nat.le_refl _, hrg.iter_walk⟩)
      have hJ3 : J ss (w2.alloc (.cells #[.string x.1, .string x.2] 59)) := hJ ss w2 _ none hJ2 (World.grownBy_alloc _ _ _) (fun r e => by cases e)
      have hrg3 := hrg2.alloc (.cells #[.string x.1, .string x.2] 59)
      obtain ⟨fn, tmps, assign, body, hy, hR⟩ := hY ss ⟨x, hx⟩ _ hJ3 (by omega)
      clear hs2
      unfold encP at hen hy
      have hbl : Blk (w2.alloc (.cells #[.string x.1, .string x.2] 59)) w2.heap.size 59 #[.string x.1, .string x.2] := Blk.new _ _ _
      have c0 := hbl.cell 0
      have c1 := hbl.cell 1
      simp only [List.getElem?_toArray, List.getElem?_cons_zero, List.getElem?_cons_succ] at c0 c1
      gi_wp2
      refine ⟨fun h => by simp [Fence.wide] at h, hR.mono ?_⟩
      have hC2 := hC.step (x := ⟨x, hx⟩) hlk hat
      rintro e W3 (⟨rfl, hJ4, hk3⟩ | ⟨rfl, hJx3⟩)
      · gi_wp2
        have hrg4 := hrg3.of_walks hk3
        go_roundw
        case rel => exact ⟨_, cnt2, ss ++ [⟨x, hx⟩], hrg4, by simp; omega, hC2, hJ4⟩
        case measure => rw [hrg4.left_eq, hrg.left_eq]; exact hlt
      · gi_wp2
        refine bodyPost_ret (results_none rfl _ _ _) rfl ?_
        exact ⟨⟨_, rfl⟩, .inr ⟨ss ++ [⟨x, hx⟩], trivial, hJx3⟩⟩

/-- maps.Keys of the bank's map: its value's contract -/
theorem keys_stops (n Bm b nn : Nat) (D0 : DataW Unit) (w : World) (hBm : Bm < w.heap.size) (hm : w.cell? ⟨Bm, 0, none⟩ = some (.map (some b))) (hown : w.ownsMap Tryd.prog 59 (plainElem Tryd.prog 30) b nn D0) :
    SeqStopsK Fence.wide n Tryd.prog 38 #[.pointer (some ⟨Bm, 0, none⟩)] (fun x : Pk => #[encP x.1]) KeepsWalks
      (fun ss => ss.Nodup ∧ ∀ x : Pk, x ∈ ss ↔ has D0 (klP x.1) = true) (fun _ => True) (Maps.size D0) w := fun l J Jx W hW hJ _ hY h0 => by
  have hown' : W.ownsMap Tryd.prog 59 (plainElem Tryd.prog 30) b nn D0 := by
    have hbl := hown.lt
    obtain ⟨es, clock, hb, Ft, hs, hD⟩ := hown
    exact ⟨es, clock, (hW.block b hbl).trans hb, Ft, hs, hD⟩
  exact keys1_in n l Bm b nn D0 J Jx hY W hJ ((hW.cell (p := ⟨Bm, 0, none⟩) hBm).trans hm) hown' h0

theorem keys_any (mb : Option Nat) (w : World) :
    Calls Tryd.prog 28 #[.map mb] w fun e w' => e = .returned (.func (.func 38) #[] #[.pointer (some ⟨w.heap.size, 0, none⟩)]) ∧ w' = w.alloc (.cells #[.map mb] 54) := by
  go_enter Tryd.func28, Tryd.ntmps28
  go_wp2
  go_ret
  exact ⟨rfl, rfl⟩
end Go.Proofs.YtidkamnciomnmaaDoor
