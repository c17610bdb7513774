/-
  What is proved: for every input the call of ferrymanlaw12.BankFails returns true, and each argument reads behind it as it read before: 'Rows.BankFailsCardSaid': the row lists errors.errorType as the program's text lays it, and the card ties it; no other condition beyond the given row's own.
-/
import Derived.Test.YtidkamnciomnmaaDoorCardBase
import Derived.Test.YtidkamnciomnmaaDoorBFails
import Derived.Test.YtidkamnciomnmaaDoorActs
namespace Go.Proofs.YtidkamnciomnmaaDoor.bankFails
open Go.ChangeShapes Go.WideShapes Go.ChangeAt Go.RowKit
open Go.ChangeMaps (open_string)
set_option linter.unusedVariables false

theorem reads (os : Os) {H : Type} (enc : TypeId × Value → H) : ∃ places, DataW.whole enc Tryd.prog ((laidWorld os).forCall (fun _ _ => 0) ⟨#[], #[.slice none 0 0, .string ⟨#[]⟩, .string ⟨#[]⟩, .string ⟨#[]⟩, .int .u64 0, .int .u8 0], []⟩).memory Tryd.f7.params.toList Rows.bankFailsSpec.vars false #[.slice none 0 0, .string ⟨#[]⟩, .string ⟨#[]⟩, .string ⟨#[]⟩, .int .u64 0, .int .u8 0].toList 8 = some ([.nil, .lit (.string []), .lit (.string []), .lit (.string []), .lit (.int .u64 0), .lit (.int .u8 0)], [], places) :=
  ⟨[], by kernel_rfl⟩

set_option maxRecDepth 100000 in
theorem contract (H : Type) (enc : TypeId × Value → H) (W : World) (base : Nat) (args : Array Value) (ds gs : List (DataW H)) (before : List MemPlace)
    (hval : ∀ (j : Nat) t v, Tryd.f7.params[j]? = some t → args[j]? = some v → Value.okWide Tryd.prog W .any base t v)
    (hW : DataW.Whole enc Tryd.prog Tryd.f7.params.toList Rows.bankFailsSpec.vars false W args.toList ds gs before) (hL : laidMetH Tryd.prog Rows.bankFailsRow.laid W) :
    Calls Tryd.prog 7 args W fun e W' => ∃ v, e = .returned v ∧ Rows.bankFailsSpec.post enc Tryd.prog Tryd.f7 false true false false W args v W' := by
  have hh : Handle W := handle_of_laid hL
  have hW' := hW
  obtain ⟨p, q, hA0, hV, rfl, hfz, hnd⟩ := hW
  have hA : DataW.TrodAll enc Tryd.prog W 0 (fun _ => true) true Tryd.f7.params.toList args.toList ds p := hA0
  rw [Tryd.params7] at hA hval
  obtain ⟨v0, vs0, d0, ds0, p0, q0, hargs, rfl, rfl, h0, r0⟩ := trodAll_cons hA
  obtain ⟨v1, vs1, d1, ds1, p1, q1, rfl, rfl, rfl, h1, r1⟩ := trodAll_cons r0
  obtain ⟨v2, vs2, d2, ds2, p2, q2, rfl, rfl, rfl, h2, r2⟩ := trodAll_cons r1
  obtain ⟨v3, vs3, d3, ds3, p3, q3, rfl, rfl, rfl, h3, r3⟩ := trodAll_cons r2
  obtain ⟨v4, vs4, d4, ds4, p4, q4, rfl, rfl, rfl, h4, r4⟩ := trodAll_cons r3
  obtain ⟨v5, vs5, d5, ds5, p5, q5, rfl, rfl, rfl, h5, r5⟩ := trodAll_cons r4
  obtain ⟨rfl, rfl, rfl⟩ := trodAll_nil r5
  obtain rfl : args = #[v0, v1, v2, v3, v4, v5] := by cases args; simp_all
  obtain ⟨rfl, rfl⟩ := trodVars_none hV
  have k0 := h0
  have lt0 : ∀ x ∈ p0, x.block < W.heap.size := by obtain ⟨m, hm⟩ := k0; exact DataW.trod_lt m _ _ _ hm
  obtain ⟨a0, len0, cap0, rfl⟩ := okWide_slice Tryd.underlying22 (hval 0 22 v0 rfl rfl)
  obtain ⟨w0, l0⟩ : ActsIn W a0 len0 ∧ len0 ≤ maxLen := by
    obtain ⟨fuel, hf⟩ := h0
    exact open_acts hf
  have k1 := h1
  have lt1 : ∀ x ∈ p1, x.block < W.heap.size := by obtain ⟨m, hm⟩ := k1; exact DataW.trod_lt m _ _ _ hm
  obtain ⟨a1, e1, _, w1⟩ : ∃ s : ByteArray, v1 = .string s ∧ True ∧ s.size ≤ maxLen := by
    obtain ⟨s, rfl, _, _, hs⟩ := open_string Tryd.underlying9 (hval 1 9 v1 rfl rfl) h1
    exact ⟨s, rfl, trivial, hs⟩
  subst e1
  have k2 := h2
  have lt2 : ∀ x ∈ p2, x.block < W.heap.size := by obtain ⟨m, hm⟩ := k2; exact DataW.trod_lt m _ _ _ hm
  obtain ⟨a2, e2, _, w2⟩ : ∃ s : ByteArray, v2 = .string s ∧ True ∧ s.size ≤ maxLen := by
    obtain ⟨s, rfl, _, _, hs⟩ := open_string Tryd.underlying9 (hval 2 9 v2 rfl rfl) h2
    exact ⟨s, rfl, trivial, hs⟩
  subst e2
  have k3 := h3
  have lt3 : ∀ x ∈ p3, x.block < W.heap.size := by obtain ⟨m, hm⟩ := k3; exact DataW.trod_lt m _ _ _ hm
  obtain ⟨a3, e3, _, w3⟩ : ∃ s : ByteArray, v3 = .string s ∧ True ∧ s.size ≤ maxLen := by
    obtain ⟨s, rfl, _, _, hs⟩ := open_string Tryd.underlying9 (hval 3 9 v3 rfl rfl) h3
    exact ⟨s, rfl, trivial, hs⟩
  subst e3
  have k4 := h4
  have lt4 : ∀ x ∈ p4, x.block < W.heap.size := by obtain ⟨m, hm⟩ := k4; exact DataW.trod_lt m _ _ _ hm
  obtain ⟨a4, e4, w4⟩ : ∃ n : Nat, v4 = .int .u64 n ∧ n ≤ 18446744073709551615 := by
    obtain ⟨x, rfl, _, _, hx⟩ := open_int Tryd.underlying30 (hval 4 30 v4 rfl rfl) h4
    have hb := wf_u64c hx
    exact ⟨x.toNat, by rw [show ((x.toNat : Nat) : Int) = x by omega], by omega⟩
  subst e4
  have k5 := h5
  have lt5 : ∀ x ∈ p5, x.block < W.heap.size := by obtain ⟨m, hm⟩ := k5; exact DataW.trod_lt m _ _ _ hm
  obtain ⟨a5, e5, w5⟩ : ∃ n : Nat, v5 = .int .u8 n ∧ n ≤ 255 := by
    obtain ⟨x, rfl, _, _, hx⟩ := open_int Tryd.underlying5 (hval 5 5 v5 rfl rfl) h5
    have hb := wf_u8c hx
    exact ⟨x.toNat, by rw [show ((x.toNat : Nat) : Int) = x by omega], by omega⟩
  subst e5
  clear hA0
  refine (bfails_walk a0 len0 cap0 a1 a2 a3 a4 a5 w1 w2 w3 w4 w5 W w0 l0 hh).mono fun e W' ⟨he, bel⟩ => ?_
  subst he
  exact ⟨_, rfl, _, _, _, [], _, [], hW', trodAll_mk1 (shut_bool Tryd.underlying4 _), (trodAll_cons_mk (Below.trod laidOut (by kernel_rfl) (of_decide_eq_true (by kernel_rfl)) k0 bel lt0) (trodAll_cons_mk (Below.trod laidOut (by kernel_rfl) (of_decide_eq_true (by kernel_rfl)) k1 bel lt1) (trodAll_cons_mk (Below.trod laidOut (by kernel_rfl) (of_decide_eq_true (by kernel_rfl)) k2 bel lt2) (trodAll_cons_mk (Below.trod laidOut (by kernel_rfl) (of_decide_eq_true (by kernel_rfl)) k3 bel lt3) (trodAll_cons_mk (Below.trod laidOut (by kernel_rfl) (of_decide_eq_true (by kernel_rfl)) k4 bel lt4) (trodAll_cons_mk (Below.trod laidOut (by kernel_rfl) (of_decide_eq_true (by kernel_rfl)) k5 bel lt5) trodAll_mk0)))))), rfl, bel.frame _, fun h => by cases h⟩

set_option maxRecDepth 100000 in
theorem lifted (os : Os) (started : os.Started) (H : Type) (enc : TypeId × Value → H) (F : Stop.Interp) :
    ReturnsInHanded {} Tryd.checked os 7 .any ((OpenSpec.ofChange Rows.bankFailsSpec).preRow enc Tryd.prog Tryd.f7 Rows.bankFailsRow.domain false Rows.bankFailsRow.laid) (((OpenSpec.ofChange Rows.bankFailsSpec).at F).post enc Tryd.prog Tryd.f7 false true false false) := by
  obtain ⟨places, hx⟩ := reads os enc
  refine returnsInHanded_of_row (C := Tryd.checked) (s := OpenSpec.ofChange Rows.bankFailsSpec) own started (by kernel_rfl) Tryd.func7
    (witness_row_at (enc := enc) (C := Tryd.checked) false (laidWorld os) #[.slice none 0 0, .string ⟨#[]⟩, .string ⟨#[]⟩, .string ⟨#[]⟩, .int .u64 0, .int .u8 0] rfl (by kernel_rfl) (by kernel_rfl) (by kernel_rfl)
      (OpenSpec.preRow_of_cond 8 hx (by kernel_rfl) (fun k hk => by cases hk) (by kernel_rfl) (laidWorld_met os _))) ?_
  intro W base args ds gs before hval hW _ _ _ hL _ _
  exact contract H enc W base args ds gs before hval hW hL

theorem said : Rows.BankFailsSaid :=
  OpenClaim.holds_of_cond 7 Tryd.f7 rfl rfl rfl rfl rfl rfl rfl ⟨rfl, rfl, rfl, rfl, rfl⟩ rfl rfl rfl rfl rfl (by kernel_rfl) Tryd.func7 (by kernel_rfl)
    (of_decide_eq_true (by kernel_rfl)) (by unfold Func.isWrapper; first | (rw [if_pos (by decide +kernel)]; kernel_rfl) | (rw [if_neg (by decide +kernel)]; exact ⟨rfl, rfl⟩))
    (fun os started H enc _ F => by rw [OpenClaim.pre_eq_preRow]; exact lifted os started H enc F)

/-- No parameter wants a stand-in; the program's own looks are on. -/
theorem plain (f : FuncId) (fn : Func) (hf : Tryd.pinned.checked.prog.funcNamed "ferryman/ferrymanlaw12.BankFails" = some f) (hfn : Tryd.pinned.checked.prog.funcs[f]? = some fn) :
    true = Tryd.pinned.checked.prog.looks [] ∧ ∀ (j : Nat) t, fn.params[j]? = some t → Tryd.pinned.checked.prog.wantsStandIn t = false := by
  obtain rfl : f = 7 := Option.some.inj ((show Tryd.prog.funcNamed "ferryman/ferrymanlaw12.BankFails" = some 7 by kernel_rfl).symm.trans hf) |>.symm
  obtain rfl : fn = Tryd.f7 := (Option.some.inj (Tryd.func7.symm.trans hfn)).symm
  refine ⟨by kernel_rfl, fun j t ht => ?_⟩
  have h := Array.mem_of_getElem? ht
  have ha : Tryd.f7.params.toList.all (fun t => !Tryd.prog.wantsStandIn t) = true := by kernel_rfl
  have hb := List.all_eq_true.1 ha t (Array.mem_toList_iff.2 h)
  have hc : Tryd.prog.wantsStandIn t = false := by simpa using hb
  exact hc

/-- THE CARD -/
theorem card : Rows.BankFailsCardSaid :=
  Claim7.holds_tied_plain_at .later [] _ _ _ _ said (fun _ h => by cases h) (by kernel_rfl) (fun _ h => by cases h) bankFails_row_tie rfl ⟨rfl, rfl⟩ (by kernel_rfl) rfl plain (by kernel_rfl)
#print axioms card
end Go.Proofs.YtidkamnciomnmaaDoor.bankFails
