/-
  WHAT COMES IN: a slice of coins, an act, opened to cells.
-/
import Derived.Test.YtidkamnciomnmaaBack
import Derived.OpenShut
import Derived.Deep.Slices
import Derived.Deep.Fields
namespace Go.Proofs.Ytidkamnciomnmaa
open Go.RowKit Go.Maps Go.Lib Go.ChangeShapes Go.WideShapes
section
variable {H : Type} {enc : TypeId × Value → H} {w : World} {base : Nat} {spare : Nat → Bool} {held : Bool}

theorem cellsStr1 : Try.prog.cellsOf 9 = 1 := by kernel_rfl
theorem cellsU641 : Try.prog.cellsOf 23 = 1 := by kernel_rfl
theorem cellsInt1 : Try.prog.cellsOf 3 = 1 := by kernel_rfl
theorem cellsU81 : Try.prog.cellsOf 5 = 1 := by kernel_rfl
theorem cellsPkt7 : Try.prog.cellsOf 37 = 7 := by kernel_rfl
theorem cellsCoin3 : Try.prog.cellsOf 46 = 3 := by kernel_rfl
theorem cellsAct13 : Try.prog.cellsOf 44 = 13 := by kernel_rfl

theorem wf_u64' {a : Int} (h : (Lit.int .u64 a).wf = true) : 0 ≤ a ∧ a ≤ 18446744073709551615 := by
  simp [Lit.wf, IntKind.min, IntKind.max, IntKind.bits, IntKind.signed] at h
  omega
theorem wf_u8' {a : Int} (h : (Lit.int .u8 a).wf = true) : 0 ≤ a ∧ a ≤ 255 := by
  simp [Lit.wf, IntKind.min, IntKind.max, IntKind.bits, IntKind.signed] at h
  omega

theorem three_of {cs : List Value} (h : cs.length = 3) : ∃ a b c, cs = [a, b, c] := by
  match cs, h with
  | [a, b, c], _ => exact ⟨a, b, c, rfl⟩

/-- a coin's cells -/
theorem open_coin {fuel : Nat} {cs : List Value} {x : DataW H × List MemPlace} (h : DataW.trod enc Try.prog w base spare held fuel 46 cs = some x) :
    ∃ (p q : ByteArray) (z : Nat), cs = [.string p, .string q, .int .u64 z] ∧ p.size ≤ maxLen ∧ q.size ≤ maxLen ∧ z ≤ Bk.maxU := by
  obtain ⟨xs, n, _, _, hl, hxl, hf⟩ := DataW.trod_struct Try.underlying46 h
  rw [cellsCoin3] at hl
  obtain ⟨a, b, c, rfl⟩ := three_of hl
  have hxs : ∀ i, i < 3 → xs[i]? = some (xs.getD i (.nil, [])) := fun i hi => by
    have : i < xs.length := by rw [hxl]; exact hi
    simp [List.getD, List.getElem?_eq_getElem this]
  have h0 : DataW.trod enc Try.prog w base spare held n 9 (([a, b, c].drop 0).take (Try.prog.cellsOf 9)) = xs[0]? := hf 0 _ rfl
  have h1 : DataW.trod enc Try.prog w base spare held n 9 (([a, b, c].drop 1).take (Try.prog.cellsOf 9)) = xs[1]? := hf 1 _ rfl
  have h2 : DataW.trod enc Try.prog w base spare held n 23 (([a, b, c].drop 2).take (Try.prog.cellsOf 23)) = xs[2]? := hf 2 _ rfl
  rw [hxs 0 (by decide)] at h0
  rw [hxs 1 (by decide)] at h1
  rw [hxs 2 (by decide)] at h2
  simp only [cellsStr1, cellsU641, List.drop_zero, List.drop_succ_cons, List.take_succ_cons, List.take_zero] at h0 h1 h2
  obtain ⟨p, e0, _, hp⟩ := DataW.trod_string Try.underlying9 h0
  obtain ⟨q, e1, _, hq⟩ := DataW.trod_string Try.underlying9 h1
  obtain ⟨z, e2, _, hz⟩ := DataW.trod_int Try.underlying23 h2
  have hz' := wf_u64' hz
  refine ⟨p, q, z.toNat, ?_, hp, hq, by unfold Bk.maxU; omega⟩
  rw [List.cons.inj e0 |>.1, List.cons.inj e1 |>.1, List.cons.inj e2 |>.1]
  congr 4
  omega

/-- a slice of coins -/
theorem open_coins {fuel : Nat} {a : Option Addr} {len cap : Nat} {x : DataW H × List MemPlace} (h : DataW.trod enc Try.prog w base spare held fuel 40 [.slice a len cap] = some x) : CoinsIn w a len ∧ len ≤ maxLen := by
  rcases Go.Deep.open_slice Try.underlying40 h with ⟨e, _⟩ | ⟨ad, len', cap', m, n, D, Pl, e, hb, hl, hm, hmm, _, hi⟩
  · obtain ⟨rfl, rfl, rfl⟩ : a = none ∧ len = 0 ∧ cap = 0 := by simpa using e
    exact ⟨fun i hi => absurd hi (Nat.not_lt_zero _), Nat.zero_le _⟩
  · obtain ⟨rfl, rfl, rfl⟩ : a = some ad ∧ len = len' ∧ cap = cap' := by simpa using e
    refine ⟨fun i hil => ?_, by omega⟩
    have him : i < m := by rw [hmm]; split <;> omega
    obtain ⟨cs, hc, ht⟩ := hi i him
    rw [cellsCoin3] at hc
    obtain ⟨p, q, z, rfl, hp, hq, hz⟩ := open_coin ht
    obtain ⟨_, _, hat⟩ := World.cells?_some hc
    have h0 := hat 0 (by decide)
    have h1 := hat 1 (by decide)
    have h2 := hat 2 (by decide)
    simp only [List.getElem?_cons_zero, List.getElem?_cons_succ] at h0 h1 h2
    have e0 : (ad.add (i * 3)).add 0 = ad.add (i * 3) := by simp [Addr.add]
    rw [e0] at h0
    have hlt := cell_lt' h0
    rw [add_block] at hlt
    exact ⟨ad, rfl, hlt, p, q, z, hp, hq, hz, h0, h1, h2⟩

theorem seven_of {cs : List Value} (h : cs.length = 7) : ∃ a b c d e f g, cs = [a, b, c, d, e, f, g] := by
  match cs, h with
  | [a, b, c, d, e, f, g], _ => exact ⟨a, b, c, d, e, f, g, rfl⟩
theorem thirteen_of {cs : List Value} (h : cs.length = 13) : ∃ a b c d e f g h' i j k l m, cs = [a, b, c, d, e, f, g, h', i, j, k, l, m] := by
  match cs, h with
  | [a, b, c, d, e, f, g, h', i, j, k, l, m], _ => exact ⟨a, b, c, d, e, f, g, h', i, j, k, l, m, rfl⟩

/-- a packet's cells -/
theorem open_packet {fuel : Nat} {cs : List Value} {x : DataW H × List MemPlace} (h : DataW.trod enc Try.prog w base spare held fuel 37 cs = some x) : ∃ p : Pk7, p.ok ∧ cs = (encP7 p).toList := by
  obtain ⟨xs, n, _, _, hl, hxl, hf⟩ := DataW.trod_struct Try.underlying37 h
  rw [cellsPkt7] at hl
  obtain ⟨a, b, c, d, e, f, g, rfl⟩ := seven_of hl
  have hxs : ∀ i, i < 7 → xs[i]? = some (xs.getD i (.nil, [])) := fun i hi => by
    have : i < xs.length := by rw [hxl]; exact hi
    simp [List.getD, List.getElem?_eq_getElem this]
  have h0 : DataW.trod enc Try.prog w base spare held n 3 (([a, b, c, d, e, f, g].drop 0).take (Try.prog.cellsOf 3)) = xs[0]? := hf 0 _ rfl
  have h1 : DataW.trod enc Try.prog w base spare held n 23 (([a, b, c, d, e, f, g].drop 1).take (Try.prog.cellsOf 23)) = xs[1]? := hf 1 _ rfl
  have h2 : DataW.trod enc Try.prog w base spare held n 23 (([a, b, c, d, e, f, g].drop 2).take (Try.prog.cellsOf 23)) = xs[2]? := hf 2 _ rfl
  have h3 : DataW.trod enc Try.prog w base spare held n 9 (([a, b, c, d, e, f, g].drop 3).take (Try.prog.cellsOf 9)) = xs[3]? := hf 3 _ rfl
  have h4 : DataW.trod enc Try.prog w base spare held n 23 (([a, b, c, d, e, f, g].drop 4).take (Try.prog.cellsOf 23)) = xs[4]? := hf 4 _ rfl
  have h5 : DataW.trod enc Try.prog w base spare held n 9 (([a, b, c, d, e, f, g].drop 5).take (Try.prog.cellsOf 9)) = xs[5]? := hf 5 _ rfl
  have h6 : DataW.trod enc Try.prog w base spare held n 9 (([a, b, c, d, e, f, g].drop 6).take (Try.prog.cellsOf 9)) = xs[6]? := hf 6 _ rfl
  rw [hxs 0 (by decide)] at h0
  rw [hxs 1 (by decide)] at h1
  rw [hxs 2 (by decide)] at h2
  rw [hxs 3 (by decide)] at h3
  rw [hxs 4 (by decide)] at h4
  rw [hxs 5 (by decide)] at h5
  rw [hxs 6 (by decide)] at h6
  simp only [cellsStr1, cellsU641, cellsInt1, List.drop_zero, List.drop_succ_cons, List.take_succ_cons, List.take_zero] at h0 h1 h2 h3 h4 h5 h6
  obtain ⟨pc, e0, _, _⟩ := DataW.trod_int Try.underlying3 h0
  obtain ⟨p1, e1, _, _⟩ := DataW.trod_int Try.underlying23 h1
  obtain ⟨p2, e2, _, _⟩ := DataW.trod_int Try.underlying23 h2
  obtain ⟨pd, e3, _, hd⟩ := DataW.trod_string Try.underlying9 h3
  obtain ⟨pa, e4, _, ha⟩ := DataW.trod_int Try.underlying23 h4
  obtain ⟨pf, e5, _, hf'⟩ := DataW.trod_string Try.underlying9 h5
  obtain ⟨pt, e6, _, ht⟩ := DataW.trod_string Try.underlying9 h6
  have ha' := wf_u64' ha
  refine ⟨⟨pc, p1, p2, pd, pa.toNat, pf, pt⟩, ⟨hd, hf', ht, by show pa.toNat ≤ Bk.maxU; unfold Bk.maxU; omega⟩, ?_⟩
  rw [List.cons.inj e0 |>.1, List.cons.inj e1 |>.1, List.cons.inj e2 |>.1, List.cons.inj e3 |>.1, List.cons.inj e4 |>.1, List.cons.inj e5 |>.1, List.cons.inj e6 |>.1]
  have : (pa.toNat : Int) = pa := by omega
  simp [encP7, this]

/-- an act's cells -/
theorem open_act {fuel : Nat} {cs : List Value} {x : DataW H × List MemPlace} (h : DataW.trod enc Try.prog w base spare held fuel 44 cs = some x) : ∃ y : Act14, y.ok ∧ cs = (encA y).toList := by
  obtain ⟨xs, n, _, _, hl, hxl, hf⟩ := DataW.trod_struct Try.underlying44 h
  rw [cellsAct13] at hl
  obtain ⟨a, b, c, d, e, f0, f1, f2, f3, f4, f5, f6, g, rfl⟩ := thirteen_of hl
  have hxs : ∀ i, i < 7 → xs[i]? = some (xs.getD i (.nil, [])) := fun i hi => by
    have : i < xs.length := by rw [hxl]; exact hi
    simp [List.getD, List.getElem?_eq_getElem this]
  have h0 : DataW.trod enc Try.prog w base spare held n 5 (([a, b, c, d, e, f0, f1, f2, f3, f4, f5, f6, g].drop 0).take (Try.prog.cellsOf 5)) = xs[0]? := hf 0 _ rfl
  have h1 : DataW.trod enc Try.prog w base spare held n 5 (([a, b, c, d, e, f0, f1, f2, f3, f4, f5, f6, g].drop 1).take (Try.prog.cellsOf 5)) = xs[1]? := hf 1 _ rfl
  have h2 : DataW.trod enc Try.prog w base spare held n 5 (([a, b, c, d, e, f0, f1, f2, f3, f4, f5, f6, g].drop 2).take (Try.prog.cellsOf 5)) = xs[2]? := hf 2 _ rfl
  have h3 : DataW.trod enc Try.prog w base spare held n 5 (([a, b, c, d, e, f0, f1, f2, f3, f4, f5, f6, g].drop 3).take (Try.prog.cellsOf 5)) = xs[3]? := hf 3 _ rfl
  have h4 : DataW.trod enc Try.prog w base spare held n 5 (([a, b, c, d, e, f0, f1, f2, f3, f4, f5, f6, g].drop 4).take (Try.prog.cellsOf 5)) = xs[4]? := hf 4 _ rfl
  have h5 : DataW.trod enc Try.prog w base spare held n 37 (([a, b, c, d, e, f0, f1, f2, f3, f4, f5, f6, g].drop 5).take (Try.prog.cellsOf 37)) = xs[5]? := hf 5 _ rfl
  have h6 : DataW.trod enc Try.prog w base spare held n 23 (([a, b, c, d, e, f0, f1, f2, f3, f4, f5, f6, g].drop 12).take (Try.prog.cellsOf 23)) = xs[6]? := hf 6 _ rfl
  rw [hxs 0 (by decide)] at h0
  rw [hxs 1 (by decide)] at h1
  rw [hxs 2 (by decide)] at h2
  rw [hxs 3 (by decide)] at h3
  rw [hxs 4 (by decide)] at h4
  rw [hxs 5 (by decide)] at h5
  rw [hxs 6 (by decide)] at h6
  simp only [cellsU81, cellsU641, cellsPkt7, List.drop_zero, List.drop_succ_cons, List.take_succ_cons, List.take_zero] at h0 h1 h2 h3 h4 h5 h6
  obtain ⟨z0, e0, _, w0⟩ := DataW.trod_int Try.underlying5 h0
  obtain ⟨z1, e1, _, w1⟩ := DataW.trod_int Try.underlying5 h1
  obtain ⟨z2, e2, _, w2⟩ := DataW.trod_int Try.underlying5 h2
  obtain ⟨z3, e3, _, w3⟩ := DataW.trod_int Try.underlying5 h3
  obtain ⟨z4, e4, _, w4⟩ := DataW.trod_int Try.underlying5 h4
  obtain ⟨p, hp, e5⟩ := open_packet h5
  obtain ⟨z6, e6, _, w6⟩ := DataW.trod_int Try.underlying23 h6
  have v0 := wf_u8' w0
  have v1 := wf_u8' w1
  have v2 := wf_u8' w2
  have v3 := wf_u8' w3
  have v4 := wf_u8' w4
  have v6 := wf_u64' w6
  refine ⟨⟨z0.toNat, z1.toNat, z2.toNat, z3.toNat, z4.toNat, p, z6.toNat⟩, ⟨by show z1.toNat ≤ 255; omega, by show z2.toNat ≤ 255; omega, by show z3.toNat ≤ 255; omega, by show z4.toNat ≤ 255; omega, hp, by show z6.toNat ≤ Bk.maxU; unfold Bk.maxU; omega⟩, ?_⟩
  obtain ⟨pc, p1, p2, pd, pa, pf, pt⟩ := p
  simp only [encP7, List.cons.injEq] at e5
  obtain ⟨q0, q1, q2, q3, q4, q5, q6, _⟩ := e5
  rw [List.cons.inj e0 |>.1, List.cons.inj e1 |>.1, List.cons.inj e2 |>.1, List.cons.inj e3 |>.1, List.cons.inj e4 |>.1, List.cons.inj e6 |>.1, q0, q1, q2, q3, q4, q5, q6]
  have t0 : (z0.toNat : Int) = z0 := by omega
  have t1 : (z1.toNat : Int) = z1 := by omega
  have t2 : (z2.toNat : Int) = z2 := by omega
  have t3 : (z3.toNat : Int) = z3 := by omega
  have t4 : (z4.toNat : Int) = z4 := by omega
  have t6 : (z6.toNat : Int) = z6 := by omega
  simp [encA, t0, t1, t2, t3, t4, t6]
end
end Go.Proofs.Ytidkamnciomnmaa
