/-
  ACTS THAT CAME IN; THE CONTRACT OF ferrymanlaw12.name.
-/
import Derived.Test.YtidkamnciomnmaaDoorKit
import Derived.OpenShut
import Derived.Deep.Slices
import Derived.Deep.Fields
namespace Go.Proofs.YtidkamnciomnmaaDoor
open Go.RowKit Go.Maps Go.Lib Go.ChangeShapes Go.WideShapes

structure Act12 where
  kind : Nat
  a : Nat
  b : Nat
  d : Nat
  raw : ByteArray
  n : Nat
structure Act12.ok (x : Act12) : Prop where
  kind : x.kind ≤ 255
  a : x.a ≤ 255
  b : x.b ≤ 255
  d : x.d ≤ 255
  raw : x.raw.size ≤ maxLen
  n : x.n ≤ Bk.maxU
def enc12 (x : Act12) : Array Value := #[.int .u8 x.kind, .int .u8 x.a, .int .u8 x.b, .int .u8 x.d, .string x.raw, .int .u64 x.n]

/-- a slice of acts that came in, as it is read -/
def ActsIn (w : World) (a : Option Addr) (len : Nat) : Prop := ∀ i, i < len → ∃ x : Addr, a = some x ∧ x.block < w.heap.size ∧ ∃ y : Act12, y.ok ∧
  w.cell? (x.add (i * 6)) = some (.int .u8 y.kind) ∧ w.cell? ⟨(x.add (i * 6)).block, (x.add (i * 6)).off + 1, none⟩ = some (.int .u8 y.a) ∧ w.cell? ⟨(x.add (i * 6)).block, (x.add (i * 6)).off + 2, none⟩ = some (.int .u8 y.b) ∧
  w.cell? ⟨(x.add (i * 6)).block, (x.add (i * 6)).off + 3, none⟩ = some (.int .u8 y.d) ∧ w.cell? ⟨(x.add (i * 6)).block, (x.add (i * 6)).off + 4, none⟩ = some (.string y.raw) ∧ w.cell? ⟨(x.add (i * 6)).block, (x.add (i * 6)).off + 5, none⟩ = some (.int .u64 y.n)

theorem act_add_block (x : Addr) (i : Nat) : (x.add i).block = x.block := by unfold Addr.add; split <;> rfl
theorem ActsIn.below {w w' : World} {a : Option Addr} {len : Nat} (h : ActsIn w a len) (hb : Below w.heap.size w w') : ActsIn w' a len := fun i hi => by
  obtain ⟨x, e, hx, y, hy, c0, c1, c2, c3, c4, c5⟩ := h i hi
  have hk : (x.add (i * 6)).block < w.heap.size := by rw [act_add_block]; exact hx
  exact ⟨x, e, Nat.lt_of_lt_of_le hx hb.size, y, hy, (hb.cell (p := x.add (i * 6)) hk).trans c0, (hb.cell (p := ⟨(x.add (i * 6)).block, (x.add (i * 6)).off + 1, none⟩) hk).trans c1, (hb.cell (p := ⟨(x.add (i * 6)).block, (x.add (i * 6)).off + 2, none⟩) hk).trans c2,
    (hb.cell (p := ⟨(x.add (i * 6)).block, (x.add (i * 6)).off + 3, none⟩) hk).trans c3, (hb.cell (p := ⟨(x.add (i * 6)).block, (x.add (i * 6)).off + 4, none⟩) hk).trans c4, (hb.cell (p := ⟨(x.add (i * 6)).block, (x.add (i * 6)).off + 5, none⟩) hk).trans c5⟩

section
variable {H : Type} {enc : TypeId × Value → H} {w : World} {base : Nat} {spare : Nat → Bool} {held : Bool}
theorem cellsStr12 : Tryd.prog.cellsOf 9 = 1 := by kernel_rfl
theorem cellsU6412 : Tryd.prog.cellsOf 30 = 1 := by kernel_rfl
theorem cellsU812 : Tryd.prog.cellsOf 5 = 1 := by kernel_rfl
theorem cellsAct12 : Tryd.prog.cellsOf 32 = 6 := by kernel_rfl
theorem wf_u64a {a : Int} (h : (Lit.int .u64 a).wf = true) : 0 ≤ a ∧ a ≤ 18446744073709551615 := by
  simp [Lit.wf, IntKind.min, IntKind.max, IntKind.bits, IntKind.signed] at h
  omega
theorem wf_u8a {a : Int} (h : (Lit.int .u8 a).wf = true) : 0 ≤ a ∧ a ≤ 255 := by
  simp [Lit.wf, IntKind.min, IntKind.max, IntKind.bits, IntKind.signed] at h
  omega
theorem six_of {cs : List Value} (h : cs.length = 6) : ∃ a b c d e f, cs = [a, b, c, d, e, f] := by
  match cs, h with
  | [a, b, c, d, e, f], _ => exact ⟨a, b, c, d, e, f, rfl⟩

/-- an act's cells -/
theorem open_act12 {fuel : Nat} {cs : List Value} {x : DataW H × List MemPlace} (h : DataW.trod enc Tryd.prog w base spare held fuel 32 cs = some x) : ∃ y : Act12, y.ok ∧ cs = (enc12 y).toList := by
  obtain ⟨xs, n, _, _, hl, hxl, hf⟩ := DataW.trod_struct Tryd.underlying32 h
  rw [cellsAct12] at hl
  obtain ⟨a, b, c, d, e, f, rfl⟩ := six_of hl
  have hxs : ∀ i, i < 6 → xs[i]? = some (xs.getD i (.nil, [])) := fun i hi => by
    have : i < xs.length := by rw [hxl]; exact hi
    simp [List.getD, List.getElem?_eq_getElem this]
  have h0 : DataW.trod enc Tryd.prog w base spare held n 5 (([a, b, c, d, e, f].drop 0).take (Tryd.prog.cellsOf 5)) = xs[0]? := hf 0 _ rfl
  have h1 : DataW.trod enc Tryd.prog w base spare held n 5 (([a, b, c, d, e, f].drop 1).take (Tryd.prog.cellsOf 5)) = xs[1]? := hf 1 _ rfl
  have h2 : DataW.trod enc Tryd.prog w base spare held n 5 (([a, b, c, d, e, f].drop 2).take (Tryd.prog.cellsOf 5)) = xs[2]? := hf 2 _ rfl
  have h3 : DataW.trod enc Tryd.prog w base spare held n 5 (([a, b, c, d, e, f].drop 3).take (Tryd.prog.cellsOf 5)) = xs[3]? := hf 3 _ rfl
  have h4 : DataW.trod enc Tryd.prog w base spare held n 9 (([a, b, c, d, e, f].drop 4).take (Tryd.prog.cellsOf 9)) = xs[4]? := hf 4 _ rfl
  have h5 : DataW.trod enc Tryd.prog w base spare held n 30 (([a, b, c, d, e, f].drop 5).take (Tryd.prog.cellsOf 30)) = xs[5]? := hf 5 _ rfl
  rw [hxs 0 (by decide)] at h0
  rw [hxs 1 (by decide)] at h1
  rw [hxs 2 (by decide)] at h2
  rw [hxs 3 (by decide)] at h3
  rw [hxs 4 (by decide)] at h4
  rw [hxs 5 (by decide)] at h5
  simp only [cellsU812, cellsU6412, cellsStr12, List.drop_zero, List.drop_succ_cons, List.take_succ_cons, List.take_zero] at h0 h1 h2 h3 h4 h5
  obtain ⟨z0, e0, _, w0⟩ := DataW.trod_int Tryd.underlying5 h0
  obtain ⟨z1, e1, _, w1⟩ := DataW.trod_int Tryd.underlying5 h1
  obtain ⟨z2, e2, _, w2⟩ := DataW.trod_int Tryd.underlying5 h2
  obtain ⟨z3, e3, _, w3⟩ := DataW.trod_int Tryd.underlying5 h3
  obtain ⟨s4, e4, _, w4⟩ := DataW.trod_string Tryd.underlying9 h4
  obtain ⟨z5, e5, _, w5⟩ := DataW.trod_int Tryd.underlying30 h5
  have v0 := wf_u8a w0
  have v1 := wf_u8a w1
  have v2 := wf_u8a w2
  have v3 := wf_u8a w3
  have v5 := wf_u64a w5
  refine ⟨⟨z0.toNat, z1.toNat, z2.toNat, z3.toNat, s4, z5.toNat⟩, ⟨by show z0.toNat ≤ 255; omega, by show z1.toNat ≤ 255; omega, by show z2.toNat ≤ 255; omega, by show z3.toNat ≤ 255; omega, w4, by show z5.toNat ≤ Bk.maxU; unfold Bk.maxU; omega⟩, ?_⟩
  rw [List.cons.inj e0 |>.1, List.cons.inj e1 |>.1, List.cons.inj e2 |>.1, List.cons.inj e3 |>.1, List.cons.inj e4 |>.1, List.cons.inj e5 |>.1]
  have t0 : (z0.toNat : Int) = z0 := by omega
  have t1 : (z1.toNat : Int) = z1 := by omega
  have t2 : (z2.toNat : Int) = z2 := by omega
  have t3 : (z3.toNat : Int) = z3 := by omega
  have t5 : (z5.toNat : Int) = z5 := by omega
  simp [enc12, t0, t1, t2, t3, t5]

/-- a slice of acts -/
theorem open_acts {fuel : Nat} {a : Option Addr} {len cap : Nat} {x : DataW H × List MemPlace} (h : DataW.trod enc Tryd.prog w base spare held fuel 22 [.slice a len cap] = some x) : ActsIn w a len ∧ len ≤ maxLen := by
  rcases Go.Deep.open_slice Tryd.underlying22 h with ⟨e, _⟩ | ⟨ad, len', cap', m, n, D, Pl, e, hb, hl, hm, hmm, _, hi⟩
  · obtain ⟨rfl, rfl, rfl⟩ : a = none ∧ len = 0 ∧ cap = 0 := by simpa using e
    exact ⟨fun i hi => absurd hi (Nat.not_lt_zero _), Nat.zero_le _⟩
  · obtain ⟨rfl, rfl, rfl⟩ : a = some ad ∧ len = len' ∧ cap = cap' := by simpa using e
    refine ⟨fun i hil => ?_, by omega⟩
    have him : i < m := by rw [hmm]; split <;> omega
    obtain ⟨cs, hc, ht⟩ := hi i him
    rw [cellsAct12] at hc
    obtain ⟨y, hy, rfl⟩ := open_act12 ht
    obtain ⟨_, _, hat⟩ := World.cells?_some hc
    have h0 := hat 0 (by decide)
    have h1 := hat 1 (by decide)
    have h2 := hat 2 (by decide)
    have h3 := hat 3 (by decide)
    have h4 := hat 4 (by decide)
    have h5 := hat 5 (by decide)
    simp only [enc12, List.getElem?_cons_zero, List.getElem?_cons_succ] at h0 h1 h2 h3 h4 h5
    have e0 : (ad.add (i * 6)).add 0 = ad.add (i * 6) := by simp [Addr.add]
    rw [e0] at h0
    have hlt : (ad.add (i * 6)).block < w.heap.size := by
      rcases Nat.lt_or_ge (ad.add (i * 6)).block w.heap.size with hl | hl
      · exact hl
      · simp [World.cell?, Array.getElem?_eq_none hl] at h0
    rw [act_add_block] at hlt
    exact ⟨ad, rfl, hlt, y, hy, h0, h1, h2, h3, h4, h5⟩
end

/-! ### names -/
def nm (k : Nat) : UInt8 := UInt8.ofNat (97 + k % 5)
def dnb (d : Nat) : UInt8 := UInt8.ofNat (120 + d % 3)
def nameS (k : Nat) (raw : ByteArray) : ByteArray := if k % 16 = 15 then raw else ⟨#[nm k]⟩
def dn (d : Nat) : ByteArray := ⟨#[dnb d]⟩
theorem tm15 (x : Nat) : (x : Int).tmod 15 = (x : Int) % 15 := Int.tmod_eq_emod_of_nonneg (by omega)
theorem tm3 (x : Nat) : (x : Int).tmod 3 = (x : Int) % 3 := Int.tmod_eq_emod_of_nonneg (by omega)
theorem wr120 (x : Nat) : IntKind.u8.wrap (120 + (x : Int) % 3) = 120 + (x : Int) % 3 := by
  have := Int.emod_nonneg (x : Int) (by decide : (3 : Int) ≠ 0)
  have := Int.emod_lt_of_pos (x : Int) (by decide : (0 : Int) < 3)
  simp [IntKind.wrap, IntKind.bits, IntKind.signed]
  omega
theorem conv_byte {W : World} {g : Nat} {z : Int} {b : UInt8} (h : Blk W g 5 #[.int .u8 z]) (hz : z = b.toNat) : (convert 34 9 (.slice (some ⟨g, 0, none⟩) 1 1)).run Tryd.prog W = .ok (.string ⟨#[b]⟩) W := by
  subst hz
  refine run_convert_bytes_back _ 34 9 5 ⟨g, 0, none⟩ 1 [b] Tryd.underlying34 Tryd.underlying5 Tryd.underlying9 fun j hj => ?_
  obtain rfl : j = 0 := by simpa using hj
  exact h.cell 0
theorem dn_val (d : Nat) : (120 + (d : Int) % 3) = ((dnb d).toNat : Int) := by
  rw [dnb, UInt8.toNat_ofNat']
  omega
theorem nm_val (k : Nat) : (97 + (k : Int) % 5) = ((nm k).toNat : Int) := by
  rw [nm, UInt8.toNat_ofNat']
  omega
theorem conv_dn {W : World} {g : Nat} (d : Nat) (h : Blk W g 5 #[.int .u8 (120 + (d : Int) % 3)]) : (convert 34 9 (.slice (some ⟨g, 0, none⟩) 1 1)).run Tryd.prog W = .ok (.string (dn d)) W := conv_byte h (dn_val d)
theorem dn_size (d : Nat) : (dn d).size = 1 := rfl
theorem nameS_size (k : Nat) {raw : ByteArray} {B : Nat} (h : raw.size ≤ B) (h1 : 1 ≤ B) : (nameS k raw).size ≤ B := by
  unfold nameS
  split
  · exact h
  · exact h1

theorem name12_any (k : Nat) (hk : k ≤ 255) (raw : ByteArray) (w : World) :
    Calls Tryd.prog 10 #[.int .u8 k, .string raw] w fun e w' => e = .returned (.string (nameS k raw)) ∧ Below w.heap.size w w' := by
  by_cases h : k % 16 = 15
  · have h' : ((k : Int) % 16 == 15) = true := by simp; omega
    have e : nameS k raw = raw := if_pos h
    rw [e]
    clear e h
    go_enter Tryd.func10, Tryd.ntmps10
    go_wp2
    go_ret
    exact ⟨rfl, Below.refl _ _⟩
  · have h' : ((k : Int) % 16 == 15) = false := by simp; omega
    have e : nameS k raw = ⟨#[nm k]⟩ := if_neg h
    rw [e]
    clear e h
    have hcv := conv_byte (W := w.alloc (.cells #[.int .u8 (97 + (k : Int) % 5)] 5)) (Blk.new w 5 #[.int .u8 (97 + (k : Int) % 5)]) (nm_val k)
    go_enter Tryd.func10, Tryd.ntmps10
    go_wp2
    go_ret
    exact ⟨rfl, (Below.refl _ _).alloc (Nat.le_refl _) _⟩
end Go.Proofs.YtidkamnciomnmaaDoor
