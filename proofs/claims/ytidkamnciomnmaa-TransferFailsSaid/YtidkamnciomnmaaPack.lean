/-
  THE CONTRACTS OF (ferrymanlaw14.Act).Packet, ferrymanlaw14.long.
-/
import Derived.Test.YtidkamnciomnmaaThere
import Derived.Test.YtidkamnciomnmaaName
import Derived.Test.YtidkamnciomnmaaGrow
import Derived.Test.YtidkamnciomnmaaRound
namespace Go.Proofs.Ytidkamnciomnmaa
open Go.RowKit Go.Maps Go.Lib

structure Act14 where
  kind : Nat
  chan : Nat
  d : Nat
  a : Nat
  b : Nat
  raw : Pk7
  n : Nat
structure Act14.ok (x : Act14) : Prop where
  c : x.chan ≤ 255
  d : x.d ≤ 255
  a : x.a ≤ 255
  b : x.b ≤ 255
  raw : x.raw.ok
  n : x.n ≤ Bk.maxU
def encA (x : Act14) : Array Value := #[.int .u8 x.kind, .int .u8 x.chan, .int .u8 x.d, .int .u8 x.a, .int .u8 x.b, .int .i64 x.raw.chan, .int .u64 x.raw.x1, .int .u64 x.raw.x2, .string x.raw.den, .int .u64 x.raw.amt, .string x.raw.src, .string x.raw.dst, .int .u64 x.n]

def PackPost (w : World) (e : Ending) (w' : World) : Prop := ∃ p : Pk7, p.ok ∧ e = .returned (.agg (encP7 p)) ∧ Below w.heap.size w w'

theorem long_any (p : Pk7) (w : World) : Calls Try.prog 17 #[.agg (encP7 p)] w fun e w' => (∃ b : Bool, e = .returned (.bool b)) ∧ Below w.heap.size w w' := by
  obtain ⟨c, x1, x2, d, a, f, t⟩ := p
  simp only [encP7]
  have hB0 : Blk (w.alloc (.cells #[.int .i64 c, .int .u64 x1, .int .u64 x2, .string d, .int .u64 a, .string f, .string t] 37)) w.heap.size 37 #[.int .i64 c, .int .u64 x1, .int .u64 x2, .string d, .int .u64 a, .string f, .string t] := Blk.new _ _ _
  obtain ⟨c0, c1, c2, c3, c4, c5, c6⟩ := hB0.cells7
  go_enter Try.func17, Try.ntmps17
  go_wp2
  all_goals
    go_ret
    exact ⟨⟨_, rfl⟩, (Below.refl _ _).alloc (Nat.le_refl _) _⟩

theorem cell_lt' {w : World} {x : Addr} {v : Value} (h : w.cell? x = some v) : x.block < w.heap.size := by
  obtain ⟨o, ho, _⟩ := not_walk_of_cell h
  exact (Array.getElem?_eq_some_iff.1 ho).1

/-- what each slot of Packet's great region holds -/
def PhiP (g b0 : Nat) (x : Act14) (t : Nat) (W : World) (v : Value) : Prop :=
  match t with
  | 10 => v = .pointer (some ⟨g, 1, none⟩)
  | 11 => v = .int .u8 x.chan
  | 12 => v = .int .u8 ((x.chan : Int) % 4)
  | 13 => v = .int .i64 ((x.chan : Int) % 4)
  | 14 => ∃ h, v = .slice (some ⟨h, 0, none⟩) 4 4 ∧ Blk W h 9 #[.string ⟨#[97, 116, 111, 109]⟩, .string ⟨#[99, 104, 48, 47, 97, 116, 111, 109]⟩, .string ⟨#[99, 104, 49, 47, 99, 104, 48, 47, 97, 116, 111, 109]⟩, .string ⟨#[99, 104, 49, 47, 120]⟩]
  | 15 => v = .pointer (some ⟨g, 2, none⟩)
  | 16 => v = .int .u8 x.d
  | 17 => v = .int .u8 ((x.d : Int) % 4)
  | 18 => ∃ h s, v = .pointer (some ⟨h, x.d % 4, none⟩) ∧ W.cell? ⟨h, x.d % 4, none⟩ = some (.string s) ∧ s.size ≤ 12
  | 19 => ∃ s : ByteArray, v = .string s ∧ s.size ≤ 12
  | 20 => v = .pointer (some ⟨g, 12, none⟩)
  | 21 => v = .int .u64 x.n
  | 22 => v = .pointer (some ⟨g, 3, none⟩)
  | 23 => v = .int .u8 x.a
  | 24 => v = .int .u8 ((x.a : Int) % 3)
  | 25 => v = .int .u8 (97 + (x.a : Int) % 3)
  | 26 => ∃ h, v = .slice (some ⟨h, 0, none⟩) 1 1 ∧ Blk W h 5 #[.int .u8 (97 + (x.a : Int) % 3)]
  | 27 => ∃ s : ByteArray, v = .string s ∧ s.size ≤ 12
  | 28 => v = .pointer (some ⟨g, 4, none⟩)
  | 29 => v = .int .u8 x.b
  | 30 => v = .int .u8 ((x.b : Int) % 3)
  | 31 => v = .int .u8 (97 + (x.b : Int) % 3)
  | 32 => ∃ h, v = .slice (some ⟨h, 0, none⟩) 1 1 ∧ Blk W h 5 #[.int .u8 (97 + (x.b : Int) % 3)]
  | 33 => ∃ s : ByteArray, v = .string s ∧ s.size ≤ 12
  | 34 => ∃ p : Pk7, p.ok ∧ v = .agg (encP7 p)
  | 3 => ∃ h, v = .pointer (some ⟨h, 0, none⟩) ∧ b0 ≤ h ∧ Blk W h 37 #[.int .i64 0, .int .u64 0, .int .u64 0, .string ⟨#[]⟩, .int .u64 0, .string ⟨#[]⟩, .string ⟨#[]⟩]
  | _ => True
theorem phiP_stable (g b0 : Nat) (x : Act14) (t : Nat) (W W' : World) (v : Value) (h : PhiP g b0 x t W v) (hb : Below W.heap.size W W') : PhiP g b0 x t W' v := by
  unfold PhiP at h ⊢
  split at h
  all_goals first
    | exact h
    | (obtain ⟨k, e, hk⟩ := h
       exact ⟨k, e, hk.below hb hk.lt⟩)
    | (obtain ⟨k, s, e, hk, hs⟩ := h
       exact ⟨k, s, e, (hb.cell (p := ⟨k, x.d % 4, none⟩) (cell_lt' hk)).trans hk, hs⟩)
    | (obtain ⟨k, e, h0, hk⟩ := h
       exact ⟨k, e, h0, hk.below hb hk.lt⟩)

theorem cons_of {n : Nat} {l : List Value} (h : l.length = n + 1) : ∃ x r, l = x :: r ∧ r.length = n := by
  cases l with
  | nil => cases h
  | cons x r => exact ⟨x, r, rfl, by simpa using h⟩
theorem slots60 (a : Array Value) (h : a.size = 60) : ∃ y0 y1 y2 y3 y4 y5 y6 y7 y8 y9 y10 y11 y12 y13 y14 y15 y16 y17 y18 y19 y20 y21 y22 y23 y24 y25 y26 y27 y28 y29 y30 y31 y32 y33 y34 y35 y36 y37 y38 y39 y40 y41 y42 y43 y44 y45 y46 y47 y48 y49 y50 y51 y52 y53 y54 y55 y56 y57 y58 y59 : Value, a = #[y0, y1, y2, y3, y4, y5, y6, y7, y8, y9, y10, y11, y12, y13, y14, y15, y16, y17, y18, y19, y20, y21, y22, y23, y24, y25, y26, y27, y28, y29, y30, y31, y32, y33, y34, y35, y36, y37, y38, y39, y40, y41, y42, y43, y44, y45, y46, y47, y48, y49, y50, y51, y52, y53, y54, y55, y56, y57, y58, y59] := by
  rcases a with ⟨l⟩
  have h : l.length = 60 := h
  obtain ⟨y0, l0, rfl, h0⟩ := cons_of h
  obtain ⟨y1, l1, rfl, h1⟩ := cons_of h0
  obtain ⟨y2, l2, rfl, h2⟩ := cons_of h1
  obtain ⟨y3, l3, rfl, h3⟩ := cons_of h2
  obtain ⟨y4, l4, rfl, h4⟩ := cons_of h3
  obtain ⟨y5, l5, rfl, h5⟩ := cons_of h4
  obtain ⟨y6, l6, rfl, h6⟩ := cons_of h5
  obtain ⟨y7, l7, rfl, h7⟩ := cons_of h6
  obtain ⟨y8, l8, rfl, h8⟩ := cons_of h7
  obtain ⟨y9, l9, rfl, h9⟩ := cons_of h8
  obtain ⟨y10, l10, rfl, h10⟩ := cons_of h9
  obtain ⟨y11, l11, rfl, h11⟩ := cons_of h10
  obtain ⟨y12, l12, rfl, h12⟩ := cons_of h11
  obtain ⟨y13, l13, rfl, h13⟩ := cons_of h12
  obtain ⟨y14, l14, rfl, h14⟩ := cons_of h13
  obtain ⟨y15, l15, rfl, h15⟩ := cons_of h14
  obtain ⟨y16, l16, rfl, h16⟩ := cons_of h15
  obtain ⟨y17, l17, rfl, h17⟩ := cons_of h16
  obtain ⟨y18, l18, rfl, h18⟩ := cons_of h17
  obtain ⟨y19, l19, rfl, h19⟩ := cons_of h18
  obtain ⟨y20, l20, rfl, h20⟩ := cons_of h19
  obtain ⟨y21, l21, rfl, h21⟩ := cons_of h20
  obtain ⟨y22, l22, rfl, h22⟩ := cons_of h21
  obtain ⟨y23, l23, rfl, h23⟩ := cons_of h22
  obtain ⟨y24, l24, rfl, h24⟩ := cons_of h23
  obtain ⟨y25, l25, rfl, h25⟩ := cons_of h24
  obtain ⟨y26, l26, rfl, h26⟩ := cons_of h25
  obtain ⟨y27, l27, rfl, h27⟩ := cons_of h26
  obtain ⟨y28, l28, rfl, h28⟩ := cons_of h27
  obtain ⟨y29, l29, rfl, h29⟩ := cons_of h28
  obtain ⟨y30, l30, rfl, h30⟩ := cons_of h29
  obtain ⟨y31, l31, rfl, h31⟩ := cons_of h30
  obtain ⟨y32, l32, rfl, h32⟩ := cons_of h31
  obtain ⟨y33, l33, rfl, h33⟩ := cons_of h32
  obtain ⟨y34, l34, rfl, h34⟩ := cons_of h33
  obtain ⟨y35, l35, rfl, h35⟩ := cons_of h34
  obtain ⟨y36, l36, rfl, h36⟩ := cons_of h35
  obtain ⟨y37, l37, rfl, h37⟩ := cons_of h36
  obtain ⟨y38, l38, rfl, h38⟩ := cons_of h37
  obtain ⟨y39, l39, rfl, h39⟩ := cons_of h38
  obtain ⟨y40, l40, rfl, h40⟩ := cons_of h39
  obtain ⟨y41, l41, rfl, h41⟩ := cons_of h40
  obtain ⟨y42, l42, rfl, h42⟩ := cons_of h41
  obtain ⟨y43, l43, rfl, h43⟩ := cons_of h42
  obtain ⟨y44, l44, rfl, h44⟩ := cons_of h43
  obtain ⟨y45, l45, rfl, h45⟩ := cons_of h44
  obtain ⟨y46, l46, rfl, h46⟩ := cons_of h45
  obtain ⟨y47, l47, rfl, h47⟩ := cons_of h46
  obtain ⟨y48, l48, rfl, h48⟩ := cons_of h47
  obtain ⟨y49, l49, rfl, h49⟩ := cons_of h48
  obtain ⟨y50, l50, rfl, h50⟩ := cons_of h49
  obtain ⟨y51, l51, rfl, h51⟩ := cons_of h50
  obtain ⟨y52, l52, rfl, h52⟩ := cons_of h51
  obtain ⟨y53, l53, rfl, h53⟩ := cons_of h52
  obtain ⟨y54, l54, rfl, h54⟩ := cons_of h53
  obtain ⟨y55, l55, rfl, h55⟩ := cons_of h54
  obtain ⟨y56, l56, rfl, h56⟩ := cons_of h55
  obtain ⟨y57, l57, rfl, h57⟩ := cons_of h56
  obtain ⟨y58, l58, rfl, h58⟩ := cons_of h57
  obtain ⟨y59, l59, rfl, h59⟩ := cons_of h58
  obtain rfl := List.length_eq_zero_iff.1 h59
  exact ⟨y0, y1, y2, y3, y4, y5, y6, y7, y8, y9, y10, y11, y12, y13, y14, y15, y16, y17, y18, y19, y20, y21, y22, y23, y24, y25, y26, y27, y28, y29, y30, y31, y32, y33, y34, y35, y36, y37, y38, y39, y40, y41, y42, y43, y44, y45, y46, y47, y48, y49, y50, y51, y52, y53, y54, y55, y56, y57, y58, y59, rfl⟩

theorem grown_cell (W : World) (g i : Nat) (v : Value) : W.grownBy (W.setCell ⟨g, i, none⟩ v) (some g) :=
  ⟨rfl, rfl, rfl, by simp [World.setCell], fun k _ hk => Below.heap_setCell _ _ _ k (fun e => hk (by rw [e]))⟩
/-- a packet stored into a block of its own -/
theorem store_pk (ρ : Operand → Value) (W : World) (g s t : Nat) (p : Pk7) (hs : ρ (.tmp s) = .pointer (some ⟨g, 0, none⟩)) (ht : ρ (.tmp t) = .agg (encP7 p))
    (hk : Blk W g 37 #[.int .i64 0, .int .u64 0, .int .u64 0, .string ⟨#[]⟩, .int .u64 0, .string ⟨#[]⟩, .string ⟨#[]⟩]) :
    ∃ W2, (∀ (pos : String) (after : Array Edge), (execOp ρ { dst := none, op := Op.store 37 (Operand.tmp s) (Operand.tmp t), type := 0, pos := pos, after := after, guard := none }).run Try.prog W = .ok .skip W2) ∧ Blk W2 g 37 (encP7 p) ∧ W.grownBy W2 (some g) := by
  obtain ⟨c0, c1, c2, c3, c4, c5, c6⟩ := hk.cells7
  have f0 := hk.frozen 0
  have f1 := hk.frozen 1
  have f2 := hk.frozen 2
  have f3 := hk.frozen 3
  have f4 := hk.frozen 4
  have f5 := hk.frozen 5
  have f6 := hk.frozen 6
  obtain ⟨pc, p1, p2, pd, pa, pf, pt⟩ := p
  have hb : Blk (((((((W.setCell ⟨g, 0, none⟩ (.int .i64 pc)).setCell ⟨g, 1, none⟩ (.int .u64 p1)).setCell ⟨g, 2, none⟩ (.int .u64 p2)).setCell ⟨g, 3, none⟩ (.string pd)).setCell ⟨g, 4, none⟩ (.int .u64 pa)).setCell ⟨g, 5, none⟩ (.string pf)).setCell ⟨g, 6, none⟩ (.string pt)) g 37 _ :=
    ((((((hk.set_ 0 _).set_ 1 _).set_ 2 _).set_ 3 _).set_ 4 _).set_ 5 _).set_ 6 _
  refine ⟨_, ?_, hb, ?_⟩
  · intro pos after
    simp [go_sem, hs, ht, encP7, c0, f0, c1, f1, c2, f2, c3, f3, c4, f4, c5, f5, c6, f6]
  · exact grown_trans (grown_trans (grown_trans (grown_trans (grown_trans (grown_trans (grown_cell _ _ _ _) (grown_cell _ _ _ _)) (grown_cell _ _ _ _)) (grown_cell _ _ _ _)) (grown_cell _ _ _ _)) (grown_cell _ _ _ _)) (grown_cell _ _ _ _)
theorem pack_results (tm : Array Value) (W : World) (R : Nat) (p : Pk7) (ht : tm.getD 2 undef = .pointer (some ⟨R, 0, none⟩)) (hk : Blk W R 37 (encP7 p)) : (results Try.f16 tm).run Try.prog W = .ok (.agg (encP7 p)) W := by
  obtain ⟨pc, p1, p2, pd, pa, pf, pt⟩ := p
  obtain ⟨c0, c1, c2, c3, c4, c5, c6⟩ := hk.cells7
  rw [Array.getD_eq_getD_getElem?] at ht
  simp [results, Try.results16, go_sem, encP7, ht, c0, c1, c2, c3, c4, c5, c6]
theorem four_cells {W : World} {g : Nat} (h : Blk W g 9 #[.string ⟨#[97, 116, 111, 109]⟩, .string ⟨#[99, 104, 48, 47, 97, 116, 111, 109]⟩, .string ⟨#[99, 104, 49, 47, 99, 104, 48, 47, 97, 116, 111, 109]⟩, .string ⟨#[99, 104, 49, 47, 120]⟩]) (D : Nat) : ∃ s : ByteArray, W.cell? ⟨g, D % 4, none⟩ = some (.string s) ∧ s.size ≤ 12 := by
  have h4 : D % 4 < 4 := Nat.mod_lt _ (by decide)
  have hc := h.cell (D % 4)
  have h5 : D % 4 = 0 ∨ D % 4 = 1 ∨ D % 4 = 2 ∨ D % 4 = 3 := by omega
  rcases h5 with e | e | e | e <;> rw [e] at hc ⊢
  · exact ⟨_, hc, by decide⟩
  · exact ⟨_, hc, by decide⟩
  · exact ⟨_, hc, by decide⟩
  · exact ⟨_, hc, by decide⟩
theorem conv_one {W : World} {g : Nat} {z : Int} (h : Blk W g 5 #[.int .u8 z]) (h0 : 0 ≤ z) (h1 : z ≤ 255) : ∃ b : UInt8, (convert 22 9 (.slice (some ⟨g, 0, none⟩) 1 1)).run Try.prog W = .ok (.string ⟨#[b]⟩) W := by
  obtain ⟨b, rfl⟩ := byte_of z h0 h1
  refine ⟨b, run_convert_bytes_back _ 22 9 5 ⟨g, 0, none⟩ 1 [b] Try.underlying22 Try.underlying5 Try.underlying9 fun j hj => ?_⟩
  obtain rfl : j = 0 := by simpa using hj
  exact h.cell 0
theorem m4 (x : Nat) : (x : Int).tmod 4 = (x : Int) % 4 := Int.tmod_eq_emod_of_nonneg (by omega)
theorem m3 (x : Nat) : (x : Int).tmod 3 = (x : Int) % 3 := Int.tmod_eq_emod_of_nonneg (by omega)
theorem w4 (x : Nat) : IntKind.i64.wrap ((x : Int) % 4) = (x : Int) % 4 := by
  have := Int.emod_nonneg (x : Int) (by decide : (4 : Int) ≠ 0)
  have := Int.emod_lt_of_pos (x : Int) (by decide : (0 : Int) < 4)
  simp [IntKind.wrap, IntKind.bits, IntKind.signed]
  omega
theorem p3 (x : Nat) : IntKind.u8.wrap (97 + (x : Int) % 3) = 97 + (x : Int) % 3 := by
  have := Int.emod_nonneg (x : Int) (by decide : (3 : Int) ≠ 0)
  have := Int.emod_lt_of_pos (x : Int) (by decide : (0 : Int) < 3)
  simp [IntKind.wrap, IntKind.bits, IntKind.signed]
  omega
theorem i4 (x : Nat) : (x : Int) % 4 < 4 := Int.emod_lt_of_pos (x : Int) (by decide)
theorem n4 (x : Nat) : ((x : Int) % 4).toNat = x % 4 := by omega

set_option maxRecDepth 100000 in
set_option maxHeartbeats 1000000 in
theorem packet_any (x : Act14) (hx : x.ok) (w : World) : Calls Try.prog 16 #[.agg (encA x)] w (PackPost w) := by
  obtain ⟨kind, ch, D, A, B, raw, n⟩ := x
  obtain ⟨hc, hd, ha, hb, hraw, hn⟩ := hx
  simp only [encA] at *
  go_enter Try.func16, Try.ntmps16
  go_wp2
  · refine bodyPost_ret (v := .agg (encP7 raw)) (by simp [results, Try.results16, go_sem, encP7]) rfl ?_
    exact ⟨raw, hraw, rfl, ((Below.refl _ _).alloc (Nat.le_refl _) _).alloc (by simp) _⟩
  · have hm : Try.prog.follows .mixedOrders = true := by kernel_rfl
    have hA0 : Blk ((w.alloc (.cells #[.int .u8 kind, .int .u8 ch, .int .u8 D, .int .u8 A, .int .u8 B, .int .i64 raw.chan, .int .u64 raw.x1, .int .u64 raw.x2, .string raw.den, .int .u64 raw.amt, .string raw.src, .string raw.dst, .int .u64 n] 44)).alloc (.cells #[.int .i64 0, .int .u64 0, .int .u64 0, .string ⟨#[]⟩, .int .u64 0, .string ⟨#[]⟩, .string ⟨#[]⟩] 37)) w.heap.size 44
      #[.int .u8 kind, .int .u8 ch, .int .u8 D, .int .u8 A, .int .u8 B, .int .i64 raw.chan, .int .u64 raw.x1, .int .u64 raw.x2, .string raw.den, .int .u64 raw.amt, .string raw.src, .string raw.dst, .int .u64 n] := (Blk.new _ _ _).alloc _
    have hR0 : Blk ((w.alloc (.cells #[.int .u8 kind, .int .u8 ch, .int .u8 D, .int .u8 A, .int .u8 B, .int .i64 raw.chan, .int .u64 raw.x1, .int .u64 raw.x2, .string raw.den, .int .u64 raw.amt, .string raw.src, .string raw.dst, .int .u64 n] 44)).alloc (.cells #[.int .i64 0, .int .u64 0, .int .u64 0, .string ⟨#[]⟩, .int .u64 0, .string ⟨#[]⟩, .string ⟨#[]⟩] 37)) (w.heap.size + 1) 37
      #[.int .i64 0, .int .u64 0, .int .u64 0, .string ⟨#[]⟩, .int .u64 0, .string ⟨#[]⟩, .string ⟨#[]⟩] := by
      have := Blk.new (w.alloc (.cells #[.int .u8 kind, .int .u8 ch, .int .u8 D, .int .u8 A, .int .u8 B, .int .i64 raw.chan, .int .u64 raw.x1, .int .u64 raw.x2, .string raw.den, .int .u64 raw.amt, .string raw.src, .string raw.dst, .int .u64 n] 44)) 37 #[.int .i64 0, .int .u64 0, .int .u64 0, .string ⟨#[]⟩, .int .u64 0, .string ⟨#[]⟩, .string ⟨#[]⟩]
      rwa [World.size_alloc] at this
    refine wp_region_grow 26 (PhiP w.heap.size (w.heap.size + 2) ⟨kind, ch, D, A, B, raw, n⟩) hm (phiP_stable _ _ _) (by kernel_rfl) (by kernel_rfl) ?hstep ?hQ
    case hstep =>
      simp only [List.take_succ_cons, List.take_zero]
      refine List.forall_mem_cons.2 ⟨?_, List.forall_mem_cons.2 ⟨?_, List.forall_mem_cons.2 ⟨?_, List.forall_mem_cons.2 ⟨?_, List.forall_mem_cons.2 ⟨?_, List.forall_mem_cons.2 ⟨?_, List.forall_mem_cons.2 ⟨?_, List.forall_mem_cons.2 ⟨?_, List.forall_mem_cons.2 ⟨?_, List.forall_mem_cons.2 ⟨?_, List.forall_mem_cons.2 ⟨?_, List.forall_mem_cons.2 ⟨?_, List.forall_mem_cons.2 ⟨?_, List.forall_mem_cons.2 ⟨?_, List.forall_mem_cons.2 ⟨?_, List.forall_mem_cons.2 ⟨?_, List.forall_mem_cons.2 ⟨?_, List.forall_mem_cons.2 ⟨?_, List.forall_mem_cons.2 ⟨?_, List.forall_mem_cons.2 ⟨?_, List.forall_mem_cons.2 ⟨?_, List.forall_mem_cons.2 ⟨?_, List.forall_mem_cons.2 ⟨?_, List.forall_mem_cons.2 ⟨?_, List.forall_mem_cons.2 ⟨?_, List.forall_mem_cons.2 ⟨?_, fun _ h => absurd h List.not_mem_nil⟩⟩⟩⟩⟩⟩⟩⟩⟩⟩⟩⟩⟩⟩⟩⟩⟩⟩⟩⟩⟩⟩⟩⟩⟩⟩
      · intro a' W hb hL
        obtain ⟨ρ, hρ⟩ : ∃ ρ, a'.eval = ρ := ⟨_, rfl⟩
        have hcst : ∀ v, ρ (.const v) = v := fun v => by rw [← hρ]; rfl
        have hsz := hb.size
        have h1 : a'.eval (.tmp 1) = .pointer (some ⟨w.heap.size, 0, none⟩) := hL.free 1 (free_of (by kernel_rfl))
        rw [hρ] at h1
        exact .val ⟨.pointer (some ⟨w.heap.size, 1, none⟩), W, by rw [hρ]; simp [go_sem, hcst, h1], Below.refl _ _, fun t ht => by cases ht; rfl⟩
      · intro a' W hb hL
        obtain ⟨ρ, hρ⟩ : ∃ ρ, a'.eval = ρ := ⟨_, rfl⟩
        have hcst : ∀ v, ρ (.const v) = v := fun v => by rw [← hρ]; rfl
        have hsz := hb.size
        have h10 := hL.get 10 (by simp [Op.operands]) (by kernel_rfl)
        rw [hρ] at h10
        simp only [PhiP] at h10
        have hA := hA0.below hb hA0.lt
        have c := hA.cell 1
        simp only [List.getElem?_toArray, List.getElem?_cons_zero, List.getElem?_cons_succ] at c
        exact .val ⟨.int .u8 ch, W, by rw [hρ]; simp [go_sem, hcst, h10, c], Below.refl _ _, fun t ht => by cases ht; rfl⟩
      · intro a' W hb hL
        obtain ⟨ρ, hρ⟩ : ∃ ρ, a'.eval = ρ := ⟨_, rfl⟩
        have hcst : ∀ v, ρ (.const v) = v := fun v => by rw [← hρ]; rfl
        have hsz := hb.size
        have h11 := hL.get 11 (by simp [Op.operands]) (by kernel_rfl)
        rw [hρ] at h11
        simp only [PhiP] at h11
        exact .val ⟨.int .u8 ((ch : Int) % 4), W, by rw [hρ]; simp [go_sem, hcst, h11, m4 ch], Below.refl _ _, fun t ht => by cases ht; rfl⟩
      · intro a' W hb hL
        obtain ⟨ρ, hρ⟩ : ∃ ρ, a'.eval = ρ := ⟨_, rfl⟩
        have hcst : ∀ v, ρ (.const v) = v := fun v => by rw [← hρ]; rfl
        have hsz := hb.size
        have h12 := hL.get 12 (by simp [Op.operands]) (by kernel_rfl)
        rw [hρ] at h12
        simp only [PhiP] at h12
        exact .val ⟨.int .i64 ((ch : Int) % 4), W, by rw [hρ]; simp [go_sem, hcst, h12, w4 ch], Below.refl _ _, fun t ht => by cases ht; rfl⟩
      · intro a' W hb hL
        obtain ⟨ρ, hρ⟩ : ∃ ρ, a'.eval = ρ := ⟨_, rfl⟩
        have hcst : ∀ v, ρ (.const v) = v := fun v => by rw [← hρ]; rfl
        have hsz := hb.size
        exact .val ⟨.slice (some ⟨W.heap.size, 0, none⟩) 4 4, W.alloc (.cells #[.string ⟨#[97, 116, 111, 109]⟩, .string ⟨#[99, 104, 48, 47, 97, 116, 111, 109]⟩, .string ⟨#[99, 104, 49, 47, 99, 104, 48, 47, 97, 116, 111, 109]⟩, .string ⟨#[99, 104, 49, 47, 120]⟩] 9), by rw [hρ]; simp [go_sem, hcst], (Below.refl _ _).alloc (Nat.le_refl _) _, fun t ht => by cases ht; exact ⟨_, rfl, Blk.new _ _ _⟩⟩
      · intro a' W hb hL
        obtain ⟨ρ, hρ⟩ : ∃ ρ, a'.eval = ρ := ⟨_, rfl⟩
        have hcst : ∀ v, ρ (.const v) = v := fun v => by rw [← hρ]; rfl
        have hsz := hb.size
        have h1 : a'.eval (.tmp 1) = .pointer (some ⟨w.heap.size, 0, none⟩) := hL.free 1 (free_of (by kernel_rfl))
        rw [hρ] at h1
        exact .val ⟨.pointer (some ⟨w.heap.size, 2, none⟩), W, by rw [hρ]; simp [go_sem, hcst, h1], Below.refl _ _, fun t ht => by cases ht; rfl⟩
      · intro a' W hb hL
        obtain ⟨ρ, hρ⟩ : ∃ ρ, a'.eval = ρ := ⟨_, rfl⟩
        have hcst : ∀ v, ρ (.const v) = v := fun v => by rw [← hρ]; rfl
        have hsz := hb.size
        have h15 := hL.get 15 (by simp [Op.operands]) (by kernel_rfl)
        rw [hρ] at h15
        simp only [PhiP] at h15
        have hA := hA0.below hb hA0.lt
        have c := hA.cell 2
        simp only [List.getElem?_toArray, List.getElem?_cons_zero, List.getElem?_cons_succ] at c
        exact .val ⟨.int .u8 D, W, by rw [hρ]; simp [go_sem, hcst, h15, c], Below.refl _ _, fun t ht => by cases ht; rfl⟩
      · intro a' W hb hL
        obtain ⟨ρ, hρ⟩ : ∃ ρ, a'.eval = ρ := ⟨_, rfl⟩
        have hcst : ∀ v, ρ (.const v) = v := fun v => by rw [← hρ]; rfl
        have hsz := hb.size
        have h16 := hL.get 16 (by simp [Op.operands]) (by kernel_rfl)
        rw [hρ] at h16
        simp only [PhiP] at h16
        exact .val ⟨.int .u8 ((D : Int) % 4), W, by rw [hρ]; simp [go_sem, hcst, h16, m4 D], Below.refl _ _, fun t ht => by cases ht; rfl⟩
      · intro a' W hb hL
        obtain ⟨ρ, hρ⟩ : ∃ ρ, a'.eval = ρ := ⟨_, rfl⟩
        have hcst : ∀ v, ρ (.const v) = v := fun v => by rw [← hρ]; rfl
        have h14 := hL.get 14 (by simp [Op.operands]) (by kernel_rfl)
        rw [hρ] at h14
        have h17 := hL.get 17 (by simp [Op.operands]) (by kernel_rfl)
        rw [hρ] at h17
        simp only [PhiP] at h14 h17
        obtain ⟨g, h14, hk⟩ := h14
        obtain ⟨s, hs, hsl⟩ := four_cells hk D
        exact .val ⟨.pointer (some ⟨g, D % 4, none⟩), W, by rw [hρ]; simp [go_sem, hcst, h14, h17, i4 D, n4 D]; intro h; exact absurd h (by omega), Below.refl _ _, fun t ht => by cases ht; exact ⟨g, s, rfl, hs, hsl⟩⟩
      · intro a' W hb hL
        obtain ⟨ρ, hρ⟩ : ∃ ρ, a'.eval = ρ := ⟨_, rfl⟩
        have hcst : ∀ v, ρ (.const v) = v := fun v => by rw [← hρ]; rfl
        have hsz := hb.size
        have h18 := hL.get 18 (by simp [Op.operands]) (by kernel_rfl)
        rw [hρ] at h18
        simp only [PhiP] at h18
        obtain ⟨g, s, h18, hc18, hs18⟩ := h18
        exact .val ⟨.string s, W, by rw [hρ]; simp [go_sem, hcst, h18, hc18], Below.refl _ _, fun t ht => by cases ht; exact ⟨s, rfl, hs18⟩⟩
      · intro a' W hb hL
        obtain ⟨ρ, hρ⟩ : ∃ ρ, a'.eval = ρ := ⟨_, rfl⟩
        have hcst : ∀ v, ρ (.const v) = v := fun v => by rw [← hρ]; rfl
        have hsz := hb.size
        have h1 : a'.eval (.tmp 1) = .pointer (some ⟨w.heap.size, 0, none⟩) := hL.free 1 (free_of (by kernel_rfl))
        rw [hρ] at h1
        exact .val ⟨.pointer (some ⟨w.heap.size, 12, none⟩), W, by rw [hρ]; simp [go_sem, hcst, h1], Below.refl _ _, fun t ht => by cases ht; rfl⟩
      · intro a' W hb hL
        obtain ⟨ρ, hρ⟩ : ∃ ρ, a'.eval = ρ := ⟨_, rfl⟩
        have hcst : ∀ v, ρ (.const v) = v := fun v => by rw [← hρ]; rfl
        have hsz := hb.size
        have h20 := hL.get 20 (by simp [Op.operands]) (by kernel_rfl)
        rw [hρ] at h20
        simp only [PhiP] at h20
        have hA := hA0.below hb hA0.lt
        have c := hA.cell 12
        simp only [List.getElem?_toArray, List.getElem?_cons_zero, List.getElem?_cons_succ] at c
        exact .val ⟨.int .u64 n, W, by rw [hρ]; simp [go_sem, hcst, h20, c], Below.refl _ _, fun t ht => by cases ht; rfl⟩
      · intro a' W hb hL
        obtain ⟨ρ, hρ⟩ : ∃ ρ, a'.eval = ρ := ⟨_, rfl⟩
        have hcst : ∀ v, ρ (.const v) = v := fun v => by rw [← hρ]; rfl
        have hsz := hb.size
        have h1 : a'.eval (.tmp 1) = .pointer (some ⟨w.heap.size, 0, none⟩) := hL.free 1 (free_of (by kernel_rfl))
        rw [hρ] at h1
        exact .val ⟨.pointer (some ⟨w.heap.size, 3, none⟩), W, by rw [hρ]; simp [go_sem, hcst, h1], Below.refl _ _, fun t ht => by cases ht; rfl⟩
      · intro a' W hb hL
        obtain ⟨ρ, hρ⟩ : ∃ ρ, a'.eval = ρ := ⟨_, rfl⟩
        have hcst : ∀ v, ρ (.const v) = v := fun v => by rw [← hρ]; rfl
        have hsz := hb.size
        have h22 := hL.get 22 (by simp [Op.operands]) (by kernel_rfl)
        rw [hρ] at h22
        simp only [PhiP] at h22
        have hA := hA0.below hb hA0.lt
        have c := hA.cell 3
        simp only [List.getElem?_toArray, List.getElem?_cons_zero, List.getElem?_cons_succ] at c
        exact .val ⟨.int .u8 A, W, by rw [hρ]; simp [go_sem, hcst, h22, c], Below.refl _ _, fun t ht => by cases ht; rfl⟩
      · intro a' W hb hL
        obtain ⟨ρ, hρ⟩ : ∃ ρ, a'.eval = ρ := ⟨_, rfl⟩
        have hcst : ∀ v, ρ (.const v) = v := fun v => by rw [← hρ]; rfl
        have hsz := hb.size
        have h23 := hL.get 23 (by simp [Op.operands]) (by kernel_rfl)
        rw [hρ] at h23
        simp only [PhiP] at h23
        exact .val ⟨.int .u8 ((A : Int) % 3), W, by rw [hρ]; simp [go_sem, hcst, h23, m3 A], Below.refl _ _, fun t ht => by cases ht; rfl⟩
      · intro a' W hb hL
        obtain ⟨ρ, hρ⟩ : ∃ ρ, a'.eval = ρ := ⟨_, rfl⟩
        have hcst : ∀ v, ρ (.const v) = v := fun v => by rw [← hρ]; rfl
        have hsz := hb.size
        have h24 := hL.get 24 (by simp [Op.operands]) (by kernel_rfl)
        rw [hρ] at h24
        simp only [PhiP] at h24
        exact .val ⟨.int .u8 (97 + (A : Int) % 3), W, by rw [hρ]; simp [go_sem, hcst, h24, p3 A], Below.refl _ _, fun t ht => by cases ht; rfl⟩
      · intro a' W hb hL
        obtain ⟨ρ, hρ⟩ : ∃ ρ, a'.eval = ρ := ⟨_, rfl⟩
        have hcst : ∀ v, ρ (.const v) = v := fun v => by rw [← hρ]; rfl
        have hsz := hb.size
        have h25 := hL.get 25 (by simp [Op.operands]) (by kernel_rfl)
        rw [hρ] at h25
        simp only [PhiP] at h25
        exact .val ⟨.slice (some ⟨W.heap.size, 0, none⟩) 1 1, W.alloc (.cells #[.int .u8 (97 + (A : Int) % 3)] 5), by rw [hρ]; simp [go_sem, hcst, h25], (Below.refl _ _).alloc (Nat.le_refl _) _, fun t ht => by cases ht; exact ⟨_, rfl, Blk.new _ _ _⟩⟩
      · intro a' W hb hL
        obtain ⟨ρ, hρ⟩ : ∃ ρ, a'.eval = ρ := ⟨_, rfl⟩
        have hcst : ∀ v, ρ (.const v) = v := fun v => by rw [← hρ]; rfl
        have hsz := hb.size
        have h26 := hL.get 26 (by simp [Op.operands]) (by kernel_rfl)
        rw [hρ] at h26
        simp only [PhiP] at h26
        obtain ⟨g, h26, hk⟩ := h26
        obtain ⟨b, hcv⟩ := conv_one hk (by omega) (by omega)
        exact .val ⟨.string ⟨#[b]⟩, W, by rw [hρ]; simp [go_sem, hcst, h26, hcv], Below.refl _ _, fun t ht => by cases ht; exact ⟨_, rfl, by rw [size1]; decide⟩⟩
      · intro a' W hb hL
        obtain ⟨ρ, hρ⟩ : ∃ ρ, a'.eval = ρ := ⟨_, rfl⟩
        have hcst : ∀ v, ρ (.const v) = v := fun v => by rw [← hρ]; rfl
        have hsz := hb.size
        have h1 : a'.eval (.tmp 1) = .pointer (some ⟨w.heap.size, 0, none⟩) := hL.free 1 (free_of (by kernel_rfl))
        rw [hρ] at h1
        exact .val ⟨.pointer (some ⟨w.heap.size, 4, none⟩), W, by rw [hρ]; simp [go_sem, hcst, h1], Below.refl _ _, fun t ht => by cases ht; rfl⟩
      · intro a' W hb hL
        obtain ⟨ρ, hρ⟩ : ∃ ρ, a'.eval = ρ := ⟨_, rfl⟩
        have hcst : ∀ v, ρ (.const v) = v := fun v => by rw [← hρ]; rfl
        have hsz := hb.size
        have h28 := hL.get 28 (by simp [Op.operands]) (by kernel_rfl)
        rw [hρ] at h28
        simp only [PhiP] at h28
        have hA := hA0.below hb hA0.lt
        have c := hA.cell 4
        simp only [List.getElem?_toArray, List.getElem?_cons_zero, List.getElem?_cons_succ] at c
        exact .val ⟨.int .u8 B, W, by rw [hρ]; simp [go_sem, hcst, h28, c], Below.refl _ _, fun t ht => by cases ht; rfl⟩
      · intro a' W hb hL
        obtain ⟨ρ, hρ⟩ : ∃ ρ, a'.eval = ρ := ⟨_, rfl⟩
        have hcst : ∀ v, ρ (.const v) = v := fun v => by rw [← hρ]; rfl
        have hsz := hb.size
        have h29 := hL.get 29 (by simp [Op.operands]) (by kernel_rfl)
        rw [hρ] at h29
        simp only [PhiP] at h29
        exact .val ⟨.int .u8 ((B : Int) % 3), W, by rw [hρ]; simp [go_sem, hcst, h29, m3 B], Below.refl _ _, fun t ht => by cases ht; rfl⟩
      · intro a' W hb hL
        obtain ⟨ρ, hρ⟩ : ∃ ρ, a'.eval = ρ := ⟨_, rfl⟩
        have hcst : ∀ v, ρ (.const v) = v := fun v => by rw [← hρ]; rfl
        have hsz := hb.size
        have h30 := hL.get 30 (by simp [Op.operands]) (by kernel_rfl)
        rw [hρ] at h30
        simp only [PhiP] at h30
        exact .val ⟨.int .u8 (97 + (B : Int) % 3), W, by rw [hρ]; simp [go_sem, hcst, h30, p3 B], Below.refl _ _, fun t ht => by cases ht; rfl⟩
      · intro a' W hb hL
        obtain ⟨ρ, hρ⟩ : ∃ ρ, a'.eval = ρ := ⟨_, rfl⟩
        have hcst : ∀ v, ρ (.const v) = v := fun v => by rw [← hρ]; rfl
        have hsz := hb.size
        have h31 := hL.get 31 (by simp [Op.operands]) (by kernel_rfl)
        rw [hρ] at h31
        simp only [PhiP] at h31
        exact .val ⟨.slice (some ⟨W.heap.size, 0, none⟩) 1 1, W.alloc (.cells #[.int .u8 (97 + (B : Int) % 3)] 5), by rw [hρ]; simp [go_sem, hcst, h31], (Below.refl _ _).alloc (Nat.le_refl _) _, fun t ht => by cases ht; exact ⟨_, rfl, Blk.new _ _ _⟩⟩
      · intro a' W hb hL
        obtain ⟨ρ, hρ⟩ : ∃ ρ, a'.eval = ρ := ⟨_, rfl⟩
        have hcst : ∀ v, ρ (.const v) = v := fun v => by rw [← hρ]; rfl
        have hsz := hb.size
        have h32 := hL.get 32 (by simp [Op.operands]) (by kernel_rfl)
        rw [hρ] at h32
        simp only [PhiP] at h32
        obtain ⟨g, h32, hk⟩ := h32
        obtain ⟨b, hcv⟩ := conv_one hk (by omega) (by omega)
        exact .val ⟨.string ⟨#[b]⟩, W, by rw [hρ]; simp [go_sem, hcst, h32, hcv], Below.refl _ _, fun t ht => by cases ht; exact ⟨_, rfl, by rw [size1]; decide⟩⟩
      · intro a' W hb hL
        obtain ⟨ρ, hρ⟩ : ∃ ρ, a'.eval = ρ := ⟨_, rfl⟩
        have hcst : ∀ v, ρ (.const v) = v := fun v => by rw [← hρ]; rfl
        have hsz := hb.size
        have h13 := hL.get 13 (by simp [Op.operands]) (by kernel_rfl)
        rw [hρ] at h13
        simp only [PhiP] at h13
        have h19 := hL.get 19 (by simp [Op.operands]) (by kernel_rfl)
        rw [hρ] at h19
        simp only [PhiP] at h19
        have h21 := hL.get 21 (by simp [Op.operands]) (by kernel_rfl)
        rw [hρ] at h21
        simp only [PhiP] at h21
        have h27 := hL.get 27 (by simp [Op.operands]) (by kernel_rfl)
        rw [hρ] at h27
        simp only [PhiP] at h27
        have h33 := hL.get 33 (by simp [Op.operands]) (by kernel_rfl)
        rw [hρ] at h33
        simp only [PhiP] at h33
        obtain ⟨s1, h19, hs1⟩ := h19
        obtain ⟨s2, h27, hs2⟩ := h27
        obtain ⟨s3, h33, hs3⟩ := h33
        exact .val ⟨.agg (encP7 ⟨(ch : Int) % 4, 0, 0, s1, n, s2, s3⟩), W, by rw [hρ]; simp [go_sem, hcst, h13, h19, h21, h27, h33, encP7], Below.refl _ _, fun t ht => by cases ht; exact ⟨_, ⟨by simp only [maxLen]; omega, by simp only [maxLen]; omega, by simp only [maxLen]; omega, hn⟩, rfl⟩⟩
      · intro a' W hb hL
        obtain ⟨ρ, hρ⟩ : ∃ ρ, a'.eval = ρ := ⟨_, rfl⟩
        have hcst : ∀ v, ρ (.const v) = v := fun v => by rw [← hρ]; rfl
        have hsz := hb.size
        exact .val ⟨.pointer (some ⟨W.heap.size, 0, none⟩), W.alloc (.cells #[.int .i64 0, .int .u64 0, .int .u64 0, .string ⟨#[]⟩, .int .u64 0, .string ⟨#[]⟩, .string ⟨#[]⟩] 37), by rw [hρ]; simp [go_sem, hcst], (Below.refl _ _).alloc (Nat.le_refl _) _, fun t ht => by cases ht; exact ⟨_, rfl, by simpa using hsz, Blk.new _ _ _⟩⟩
    case hQ =>
      rintro ⟨tm, df⟩ W hb hf
      have hsz := hb.size
      obtain rfl : df = [] := hf.defers
      obtain ⟨y0, y1, y2, y3, y4, y5, y6, y7, y8, y9, y10, y11, y12, y13, y14, y15, y16, y17, y18, y19, y20, y21, y22, y23, y24, y25, y26, y27, y28, y29, y30, y31, y32, y33, y34, y35, y36, y37, y38, y39, y40, y41, y42, y43, y44, y45, y46, y47, y48, y49, y50, y51, y52, y53, y54, y55, y56, y57, y58, y59, rfl⟩ := slots60 tm hf.size
      obtain rfl : y1 = .pointer (some ⟨w.heap.size, 0, none⟩) := hf.free 1 (free_of (by kernel_rfl))
      obtain rfl : y2 = .pointer (some ⟨w.heap.size + 1, 0, none⟩) := hf.free 2 (free_of (by kernel_rfl))
      obtain ⟨g, e3, hg, hk⟩ : PhiP w.heap.size (w.heap.size + 2) ⟨kind, ch, D, A, B, raw, n⟩ 3 W y3 := hf.get 3 (by kernel_rfl)
      obtain ⟨p, hp, e34⟩ : PhiP w.heap.size (w.heap.size + 2) ⟨kind, ch, D, A, B, raw, n⟩ 34 W y34 := hf.get 34 (by kernel_rfl)
      subst e3 e34
      clear hf
      simp only [List.drop_succ_cons, List.drop_zero]
      refine wpList_plain rfl fun K' hK' => ?_
      obtain ⟨W2, hrun, hk2, hg2⟩ := store_pk (Act.eval { tmps := #[y0, .pointer (some ⟨w.heap.size, 0, none⟩), .pointer (some ⟨w.heap.size + 1, 0, none⟩), .pointer (some ⟨g, 0, none⟩), y4, y5, y6, y7, y8, y9, y10, y11, y12, y13, y14, y15, y16, y17, y18, y19, y20, y21, y22, y23, y24, y25, y26, y27, y28, y29, y30, y31, y32, y33, .agg (encP7 p), y35, y36, y37, y38, y39, y40, y41, y42, y43, y44, y45, y46, y47, y48, y49, y50, y51, y52, y53, y54, y55, y56, y57, y58, y59], defers := [] }) W g 3 34 p rfl rfl hk
      unfold Oper.wp
      rw [hrun]
      refine hK' _ _ ?_
      clear hK' K' hrun
      have hA2 : Blk W2 w.heap.size 44 _ := (hA0.below hb hA0.lt).other hg2 (by omega)
      have hR2 : Blk W2 (w.heap.size + 1) 37 #[.int .i64 0, .int .u64 0, .int .u64 0, .string ⟨#[]⟩, .int .u64 0, .string ⟨#[]⟩, .string ⟨#[]⟩] := (hR0.below hb hR0.lt).other hg2 (by omega)
      have hb2 : Below w.heap.size w W2 := by
        have h1 : Below w.heap.size w W := (((Below.refl _ _).alloc (Nat.le_refl _) _).alloc (by simp) _).trans (hb.mono (by simp; omega))
        exact below_of_grown h1 hg2 (by omega)
      clear hk hA0 hR0 hb hg2
      have a2 := hA2.cell 2
      have a8 := hA2.cell 8
      have a10 := hA2.cell 10
      have a11 := hA2.cell 11
      simp only [List.getElem?_toArray, List.getElem?_cons_zero, List.getElem?_cons_succ] at a2 a8 a10 a11
      obtain ⟨pc, p1, p2, pd, pa, pf, pt⟩ := p
      obtain ⟨qd, qf, qt, qa⟩ := hp
      have he : (D : Int) % 16 = 14 ∨ (D : Int) % 16 = 13 ∨ (D : Int) % 16 = 12 ∨ ((D : Int) % 16 ≠ 14 ∧ (D : Int) % 16 ≠ 13 ∧ (D : Int) % 16 ≠ 12) := by omega
      simp only [encP7] at *
      obtain ⟨c0, c1, c2, c3, c4, c5, c6⟩ := hk2.cells7
      obtain ⟨r0, r1, r2, r3, r4, r5, r6⟩ := hR2.cells7
      have f3 := hk2.frozen 3
      have f5 := hk2.frozen 5
      have f6 := hk2.frozen 6
      have s0 := hR2.frozen 0
      have s1 := hR2.frozen 1
      have s2 := hR2.frozen 2
      have s3 := hR2.frozen 3
      have s4 := hR2.frozen 4
      have s5 := hR2.frozen 5
      have s6 := hR2.frozen 6
      rcases he with he | he | he | ⟨he1, he2, he3⟩
      · go_wp2
        refine bodyPost_ret (v := .agg (encP7 ⟨pc, p1, p2, pd, pa, raw.src, pt⟩)) (pack_results _ _ (w.heap.size + 1) _ rfl (Blk.set_ (Blk.set_ (Blk.set_ (Blk.set_ (Blk.set_ (Blk.set_ (Blk.set_ (hR2.far (p := ⟨g, 5, none⟩) (show w.heap.size + 1 ≠ g by omega) _) 0 _) 1 _) 2 _) 3 _) 4 _) 5 _) 6 _)) rfl ?_
        exact ⟨⟨pc, p1, p2, pd, pa, raw.src, pt⟩, ⟨qd, hraw.f, qt, qa⟩, rfl, (Below.setCell (p := ⟨w.heap.size + 1, 6, none⟩) (Below.setCell (p := ⟨w.heap.size + 1, 5, none⟩) (Below.setCell (p := ⟨w.heap.size + 1, 4, none⟩) (Below.setCell (p := ⟨w.heap.size + 1, 3, none⟩) (Below.setCell (p := ⟨w.heap.size + 1, 2, none⟩) (Below.setCell (p := ⟨w.heap.size + 1, 1, none⟩) (Below.setCell (p := ⟨w.heap.size + 1, 0, none⟩) (hb2.setCell (p := ⟨g, 5, none⟩) (show w.heap.size ≤ g by omega) _) (Nat.le_succ _) _) (Nat.le_succ _) _) (Nat.le_succ _) _) (Nat.le_succ _) _) (Nat.le_succ _) _) (Nat.le_succ _) _) (Nat.le_succ _) _)⟩
      · go_wp2
        refine bodyPost_ret (v := .agg (encP7 ⟨pc, p1, p2, pd, pa, pf, raw.dst⟩)) (pack_results _ _ (w.heap.size + 1) _ rfl (Blk.set_ (Blk.set_ (Blk.set_ (Blk.set_ (Blk.set_ (Blk.set_ (Blk.set_ (hR2.far (p := ⟨g, 6, none⟩) (show w.heap.size + 1 ≠ g by omega) _) 0 _) 1 _) 2 _) 3 _) 4 _) 5 _) 6 _)) rfl ?_
        exact ⟨⟨pc, p1, p2, pd, pa, pf, raw.dst⟩, ⟨qd, qf, hraw.t, qa⟩, rfl, (Below.setCell (p := ⟨w.heap.size + 1, 6, none⟩) (Below.setCell (p := ⟨w.heap.size + 1, 5, none⟩) (Below.setCell (p := ⟨w.heap.size + 1, 4, none⟩) (Below.setCell (p := ⟨w.heap.size + 1, 3, none⟩) (Below.setCell (p := ⟨w.heap.size + 1, 2, none⟩) (Below.setCell (p := ⟨w.heap.size + 1, 1, none⟩) (Below.setCell (p := ⟨w.heap.size + 1, 0, none⟩) (hb2.setCell (p := ⟨g, 6, none⟩) (show w.heap.size ≤ g by omega) _) (Nat.le_succ _) _) (Nat.le_succ _) _) (Nat.le_succ _) _) (Nat.le_succ _) _) (Nat.le_succ _) _) (Nat.le_succ _) _) (Nat.le_succ _) _)⟩
      · go_wp2
        refine bodyPost_ret (v := .agg (encP7 ⟨pc, p1, p2, raw.den, pa, pf, pt⟩)) (pack_results _ _ (w.heap.size + 1) _ rfl (Blk.set_ (Blk.set_ (Blk.set_ (Blk.set_ (Blk.set_ (Blk.set_ (Blk.set_ (hR2.far (p := ⟨g, 3, none⟩) (show w.heap.size + 1 ≠ g by omega) _) 0 _) 1 _) 2 _) 3 _) 4 _) 5 _) 6 _)) rfl ?_
        exact ⟨⟨pc, p1, p2, raw.den, pa, pf, pt⟩, ⟨hraw.d, qf, qt, qa⟩, rfl, (Below.setCell (p := ⟨w.heap.size + 1, 6, none⟩) (Below.setCell (p := ⟨w.heap.size + 1, 5, none⟩) (Below.setCell (p := ⟨w.heap.size + 1, 4, none⟩) (Below.setCell (p := ⟨w.heap.size + 1, 3, none⟩) (Below.setCell (p := ⟨w.heap.size + 1, 2, none⟩) (Below.setCell (p := ⟨w.heap.size + 1, 1, none⟩) (Below.setCell (p := ⟨w.heap.size + 1, 0, none⟩) (hb2.setCell (p := ⟨g, 3, none⟩) (show w.heap.size ≤ g by omega) _) (Nat.le_succ _) _) (Nat.le_succ _) _) (Nat.le_succ _) _) (Nat.le_succ _) _) (Nat.le_succ _) _) (Nat.le_succ _) _) (Nat.le_succ _) _)⟩
      · go_wp2
        refine bodyPost_ret (v := .agg (encP7 ⟨pc, p1, p2, pd, pa, pf, pt⟩)) (pack_results _ _ (w.heap.size + 1) _ rfl (Blk.set_ (Blk.set_ (Blk.set_ (Blk.set_ (Blk.set_ (Blk.set_ (Blk.set_ hR2 0 _) 1 _) 2 _) 3 _) 4 _) 5 _) 6 _)) rfl ?_
        exact ⟨⟨pc, p1, p2, pd, pa, pf, pt⟩, ⟨qd, qf, qt, qa⟩, rfl, (Below.setCell (p := ⟨w.heap.size + 1, 6, none⟩) (Below.setCell (p := ⟨w.heap.size + 1, 5, none⟩) (Below.setCell (p := ⟨w.heap.size + 1, 4, none⟩) (Below.setCell (p := ⟨w.heap.size + 1, 3, none⟩) (Below.setCell (p := ⟨w.heap.size + 1, 2, none⟩) (Below.setCell (p := ⟨w.heap.size + 1, 1, none⟩) (Below.setCell (p := ⟨w.heap.size + 1, 0, none⟩) hb2 (Nat.le_succ _) _) (Nat.le_succ _) _) (Nat.le_succ _) _) (Nat.le_succ _) _) (Nat.le_succ _) _) (Nat.le_succ _) _) (Nat.le_succ _) _)⟩
end Go.Proofs.Ytidkamnciomnmaa
