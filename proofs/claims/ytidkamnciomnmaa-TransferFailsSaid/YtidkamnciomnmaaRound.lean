/-
  THE WALK OF ferrymanlaw14.TransferRound: at every channel, every list of bytes, every amount it returns true, and nothing that lay has turned.
-/
import Derived.Test.YtidkamnciomnmaaAwake
import Derived.Test.YtidkamnciomnmaaName
import Derived.Test.YtidkamnciomnmaaAll
namespace Go.Proofs.Ytidkamnciomnmaa
open Go.RowKit Go.Maps Go.Lib

theorem BytesIn.below {w w' : World} {a : Option Addr} {len : Nat} (h : BytesIn w a len) (hb : Below w.heap.size w w') : BytesIn w' a len := fun i hi => by
  obtain ⟨x, e, hx, z, hz, hc⟩ := h i hi
  exact ⟨x, e, Nat.lt_of_lt_of_le hx hb.size, z, hz, (hb.cell (p := x.add i) (by rw [add_block]; exact hx)).trans hc⟩
theorem CoinsAt.len {w : World} {base : Nat} {v : Value} {l : Bk.M} (h : CoinsAt w base v l) : ∃ p cap, v = .slice p l.length cap := by
  rcases h with ⟨rfl, rfl⟩ | ⟨g, cap, _, _, _, h4, _⟩
  · exact ⟨none, 0, rfl⟩
  · exact ⟨_, cap, h4⟩

theorem Blk.cells7 {w : World} {g : Nat} {t : TypeId} {v0 v1 v2 v3 v4 v5 v6 : Value} (h : Blk w g t #[v0, v1, v2, v3, v4, v5, v6]) : w.cell? ⟨g, 0, none⟩ = some v0 ∧ w.cell? ⟨g, 1, none⟩ = some v1 ∧ w.cell? ⟨g, 2, none⟩ = some v2 ∧ w.cell? ⟨g, 3, none⟩ = some v3 ∧
    w.cell? ⟨g, 4, none⟩ = some v4 ∧ w.cell? ⟨g, 5, none⟩ = some v5 ∧ w.cell? ⟨g, 6, none⟩ = some v6 := ⟨h.cell 0, h.cell 1, h.cell 2, h.cell 3, h.cell 4, h.cell 5, h.cell 6⟩
theorem one_le (b : UInt8) : (⟨#[b]⟩ : ByteArray).size ≤ maxLen := by rw [size1]; decide

set_option maxRecDepth 100000 in
set_option maxHeartbeats 1000000 in
theorem round_walk (a0 : Nat) (ha0 : a0 ≤ 255) (a : Option Addr) (len cap : Nat) (n : Nat) (hn : n ≤ Bk.maxU) (w : World) (h : BytesIn w a len) (hl : len ≤ maxLen) :
    Calls Try.prog 3 #[.int .u8 a0, .slice a len cap, .int .u64 n] w fun e w' => e = .returned (.bool true) ∧ Below w.heap.size w w' := by
  obtain ⟨k, hk⟩ : ∃ k : Nat, (a0 : Int) % 4 = k := ⟨a0 % 4, by omega⟩
  have hk4 : k < 4 := by omega
  unfold Bk.maxU at hn
  have Hh := Lib.hid h
  have Hl := Lib.hid hl
  clear h hl
  go_enter Try.func3, Try.ntmps3
  go_wp2_with fail
  refine (awake14_any _).mono ?_
  rintro e W1 ⟨rfl, hb1⟩
  go_wp2_with fail
  refine (name13_any _ _ _ _ (Hh.out.below hb1) Hl.out).mono ?_
  rintro e W2 ⟨⟨s, rfl, hs⟩, hb2⟩
  have hb02 := hb1.trans (hb2.mono hb1.size)
  have hsl : s.size ≤ maxLen := by simp only [maxLen]; omega
  clear hb1 hb2
  go_wp2_with fail
  refine (there_any k s W2 hsl).mono ?_
  rintro e W3 ⟨he, hb3⟩
  subst he
  have hb03 := hb02.trans (hb3.mono hb02.size)
  clear hb02 hb3
  have Hx := Lib.hid (fun (h1 : (Bk.there k s.data.toList).2 = 0) (h2 : Bk.backB k s.data.toList = false) (h3 : n ≠ 0) => Bk.round_x hk4 h1 h2 h3 (by unfold Bk.maxU; omega))
  have Hy := Lib.hid (fun (h1 : (Bk.there k s.data.toList).2 = 0) (h2 : Bk.backB k s.data.toList = false) (h3 : n ≠ 0) => Bk.round_y hk4 h1 h2 h3 (by unfold Bk.maxU; omega))
  have Hz := Lib.hid (fun (h1 : (Bk.there k s.data.toList).2 = 0) (h2 : Bk.backB k s.data.toList = false) (h3 : n ≠ 0) => Bk.round_back hk4 h1 h2 h3 (by unfold Bk.maxU; omega))
  have hle := there_le k s.data.toList
  generalize Bk.there k s.data.toList = th at *
  obtain ⟨T, cd⟩ := th
  simp only at *
  go_wp2_with fail
  refine (back_any k hk4 s W3).mono ?_
  rintro e W4 ⟨rfl, hb4⟩
  have hb04 := hb03.trans (hb4.mono hb03.size)
  clear hb03 hb4
  generalize Bk.backB k s.data.toList = bb at *
  by_cases hcd : cd = 0
  · subst hcd
    cases bb with
    | true =>
      go_wp2
      go_ret
      exact ⟨rfl, hb04⟩
    | false =>
      by_cases hn0 : n = 0
      · subst hn0
        go_wp2
        go_ret
        exact ⟨rfl, hb04⟩
      · have hx := Hx.out rfl rfl hn0
        have hy := Hy.out rfl rfl hn0
        have hz := Hz.out rfl rfl hn0
        clear Hx Hy Hz
        have hn0' : ((n : Int) == 0) = false := by rw [beq_eq_false_iff_ne]; omega
        go_wp2_with fail
        refine (new_any _).mono ?_
        rintro e W5 ⟨rfl, hx5, hb5, hs5⟩
        obtain ⟨mx, hmx⟩ : ∃ mx, mx = W4.heap.size := ⟨_, rfl⟩
        have hwm : w.heap.size ≤ mx := hmx ▸ hb04.size
        have hb05 := hb04.trans (hb5.mono hb04.size)
        rw [← hmx] at hx5 hs5 ⊢
        clear hb04 hb5 hmx
        go_wp2_with fail
        refine (new_any _).mono ?_
        rintro e W6 ⟨rfl, hy6, hb6, hs6⟩
        have hx6 := hx5.below hb6
        have hb06 := hb05.trans (hb6.mono hb05.size)
        rw [hs5] at hy6 hs6 ⊢
        clear hx5 hb05 hb6 hs5
        have Hg : Hid (∀ W, BankAt W (mx + 1) mx 0 [] → Calls Try.prog 11 #[.pointer (some ⟨mx + 1, 0, none⟩), .string ⟨#[97]⟩, .string s, .int .u64 n] W (BankPost 1 (mx + 1) mx 1 (0, [(([97], s.data.toList), n)]) W)) := Lib.hid (fun W hW => by
          have := give_any hW (by decide) ⟨#[97]⟩ s n (by decide) hsl (by unfold Bk.maxU; omega)
          rwa [show Bk.give [] (⟨#[97]⟩ : ByteArray).data.toList s.data.toList n = _ from hx.1] at this)
        go_wp2_with fail
        refine (Hg.out _ hx6).mono ?_
        rintro e W7 ⟨v0, rfl, _, hx7, hg7⟩
        have hy7 := hy6.other hg7 (by omega) (by omega)
        have hb07 := below_of_grown hb06 hg7 hwm
        have hs7 := hg7.size
        clear hx6 hy6 hb06 hg7 Hg
        have hTl : (st T).size ≤ maxLen := by rw [show (st T).size = T.length from by simp [st, ByteArray.size]]; simp only [maxLen]; omega
        have hp8 : Blk ((W7.alloc (.cells #[.int .i64 k, .int .u64 0, .int .u64 0, .string s, .int .u64 n, .string ⟨#[97]⟩, .string ⟨#[98]⟩] 37)).alloc (.cells #[.int .i64 k, .int .u64 0, .int .u64 0, .string (st T), .int .u64 n, .string ⟨#[98]⟩, .string ⟨#[100]⟩] 37)) W7.heap.size 37 #[.int .i64 k, .int .u64 0, .int .u64 0, .string s, .int .u64 n, .string ⟨#[97]⟩, .string ⟨#[98]⟩] := (Blk.new _ _ _).alloc _
        have hq8 : Blk ((W7.alloc (.cells #[.int .i64 k, .int .u64 0, .int .u64 0, .string s, .int .u64 n, .string ⟨#[97]⟩, .string ⟨#[98]⟩] 37)).alloc (.cells #[.int .i64 k, .int .u64 0, .int .u64 0, .string (st T), .int .u64 n, .string ⟨#[98]⟩, .string ⟨#[100]⟩] 37)) (W7.heap.size + 1) 37 #[.int .i64 k, .int .u64 0, .int .u64 0, .string (st T), .int .u64 n, .string ⟨#[98]⟩, .string ⟨#[100]⟩] := by have := Blk.new (W7.alloc (.cells #[.int .i64 k, .int .u64 0, .int .u64 0, .string s, .int .u64 n, .string ⟨#[97]⟩, .string ⟨#[98]⟩] 37)) 37 #[.int .i64 k, .int .u64 0, .int .u64 0, .string (st T), .int .u64 n, .string ⟨#[98]⟩, .string ⟨#[100]⟩]; rwa [World.size_alloc] at this
        have hx8 : BankAt ((W7.alloc (.cells #[.int .i64 k, .int .u64 0, .int .u64 0, .string s, .int .u64 n, .string ⟨#[97]⟩, .string ⟨#[98]⟩] 37)).alloc (.cells #[.int .i64 k, .int .u64 0, .int .u64 0, .string (st T), .int .u64 n, .string ⟨#[98]⟩, .string ⟨#[100]⟩] 37)) _ _ _ _ := (hx7.alloc _).alloc _
        have hy8 : BankAt ((W7.alloc (.cells #[.int .i64 k, .int .u64 0, .int .u64 0, .string s, .int .u64 n, .string ⟨#[97]⟩, .string ⟨#[98]⟩] 37)).alloc (.cells #[.int .i64 k, .int .u64 0, .int .u64 0, .string (st T), .int .u64 n, .string ⟨#[98]⟩, .string ⟨#[100]⟩] 37)) _ _ _ _ := (hy7.alloc _).alloc _
        have hb08 : Below w.heap.size w ((W7.alloc (.cells #[.int .i64 k, .int .u64 0, .int .u64 0, .string s, .int .u64 n, .string ⟨#[97]⟩, .string ⟨#[98]⟩] 37)).alloc (.cells #[.int .i64 k, .int .u64 0, .int .u64 0, .string (st T), .int .u64 n, .string ⟨#[98]⟩, .string ⟨#[100]⟩] 37)) := (hb07.alloc hb07.size _).alloc (by simp; have := hb07.size; omega) _
        clear hx7 hy7 hb07
        have nm : maxLen = 9223372036854775807 := by decide
        have hsn : n ≤ Bk.maxU := by unfold Bk.maxU; omega
        have Hs1 := Lib.hid (fun W (hW : BankAt W (mx + 1) mx 1 [(([97], s.data.toList), n)]) => (by
          have := send_any hW (by decide) ⟨k, 0, 0, s, n, ⟨#[97]⟩, ⟨#[98]⟩⟩ ⟨hsl, one_le _, one_le _, hsn⟩
          rwa [show Bk.sendM _ _ _ _ _ _ = _ from hx.2] at this : Calls Try.prog 12 #[.pointer (some ⟨mx + 1, 0, none⟩), .agg #[.int .i64 k, .int .u64 0, .int .u64 0, .string s, .int .u64 n, .string ⟨#[97]⟩, .string ⟨#[98]⟩]] W (BankPost 3 (mx + 1) mx 4 (0, [((Bk.escrow k, s.data.toList), n)]) W)))
        have Hr1 := Lib.hid (fun W (hW : BankAt W (mx + 2 + 1) (mx + 2) 0 []) => (by
          have := recv_any hW (by decide) ⟨k, 0, 0, s, n, ⟨#[97]⟩, ⟨#[98]⟩⟩ ⟨hsl, one_le _, one_le _, hsn⟩
          rwa [show Bk.recvM _ _ _ _ _ _ = _ from hy.1] at this : Calls Try.prog 13 #[.pointer (some ⟨mx + 2 + 1, 0, none⟩), .agg #[.int .i64 k, .int .u64 0, .int .u64 0, .string s, .int .u64 n, .string ⟨#[97]⟩, .string ⟨#[98]⟩]] W (BankPost 3 (mx + 2 + 1) (mx + 2) 3 (0, [(([98], T), n)]) W)))
        have Hs2 := Lib.hid (fun W (hW : BankAt W (mx + 2 + 1) (mx + 2) 3 [(([98], T), n)]) => (by
          have := send_any hW (by decide) ⟨k, 0, 0, st T, n, ⟨#[98]⟩, ⟨#[100]⟩⟩ ⟨hTl, one_le _, one_le _, hsn⟩
          simp only [data_st] at this
          rwa [show Bk.sendM _ _ _ _ _ _ = _ from hy.2] at this : Calls Try.prog 12 #[.pointer (some ⟨mx + 2 + 1, 0, none⟩), .agg #[.int .i64 k, .int .u64 0, .int .u64 0, .string (st T), .int .u64 n, .string ⟨#[98]⟩, .string ⟨#[100]⟩]] W (BankPost 3 (mx + 2 + 1) (mx + 2) 6 (0, []) W)))
        have Hr2 := Lib.hid (fun W (hW : BankAt W (mx + 1) mx 4 [((Bk.escrow k, s.data.toList), n)]) => (by
          have := recv_any hW (by decide) ⟨k, 0, 0, st T, n, ⟨#[98]⟩, ⟨#[100]⟩⟩ ⟨hTl, one_le _, one_le _, hsn⟩
          simp only [data_st] at this
          rwa [show Bk.recvM _ _ _ _ _ _ = _ from hz] at this : Calls Try.prog 13 #[.pointer (some ⟨mx + 1, 0, none⟩), .agg #[.int .i64 k, .int .u64 0, .int .u64 0, .string (st T), .int .u64 n, .string ⟨#[98]⟩, .string ⟨#[100]⟩]] W (BankPost 3 (mx + 1) mx 7 (0, [(([100], s.data.toList), n)]) W)))
        have Hhas := Lib.hid (fun W (hW : BankAt W (mx + 1) mx 7 [(([100], s.data.toList), n)]) => has_any hW ⟨#[100]⟩ s (by decide) hsl)
        have Hget := Lib.hid (show Bk.get [(([100], s.data.toList), n)] ((⟨#[100]⟩ : ByteArray).data.toList, s.data.toList) = n from by simp [Bk.get])
        clear hx hy hz
        go_wp2_with fail
        generalize ((W7.alloc (.cells #[.int .i64 k, .int .u64 0, .int .u64 0, .string s, .int .u64 n, .string ⟨#[97]⟩, .string ⟨#[98]⟩] 37)).alloc (.cells #[.int .i64 k, .int .u64 0, .int .u64 0, .string (st T), .int .u64 n, .string ⟨#[98]⟩, .string ⟨#[100]⟩] 37)) = W8 at *
        obtain ⟨P, hP⟩ : ∃ P, P = W7.heap.size := ⟨_, rfl⟩
        rw [← hP] at hp8 hq8 hs7 ⊢
        have hPm : mx + 4 ≤ P := by omega
        clear hP hs7 hs6
        refine (Hs1.out _ hx8).mono ?_
        rintro e W9 ⟨v9, rfl, he9, hx9, hg9⟩
        obtain rfl := he9.zero
        have hy9 := hy8.other hg9 (by omega) (by omega)
        have hp9 := hp8.other hg9 (by omega)
        have hq9 := hq8.other hg9 (by omega)
        have hb09 := below_of_grown hb08 hg9 hwm
        clear he9 hx8 hy8 hp8 hq8 hb08 hg9 Hs1
        -- Receive(y, p)
        obtain ⟨c0, c1, c2, c3, c4, c5, c6⟩ := hp9.cells7
        go_wp2_with fail
        refine (Hr1.out _ hy9).mono ?_
        rintro e W10 ⟨v10, rfl, he10, hy10, hg10⟩
        obtain rfl := he10.zero
        have hx10 := hx9.other hg10 (by omega) (by omega)
        have hq10 := hq9.other hg10 (by omega)
        have hb10 := below_of_grown hb09 hg10 (by omega)
        clear he10 hx9 hy9 hp9 hq9 hb09 hg10 Hr1 c0 c1 c2 c3 c4 c5 c6
        -- Send(y, q)
        obtain ⟨c0, c1, c2, c3, c4, c5, c6⟩ := hq10.cells7
        go_wp2_with fail
        refine (Hs2.out _ hy10).mono ?_
        rintro e W11 ⟨v11, rfl, he11, hy11, hg11⟩
        obtain rfl := he11.zero
        have hx11 := hx10.other hg11 (by omega) (by omega)
        have hq11 := hq10.other hg11 (by omega)
        have hb11 := below_of_grown hb10 hg11 (by omega)
        clear he11 hx10 hy10 hq10 hb10 hg11 Hs2 c0 c1 c2 c3 c4 c5 c6
        -- Receive(x, q)
        obtain ⟨c0, c1, c2, c3, c4, c5, c6⟩ := hq11.cells7
        go_wp2_with fail
        refine (Hr2.out _ hx11).mono ?_
        rintro e W12 ⟨v12, rfl, he12, hx12, hg12⟩
        obtain rfl := he12.zero
        have hy12 := hy11.other hg12 (by omega) (by omega)
        have hb12 := below_of_grown hb11 hg12 hwm
        clear he12 hx11 hy11 hq11 hb11 hg12 Hr2 c0 c1 c2 c3 c4 c5 c6
        -- x.Has("d", s)
        go_wp2_with fail
        refine (Hhas.out _ hx12).mono ?_
        rintro e W13 ⟨rfl, hW⟩
        subst hW
        rw [Hget.out]
        clear Hhas Hget
        -- x.All(), y.All()
        have Hall := Lib.hid (all_any hx12 (by decide))
        go_wp2_with fail
        refine Hall.out.mono ?_
        rintro e W14 ⟨vx, rfl, hcx, hb14, _⟩
        obtain ⟨px, capx, rfl⟩ := hcx.len
        have hy14 := hy12.below hb14
        have hb014 := hb12.trans (hb14.mono hb12.size)
        clear hcx Hall hx12 hy12 hb12 hb14
        have Hall := Lib.hid (all_any hy14 (by decide))
        simp only [List.length_cons, List.length_nil, Nat.zero_add]
        go_wp2_with fail
        refine Hall.out.mono ?_
        rintro e W15 ⟨vy, rfl, hcy, hb15, _⟩
        obtain ⟨py, capy, rfl⟩ := hcy.len
        have hb015 := hb014.trans (hb15.mono hb014.size)
        clear hcy Hall hy14 hb014 hb15
        simp only [List.length_nil]
        go_wp2
        go_ret
        exact ⟨rfl, hb015⟩
  · go_wp2
    go_ret
    exact ⟨rfl, hb04⟩
end Go.Proofs.Ytidkamnciomnmaa
