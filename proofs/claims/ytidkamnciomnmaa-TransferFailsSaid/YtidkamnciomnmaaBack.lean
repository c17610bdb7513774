/-
  THE WALK OF ferrymanlaw14.TransferBack: at every list of coins, every act it returns true, and nothing that lay has turned.
-/
import Derived.Test.YtidkamnciomnmaaPack
import Derived.Test.YtidkamnciomnmaaSame
namespace Go.Proofs.Ytidkamnciomnmaa
open Go.RowKit Go.Maps Go.Lib

/-- a slice of coins that came in, as it is read -/
def CoinsIn (w : World) (a : Option Addr) (len : Nat) : Prop := ∀ i, i < len → ∃ x : Addr, a = some x ∧ x.block < w.heap.size ∧ ∃ (p q : ByteArray) (z : Nat), p.size ≤ maxLen ∧ q.size ≤ maxLen ∧ z ≤ Bk.maxU ∧
  w.cell? (x.add (i * 3)) = some (.string p) ∧ w.cell? ⟨(x.add (i * 3)).block, (x.add (i * 3)).off + 1, none⟩ = some (.string q) ∧ w.cell? ⟨(x.add (i * 3)).block, (x.add (i * 3)).off + 2, none⟩ = some (.int .u64 z)
theorem CoinsAt.ne_map {w : World} {base b mb n : Nat} {m l : Bk.M} {v : Value} (h : CoinsAt w base v l) (hB : BankAt w b mb n m) : v.ownBlock ≠ some mb := by
  rcases h with ⟨_, rfl⟩ | ⟨g, cap, h1, _, h3, rfl, h5⟩
  · simp [Value.ownBlock]
  · intro e
    obtain rfl : g = mb := by simpa [Value.ownBlock] using e
    have h0 : 0 < l.length := List.length_pos_iff.2 h1
    have hc := h5 0 h0 0 (by decide)
    obtain ⟨o, ho, hcl⟩ := cells_of_cell (hc.trans (show (encM l[0])[0]? = some _ from rfl))
    obtain ⟨D, ⟨es, c, hb, _⟩, _⟩ := hB.own
    simp only [Nat.zero_mul, Nat.zero_add] at ho
    rw [hb] at ho
    cases ho
    cases hcl

theorem Blk.cells13 {w : World} {g : Nat} {t : TypeId} {v0 v1 v2 v3 v4 v5 v6 v7 v8 v9 v10 v11 v12 : Value} (h : Blk w g t #[v0, v1, v2, v3, v4, v5, v6, v7, v8, v9, v10, v11, v12]) :
    w.cell? ⟨g, 0, none⟩ = some v0 ∧ w.cell? ⟨g, 1, none⟩ = some v1 ∧ w.cell? ⟨g, 2, none⟩ = some v2 ∧ w.cell? ⟨g, 3, none⟩ = some v3 ∧ w.cell? ⟨g, 4, none⟩ = some v4 ∧ w.cell? ⟨g, 5, none⟩ = some v5 ∧ w.cell? ⟨g, 6, none⟩ = some v6 ∧
    w.cell? ⟨g, 7, none⟩ = some v7 ∧ w.cell? ⟨g, 8, none⟩ = some v8 ∧ w.cell? ⟨g, 9, none⟩ = some v9 ∧ w.cell? ⟨g, 10, none⟩ = some v10 ∧ w.cell? ⟨g, 11, none⟩ = some v11 ∧ w.cell? ⟨g, 12, none⟩ = some v12 :=
  ⟨h.cell 0, h.cell 1, h.cell 2, h.cell 3, h.cell 4, h.cell 5, h.cell 6, h.cell 7, h.cell 8, h.cell 9, h.cell 10, h.cell 11, h.cell 12⟩

set_option maxRecDepth 100000 in
set_option maxHeartbeats 1000000 in
theorem back_walk (a : Option Addr) (len cap : Nat) (x : Act14) (hx : x.ok) (w : World) (h : CoinsIn w a len) (hl : len ≤ maxLen) :
    Calls Try.prog 4 #[.slice a len cap, .agg (encA x)] w fun e w' => e = .returned (.bool true) ∧ Below w.heap.size w w' := by
  have Hh := Lib.hid h
  have Hp := Lib.hid (fun W => packet_any x hx W)
  unfold maxLen at hl
  obtain ⟨kind, ch, D, A, B, raw, n⟩ := x
  simp only [encA] at *
  clear h hx
  have hb0 : Below w.heap.size w (w.alloc (.cells #[.int .u8 kind, .int .u8 ch, .int .u8 D, .int .u8 A, .int .u8 B, .int .i64 raw.chan, .int .u64 raw.x1, .int .u64 raw.x2, .string raw.den, .int .u64 raw.amt, .string raw.src, .string raw.dst, .int .u64 n] 44)) := (Below.refl _ _).alloc (Nat.le_refl _) _
  have hA0 : Blk (w.alloc (.cells #[.int .u8 kind, .int .u8 ch, .int .u8 D, .int .u8 A, .int .u8 B, .int .i64 raw.chan, .int .u64 raw.x1, .int .u64 raw.x2, .string raw.den, .int .u64 raw.amt, .string raw.src, .string raw.dst, .int .u64 n] 44)) w.heap.size 44 #[.int .u8 kind, .int .u8 ch, .int .u8 D, .int .u8 A, .int .u8 B, .int .i64 raw.chan, .int .u64 raw.x1, .int .u64 raw.x2, .string raw.den, .int .u64 raw.amt, .string raw.src, .string raw.dst, .int .u64 n] := Blk.new _ _ _
  go_enter Try.func4, Try.ntmps4
  go_wp2_with fail
  refine (awake14_any _).mono ?_
  rintro e W1 ⟨rfl, hb1⟩
  have hb01 := hb0.trans (hb1.mono hb0.size)
  have hA1 := hA0.below hb1 hA0.lt
  clear hb0 hA0 hb1
  go_wp2_with fail
  refine (new_any _).mono ?_
  rintro e W2 ⟨rfl, hB2, hb2, hs2⟩
  obtain ⟨mx, hmx⟩ : ∃ mx, mx = W1.heap.size := ⟨_, rfl⟩
  have hwm : w.heap.size < mx := hmx ▸ hA1.lt
  have hb02 := hb01.trans (hb2.mono hb01.size)
  have hA2 := hA1.below hb2 hA1.lt
  rw [← hmx] at hB2 hs2 ⊢
  clear hb01 hA1 hb2 hmx
  go_wp2
  go_loopw [15] (fun v wr => ∃ (i nn : Nat) (m : Bk.M), v = .int .i64 i ∧ i ≤ len ∧ nn ≤ i ∧ nn ≤ 10 ∧ BankAt wr (mx + 1) mx nn m ∧ Below w.heap.size w wr ∧ Blk wr w.heap.size 44 #[.int .u8 kind, .int .u8 ch, .int .u8 D, .int .u8 A, .int .u8 B, .int .i64 raw.chan, .int .u64 raw.x1, .int .u64 raw.x2, .string raw.den, .int .u64 raw.amt, .string raw.src, .string raw.dst, .int .u64 n]) (fun v _ => left len v)
  case atStart => exact ⟨0, 0, [], rfl, Nat.zero_le _, Nat.le_refl _, by decide, hB2, hb02, hA2⟩
  case round =>
    obtain ⟨i, nn, m, rfl, hi, hni, hn10, hBr, hbr, hAr⟩ := hrel
    by_cases hil : i < len
    · obtain ⟨ad, rfl, had, p, q, z, hp, hq, hz, cp, cq, cz⟩ := Hh.out i hil
      have cp' := (hbr.cell (p := ad.add (i * 3)) (by rw [add_block]; exact had)).trans cp
      have cq' := (hbr.cell (p := ⟨(ad.add (i * 3)).block, (ad.add (i * 3)).off + 1, none⟩) (by show (ad.add (i * 3)).block < _; rw [add_block]; exact had)).trans cq
      have cz' := (hbr.cell (p := ⟨(ad.add (i * 3)).block, (ad.add (i * 3)).off + 2, none⟩) (by show (ad.add (i * 3)).block < _; rw [add_block]; exact had)).trans cz
      clear cp cq cz
      unfold Bk.maxU at hz
      unfold maxLen at hp hq
      have Hg := Lib.hid (give_any (hBr.alloc (.cells #[.string p, .string q, .int .u64 z] 46)) (by simp only [maxLen]; omega) p q z hp hq hz)
      have hbr' := hbr.alloc hbr.size (.cells #[.string p, .string q, .int .u64 z] 46)
      have hAr' := hAr.alloc (.cells #[.string p, .string q, .int .u64 z] 46)
      have hBr' := hBr.alloc (.cells #[.string p, .string q, .int .u64 z] 46)
      clear hbr hAr hBr hB2 hb02 hA2
      go_wp2_with fail
      · refine Hg.out.mono ?_
        rintro e Wg ⟨v, rfl, _, hBg, hgg⟩
        have hbg := below_of_grown hbr' hgg (by omega)
        have hAg := hAr'.other hgg (by omega)
        clear Hg hbr' hAr' hBr' hgg
        go_wp2
        refine ⟨⟨i + 1, nn + 1, _, rfl, hil, by omega, by omega, hBg, hbg, hAg⟩, ?_⟩
        show len - ((i : Int) + 1).toNat < len - (i : Int).toNat
        omega
      · refine ⟨⟨i + 1, nn, m, rfl, hil, by omega, hn10, hBr', hbr', hAr'⟩, ?_⟩
        show len - ((i : Int) + 1).toNat < len - (i : Int).toNat
        omega
      · refine ⟨⟨i + 1, nn, m, rfl, hil, by omega, hn10, hBr', hbr', hAr'⟩, ?_⟩
        show len - ((i : Int) + 1).toNat < len - (i : Int).toNat
        omega
    · obtain ⟨a0, a1, a2, a3, a4, a5, a6, a7, a8, a9, a10, a11, a12⟩ := hAr.cells13
      clear hB2 hb02 hA2
      go_wp2_with fail
      refine (Hp.out _).mono ?_
      rintro e Wp ⟨⟨pc, p1, p2, pd, pa, pf, pt⟩, hpk, rfl, hbp⟩
      have hBp := hBr.below hbp
      have hb0p := hbr.trans (hbp.mono hbr.size)
      clear hBr hbr hAr hbp a0 a1 a2 a3 a4 a5 a6 a7 a8 a9 a10 a11 a12 Hp Hh
      have hfine := hBp.fine
      simp only [encP7]
      have hk0 : Blk (Wp.alloc (.cells #[.int .i64 pc, .int .u64 p1, .int .u64 p2, .string pd, .int .u64 pa, .string pf, .string pt] 37)) Wp.heap.size 37 #[.int .i64 pc, .int .u64 p1, .int .u64 p2, .string pd, .int .u64 pa, .string pf, .string pt] := Blk.new _ _ _
      have hB3 := hBp.alloc (.cells #[.int .i64 pc, .int .u64 p1, .int .u64 p2, .string pd, .int .u64 pa, .string pf, .string pt] 37)
      have hb3 := hb0p.alloc hb0p.size (.cells #[.int .i64 pc, .int .u64 p1, .int .u64 p2, .string pd, .int .u64 pa, .string pf, .string pt] 37)
      have hPw : w.heap.size ≤ Wp.heap.size := hb0p.size
      clear hBp hb0p
      go_wp2_with fail
      generalize hW3 : Wp.alloc (.cells #[.int .i64 pc, .int .u64 p1, .int .u64 p2, .string pd, .int .u64 pa, .string pf, .string pt] 37) = W3 at *
      obtain ⟨P, hP⟩ : ∃ P, P = Wp.heap.size := ⟨_, rfl⟩
      rw [← hP] at hk0 ⊢
      have hPm : P ≠ mx ∧ w.heap.size ≤ P := by
        exact ⟨fun e => (blk_ne hB3 _ _ _ hk0) e, hP ▸ hPw⟩
      clear hW3 hP hPw
      refine (long_any ⟨pc, p1, p2, pd, pa, pf, pt⟩ _).mono ?_
      rintro e W4 ⟨⟨lb, rfl⟩, hb4⟩
      have hk4 := hk0.below hb4 hk0.lt
      have hB4 := hB3.below hb4
      have hb04 := hb3.trans (hb4.mono hb3.size)
      clear hk0 hB3 hb3 hb4
      cases lb with
      | true =>
        go_wp2
        go_ret
        exact ⟨rfl, hb04⟩
      | false =>
        -- Give
        obtain ⟨c0, c1, c2, c3, c4, c5, c6⟩ := hk4.cells7
        have Hg := Lib.hid (give_any hB4 (by simp only [maxLen]; omega) pf pd pa hpk.f hpk.d hpk.a)
        clear hfine hB4
        go_wp2_with fail
        refine Hg.out.mono ?_
        rintro e W5 ⟨v5, rfl, _, hB5, hg5⟩
        have hk5 := hk4.other hg5 hPm.1
        have hb05 := below_of_grown hb04 hg5 (by omega)
        have hfine := hB5.fine
        generalize (Bk.give m pf.data.toList pd.data.toList pa).2 = m5 at *
        clear Hg hk4 hb04 hg5 c0 c1 c2 c3 c4 c5 c6
        -- was := b.All()
        have Hall := Lib.hid (all_any hB5 (by omega))
        go_wp2_with fail
        refine Hall.out.mono ?_
        rintro e W6 ⟨was, rfl, hc6, hb6, hln⟩
        have hfl : List.length m5 ≤ maxLen := by simp only [maxLen]; omega
        have hB6 := hB5.below hb6
        have hk6 := hk5.below hb6 hk5.lt
        have hb06 := hb05.trans (hb6.mono hb05.size)
        clear Hall hB5 hk5 hb05 hb6
        -- Send
        obtain ⟨c0, c1, c2, c3, c4, c5, c6⟩ := hk6.cells7
        have Hs := Lib.hid (send_any hB6 (by simp only [maxLen]; omega) ⟨pc, p1, p2, pd, pa, pf, pt⟩ hpk)
        have Hsame := Lib.hid (Bk.send_same hfine pc pd.data.toList pa pf.data.toList pt.data.toList)
        have Hback := Lib.hid (fun h => Bk.send_refund (c := pc) (d := pd.data.toList) (n := pa) (f := pf.data.toList) (t := pt.data.toList) hfine h)
        have hcm := hc6.ne_map hB6
        go_wp2_with fail
        refine Hs.out.mono ?_
        rintro e W7 ⟨v7, rfl, he7, hB7, hg7⟩
        have hc7 := hc6.grown hg7 (fun j e => by cases e; exact hcm)
        have hk7 := hk6.other hg7 hPm.1
        have hb07 := below_of_grown hb06 hg7 (by omega)
        clear Hs hc6 hB6 hk6 hb06 hg7 hcm c0 c1 c2 c3 c4 c5 c6
        try simp only at he7 hB7
        generalize Bk.sendM m5 pc pd.data.toList pa pf.data.toList pt.data.toList = r7 at *
        by_cases hr : r7.1 = 0
        · rw [hr] at he7
          obtain rfl := he7.zero
          clear he7
          obtain ⟨c0, c1, c2, c3, c4, c5, c6⟩ := hk7.cells7
          have Hr := Lib.hid (refund_any hB7 (by simp only [maxLen]; omega) ⟨pc, p1, p2, pd, pa, pf, pt⟩ hpk)
          have hcm := hc7.ne_map hB7
          have hre := Hback.out hr
          go_wp2_with fail
          refine Hr.out.mono ?_
          rintro e W8 ⟨v8, rfl, he8, hB8, hg8⟩
          simp only [hre] at he8 hB8
          obtain rfl := he8.zero
          have hc8 := hc7.grown hg8 (fun j e => by cases e; exact hcm)
          have hb08 := below_of_grown hb07 hg8 (by omega)
          clear Hr hc7 hB7 hk7 hb07 hg8 hcm c0 c1 c2 c3 c4 c5 c6 he8 hre
          have Hall := Lib.hid (all_any hB8 (by omega))
          go_wp2_with fail
          refine Hall.out.mono ?_
          rintro e W9 ⟨now, rfl, hc9, hb9, _⟩
          have hw9 := hc8.grown (below_grown hb9 none) (fun j e => by cases e)
          have hb09 := hb08.trans (hb9.mono hb08.size)
          have Hsm := Lib.hid (same_any hc9 hw9 hfl hfl)
          clear Hall hB8 hc8 hb08 hb9 hc9 hw9
          go_wp2_with fail
          refine Hsm.out.mono ?_
          rintro e W10 ⟨rfl, q, rfl⟩
          have hb10 := below_drewN' hb09 q
          go_wp2
          go_ret
          exact ⟨by simp, hb10⟩
        · obtain ⟨t1, x1, rfl⟩ := he7.some hr
          have hm7 : r7.2 = m5 := Hsame.out.2 hr
          rw [hm7] at hB7
          clear he7 hm7
          have Hall := Lib.hid (all_any hB7 (by omega))
          go_wp2_with fail
          refine Hall.out.mono ?_
          rintro e W9 ⟨now, rfl, hc9, hb9, _⟩
          have hw9 := hc7.grown (below_grown hb9 none) (fun j e => by cases e)
          have hb09 := hb07.trans (hb9.mono hb07.size)
          have Hsm := Lib.hid (same_any hc9 hw9 hfl hfl)
          clear Hall hB7 hc7 hb07 hb9 hc9 hw9
          go_wp2_with fail
          refine Hsm.out.mono ?_
          rintro e W10 ⟨rfl, q, rfl⟩
          have hb10 := below_drewN' hb09 q
          go_wp2
          go_ret
          exact ⟨by simp, hb10⟩
end Go.Proofs.Ytidkamnciomnmaa
