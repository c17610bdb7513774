/-
  THE WALK OF ferrymanlaw14.TransferFails: at every list of coins, every act, every choice it returns true, and nothing that lay has turned.
-/
import Derived.Test.YtidkamnciomnmaaBack
import Derived.Deep.RegionWith
namespace Go.Proofs.Ytidkamnciomnmaa
open Go.RowKit Go.Maps Go.Lib

set_option maxRecDepth 100000 in
set_option maxHeartbeats 4000000 in
theorem fails_walk (a : Option Addr) (len cap : Nat) (x : Act14) (hx : x.ok) (wh : Nat) (hwh : wh ≤ 255) (w : World) (h : CoinsIn w a len) (hl : len ≤ maxLen) :
    Calls Try.prog 5 #[.slice a len cap, .agg (encA x), .int .u8 wh] w fun e w' => e = .returned (.bool true) ∧ Below w.heap.size w w' := by
  have Hh := Lib.hid h
  have Hp := Lib.hid (fun W => packet_any x hx W)
  unfold maxLen at hl
  obtain ⟨kind, ch, D, A, B, raw, n⟩ := x
  simp only [encA] at *
  clear h hx
  have hb0 : Below w.heap.size w (w.alloc (.cells #[.int .u8 kind, .int .u8 ch, .int .u8 D, .int .u8 A, .int .u8 B, .int .i64 raw.chan, .int .u64 raw.x1, .int .u64 raw.x2, .string raw.den, .int .u64 raw.amt, .string raw.src, .string raw.dst, .int .u64 n] 44)) := (Below.refl _ _).alloc (Nat.le_refl _) _
  have hA0 : Blk (w.alloc (.cells #[.int .u8 kind, .int .u8 ch, .int .u8 D, .int .u8 A, .int .u8 B, .int .i64 raw.chan, .int .u64 raw.x1, .int .u64 raw.x2, .string raw.den, .int .u64 raw.amt, .string raw.src, .string raw.dst, .int .u64 n] 44)) w.heap.size 44 #[.int .u8 kind, .int .u8 ch, .int .u8 D, .int .u8 A, .int .u8 B, .int .i64 raw.chan, .int .u64 raw.x1, .int .u64 raw.x2, .string raw.den, .int .u64 raw.amt, .string raw.src, .string raw.dst, .int .u64 n] := Blk.new _ _ _
  go_enter Try.func5, Try.ntmps5
  go_wp2_with fail
  refine (awake14_any _).mono ?_
  rintro e W1 ⟨rfl, hb1⟩
  have hb01 := hb0.trans (hb1.mono hb0.size)
  have hA1 := hA0.below hb1 hA0.lt
  clear hb0 hA0 hb1
  go_wp2_with fail
  refine (new_any _).mono ?_
  rintro e W2 ⟨rfl, hB2, hb2, hs2⟩
  obtain ⟨mx, hmx⟩ : ∃ mx, mx = W1.heap.size := ⟨_, rfl⟩
  have hwm : w.heap.size < mx := hmx ▸ hA1.lt
  have hb02 := hb01.trans (hb2.mono hb01.size)
  have hA2 := hA1.below hb2 hA1.lt
  rw [← hmx] at hB2 hs2 ⊢
  clear hb01 hA1 hb2 hmx
  go_wp2
  go_loopw [18] (fun v wr => ∃ (i nn : Nat) (m : Bk.M), v = .int .i64 i ∧ i ≤ len ∧ nn ≤ i ∧ nn ≤ 10 ∧ BankAt wr (mx + 1) mx nn m ∧ Below w.heap.size w wr ∧ Blk wr w.heap.size 44 #[.int .u8 kind, .int .u8 ch, .int .u8 D, .int .u8 A, .int .u8 B, .int .i64 raw.chan, .int .u64 raw.x1, .int .u64 raw.x2, .string raw.den, .int .u64 raw.amt, .string raw.src, .string raw.dst, .int .u64 n]) (fun v _ => left len v)
  case atStart => exact ⟨0, 0, [], rfl, Nat.zero_le _, Nat.le_refl _, by decide, hB2, hb02, hA2⟩
  case round =>
    obtain ⟨i, nn, m, rfl, hi, hni, hn10, hBr, hbr, hAr⟩ := hrel
    by_cases hil : i < len
    · obtain ⟨ad, rfl, had, p, q, z, hp, hq, hz, cp, cq, cz⟩ := Hh.out i hil
      have cp' := (hbr.cell (p := ad.add (i * 3)) (by rw [add_block]; exact had)).trans cp
      have cq' := (hbr.cell (p := ⟨(ad.add (i * 3)).block, (ad.add (i * 3)).off + 1, none⟩) (by show (ad.add (i * 3)).block < _; rw [add_block]; exact had)).trans cq
      have cz' := (hbr.cell (p := ⟨(ad.add (i * 3)).block, (ad.add (i * 3)).off + 2, none⟩) (by show (ad.add (i * 3)).block < _; rw [add_block]; exact had)).trans cz
      clear cp cq cz
      unfold Bk.maxU at hz
      unfold maxLen at hp hq
      have Hg := Lib.hid (give_any (hBr.alloc (.cells #[.string p, .string q, .int .u64 z] 46)) (by simp only [maxLen]; omega) p q z hp hq hz)
      have hbr' := hbr.alloc hbr.size (.cells #[.string p, .string q, .int .u64 z] 46)
      have hAr' := hAr.alloc (.cells #[.string p, .string q, .int .u64 z] 46)
      have hBr' := hBr.alloc (.cells #[.string p, .string q, .int .u64 z] 46)
      clear hbr hAr hBr hB2 hb02 hA2
      go_wp2_with fail
      · refine Hg.out.mono ?_
        rintro e Wg ⟨v, rfl, _, hBg, hgg⟩
        have hbg := below_of_grown hbr' hgg (by omega)
        have hAg := hAr'.other hgg (by omega)
        clear Hg hbr' hAr' hBr' hgg
        go_wp2
        refine ⟨⟨i + 1, nn + 1, _, rfl, hil, by omega, by omega, hBg, hbg, hAg⟩, ?_⟩
        show len - ((i : Int) + 1).toNat < len - (i : Int).toNat
        omega
      · refine ⟨⟨i + 1, nn, m, rfl, hil, by omega, hn10, hBr', hbr', hAr'⟩, ?_⟩
        show len - ((i : Int) + 1).toNat < len - (i : Int).toNat
        omega
      · refine ⟨⟨i + 1, nn, m, rfl, hil, by omega, hn10, hBr', hbr', hAr'⟩, ?_⟩
        show len - ((i : Int) + 1).toNat < len - (i : Int).toNat
        omega
    · obtain ⟨a0, a1, a2, a3, a4, a5, a6, a7, a8, a9, a10, a11, a12⟩ := hAr.cells13
      clear hB2 hb02 hA2
      go_wp2_with fail
      refine (Hp.out _).mono ?_
      rintro e Wp ⟨⟨pc, p1, p2, pd, pa, pf, pt⟩, hpk, rfl, hbp⟩
      have hBp := hBr.below hbp
      have hb0p := hbr.trans (hbp.mono hbr.size)
      clear hBr hbr hAr hbp a0 a1 a2 a3 a4 a5 a6 a7 a8 a9 a10 a11 a12 Hp Hh
      have hfine := hBp.fine
      simp only [encP7]
      have hk0 : Blk (Wp.alloc (.cells #[.int .i64 pc, .int .u64 p1, .int .u64 p2, .string pd, .int .u64 pa, .string pf, .string pt] 37)) Wp.heap.size 37 #[.int .i64 pc, .int .u64 p1, .int .u64 p2, .string pd, .int .u64 pa, .string pf, .string pt] := Blk.new _ _ _
      have hB3 := hBp.alloc (.cells #[.int .i64 pc, .int .u64 p1, .int .u64 p2, .string pd, .int .u64 pa, .string pf, .string pt] 37)
      have hb3 := hb0p.alloc hb0p.size (.cells #[.int .i64 pc, .int .u64 p1, .int .u64 p2, .string pd, .int .u64 pa, .string pf, .string pt] 37)
      have hPw : w.heap.size ≤ Wp.heap.size := hb0p.size
      clear hBp hb0p
      go_wp2_with fail
      generalize hW3 : Wp.alloc (.cells #[.int .i64 pc, .int .u64 p1, .int .u64 p2, .string pd, .int .u64 pa, .string pf, .string pt] 37) = W3 at *
      obtain ⟨P, hP⟩ : ∃ P, P = Wp.heap.size := ⟨_, rfl⟩
      rw [← hP] at hk0 ⊢
      have hPm : P ≠ mx ∧ w.heap.size ≤ P := by
        exact ⟨fun e => (blk_ne hB3 _ _ _ hk0) e, hP ▸ hPw⟩
      clear hW3 hP hPw
      refine (long_any ⟨pc, p1, p2, pd, pa, pf, pt⟩ _).mono ?_
      rintro e W4 ⟨⟨lb, rfl⟩, hb4⟩
      have hk4 := hk0.below hb4 hk0.lt
      have hB4 := hB3.below hb4
      have hb04 := hb3.trans (hb4.mono hb3.size)
      clear hk0 hB3 hb3 hb4
      cases lb with
      | true =>
        go_wp2
        go_ret
        exact ⟨rfl, hb04⟩
      | false =>
        by_cases h2 : (wh : Int) % 2 = 0
        · obtain ⟨c0, c1, c2, c3, c4, c5, c6⟩ := hk4.cells7
          have Hg := Lib.hid (give_any hB4 (by simp only [maxLen]; omega) pf pd pa hpk.f hpk.d hpk.a)
          clear hfine hB4
          go_wp2_with fail
          refine Hg.out.mono ?_
          rintro e W5 ⟨v5, rfl, _, hB5, hg5⟩
          have hk5 := hk4.other hg5 hPm.1
          have hb05 := below_of_grown hb04 hg5 (by omega)
          generalize (Bk.give m pf.data.toList pd.data.toList pa).2 = m5 at *
          clear Hg hk4 hb04 hg5 c0 c1 c2 c3 c4 c5 c6
          have hfine := hB5.fine
          have Hall := Lib.hid (all_any hB5 (by omega))
          go_wp2_with fail
          refine Hall.out.mono ?_
          rintro e W6 ⟨was, rfl, hc6, hb6, hln⟩
          have hfl : List.length m5 ≤ maxLen := by simp only [maxLen]; omega
          have hB6 := hB5.below hb6
          have hk6 := hk5.below hb6 hk5.lt
          have hb06 := hb05.trans (hb6.mono hb05.size)
          clear Hall hB5 hk5 hb05 hb6
          have h3 : (wh : Int) % 3 = 0 ∨ (wh : Int) % 3 = 1 ∨ (wh : Int) % 3 = 2 := by omega
          rcases h3 with h3 | h3 | h3
          · obtain ⟨c0, c1, c2, c3, c4, c5, c6⟩ := hk6.cells7
            have Hs := Lib.hid (send_any hB6 (by simp only [maxLen]; omega) ⟨pc, p1, p2, pd, pa, pf, pt⟩ hpk)
            have Hsame := Lib.hid (Bk.send_same hfine pc pd.data.toList pa pf.data.toList pt.data.toList)
            have hcm := hc6.ne_map hB6
            go_wp2_with fail
            refine Hs.out.mono ?_
            rintro e W7 ⟨v7, rfl, he7, hB7, hg7⟩
            have hc7 := hc6.grown hg7 (fun j e => by cases e; exact hcm)
            have hb07 := below_of_grown hb06 hg7 (by omega)
            clear Hs hc6 hB6 hk6 hb06 hg7 hcm c0 c1 c2 c3 c4 c5 c6
            try simp only at he7 hB7
            generalize Bk.sendM m5 pc pd.data.toList pa pf.data.toList pt.data.toList = r7 at *
            have hB7' := hB7.drew
            have Hall := Lib.hid (all_any hB7' (by omega))
            have hc7' : CoinsAt W7.drew W5.heap.size was m5 := hc7
            have hb07' := below_drewN' hb07 1
            by_cases hr : r7.1 = 0
            · rw [hr] at he7
              obtain rfl := he7.zero
              have hne : decide (r7.2 = m5) = false := decide_eq_false fun e => Hsame.out.1 e hr
              have Hne := Lib.hid hne
              clear he7 hc7 hb07 hB7 hB7' hne
              go_wp2
              go_region_with (first
                | (go_at_call 15; refine Hall.out.mono ?_; rintro e W9 ⟨now, rfl, hc9, hb9, hl9⟩; have hw9 := hc7'.grown (below_grown hb9 none) (fun j e => by cases e); have hb09 := hb07'.trans (hb9.mono hb07'.size); have Hsm := same_any hc9 hw9 (by simp only [maxLen]; omega) hfl; rw [Hne.out] at Hsm)
                | (go_at_call 18; refine Hsm.mono ?_; rintro e W10 ⟨rfl, q, rfl⟩))
              have hb10 := below_drewN' hb09 q
              go_wp2
              go_ret
              exact ⟨rfl, hb10⟩
            · obtain ⟨t1, x1, rfl⟩ := he7.some hr
              have hne : decide (r7.2 = m5) = true := decide_eq_true (Hsame.out.2 hr)
              have Hne := Lib.hid hne
              clear he7 hc7 hb07 hB7 hB7' hne
              go_wp2
              go_region_with (first
                | (go_at_call 15; refine Hall.out.mono ?_; rintro e W9 ⟨now, rfl, hc9, hb9, hl9⟩; have hw9 := hc7'.grown (below_grown hb9 none) (fun j e => by cases e); have hb09 := hb07'.trans (hb9.mono hb07'.size); have Hsm := same_any hc9 hw9 (by simp only [maxLen]; omega) hfl; rw [Hne.out] at Hsm)
                | (go_at_call 18; refine Hsm.mono ?_; rintro e W10 ⟨rfl, q, rfl⟩))
              have hb10 := below_drewN' hb09 q
              go_wp2
              go_ret
              exact ⟨rfl, hb10⟩
          · obtain ⟨c0, c1, c2, c3, c4, c5, c6⟩ := hk6.cells7
            have Hs := Lib.hid (recv_any hB6 (by simp only [maxLen]; omega) ⟨pc, p1, p2, pd, pa, pf, pt⟩ hpk)
            have Hsame := Lib.hid (Bk.recv_same hfine pc pd.data.toList pa pf.data.toList pt.data.toList)
            have hcm := hc6.ne_map hB6
            go_wp2_with fail
            refine Hs.out.mono ?_
            rintro e W7 ⟨v7, rfl, he7, hB7, hg7⟩
            have hc7 := hc6.grown hg7 (fun j e => by cases e; exact hcm)
            have hb07 := below_of_grown hb06 hg7 (by omega)
            clear Hs hc6 hB6 hk6 hb06 hg7 hcm c0 c1 c2 c3 c4 c5 c6
            try simp only at he7 hB7
            generalize Bk.recvM m5 pc pd.data.toList pa pf.data.toList pt.data.toList = r7 at *
            have hB7' := hB7.drew
            have Hall := Lib.hid (all_any hB7' (by omega))
            have hc7' : CoinsAt W7.drew W5.heap.size was m5 := hc7
            have hb07' := below_drewN' hb07 1
            by_cases hr : r7.1 = 0
            · rw [hr] at he7
              obtain rfl := he7.zero
              have hne : decide (r7.2 = m5) = false := decide_eq_false fun e => Hsame.out.1 e hr
              have Hne := Lib.hid hne
              clear he7 hc7 hb07 hB7 hB7' hne
              go_wp2
              go_region_with (first
                | (go_at_call 15; refine Hall.out.mono ?_; rintro e W9 ⟨now, rfl, hc9, hb9, hl9⟩; have hw9 := hc7'.grown (below_grown hb9 none) (fun j e => by cases e); have hb09 := hb07'.trans (hb9.mono hb07'.size); have Hsm := same_any hc9 hw9 (by simp only [maxLen]; omega) hfl; rw [Hne.out] at Hsm)
                | (go_at_call 18; refine Hsm.mono ?_; rintro e W10 ⟨rfl, q, rfl⟩))
              have hb10 := below_drewN' hb09 q
              go_wp2
              go_ret
              exact ⟨rfl, hb10⟩
            · obtain ⟨t1, x1, rfl⟩ := he7.some hr
              have hne : decide (r7.2 = m5) = true := decide_eq_true (Hsame.out.2 hr)
              have Hne := Lib.hid hne
              clear he7 hc7 hb07 hB7 hB7' hne
              go_wp2
              go_region_with (first
                | (go_at_call 15; refine Hall.out.mono ?_; rintro e W9 ⟨now, rfl, hc9, hb9, hl9⟩; have hw9 := hc7'.grown (below_grown hb9 none) (fun j e => by cases e); have hb09 := hb07'.trans (hb9.mono hb07'.size); have Hsm := same_any hc9 hw9 (by simp only [maxLen]; omega) hfl; rw [Hne.out] at Hsm)
                | (go_at_call 18; refine Hsm.mono ?_; rintro e W10 ⟨rfl, q, rfl⟩))
              have hb10 := below_drewN' hb09 q
              go_wp2
              go_ret
              exact ⟨rfl, hb10⟩
          · obtain ⟨c0, c1, c2, c3, c4, c5, c6⟩ := hk6.cells7
            have Hs := Lib.hid (refund_any hB6 (by simp only [maxLen]; omega) ⟨pc, p1, p2, pd, pa, pf, pt⟩ hpk)
            have Hsame := Lib.hid (Bk.refund_same hfine pc pd.data.toList pa pf.data.toList pt.data.toList)
            have hcm := hc6.ne_map hB6
            go_wp2_with fail
            refine Hs.out.mono ?_
            rintro e W7 ⟨v7, rfl, he7, hB7, hg7⟩
            have hc7 := hc6.grown hg7 (fun j e => by cases e; exact hcm)
            have hb07 := below_of_grown hb06 hg7 (by omega)
            clear Hs hc6 hB6 hk6 hb06 hg7 hcm c0 c1 c2 c3 c4 c5 c6
            try simp only at he7 hB7
            generalize Bk.refundM m5 pc pd.data.toList pa pf.data.toList pt.data.toList = r7 at *
            have hB7' := hB7.drew
            have Hall := Lib.hid (all_any hB7' (by omega))
            have hc7' : CoinsAt W7.drew W5.heap.size was m5 := hc7
            have hb07' := below_drewN' hb07 1
            by_cases hr : r7.1 = 0
            · rw [hr] at he7
              obtain rfl := he7.zero
              have hne : decide (r7.2 = m5) = false := decide_eq_false fun e => Hsame.out.1 e hr
              have Hne := Lib.hid hne
              clear he7 hc7 hb07 hB7 hB7' hne
              go_wp2
              go_region_with (first
                | (go_at_call 15; refine Hall.out.mono ?_; rintro e W9 ⟨now, rfl, hc9, hb9, hl9⟩; have hw9 := hc7'.grown (below_grown hb9 none) (fun j e => by cases e); have hb09 := hb07'.trans (hb9.mono hb07'.size); have Hsm := same_any hc9 hw9 (by simp only [maxLen]; omega) hfl; rw [Hne.out] at Hsm)
                | (go_at_call 18; refine Hsm.mono ?_; rintro e W10 ⟨rfl, q, rfl⟩))
              have hb10 := below_drewN' hb09 q
              go_wp2
              go_ret
              exact ⟨rfl, hb10⟩
            · obtain ⟨t1, x1, rfl⟩ := he7.some hr
              have hne : decide (r7.2 = m5) = true := decide_eq_true (Hsame.out.2 hr)
              have Hne := Lib.hid hne
              clear he7 hc7 hb07 hB7 hB7' hne
              go_wp2
              go_region_with (first
                | (go_at_call 15; refine Hall.out.mono ?_; rintro e W9 ⟨now, rfl, hc9, hb9, hl9⟩; have hw9 := hc7'.grown (below_grown hb9 none) (fun j e => by cases e); have hb09 := hb07'.trans (hb9.mono hb07'.size); have Hsm := same_any hc9 hw9 (by simp only [maxLen]; omega) hfl; rw [Hne.out] at Hsm)
                | (go_at_call 18; refine Hsm.mono ?_; rintro e W10 ⟨rfl, q, rfl⟩))
              have hb10 := below_drewN' hb09 q
              go_wp2
              go_ret
              exact ⟨rfl, hb10⟩
        · have h2' : ((wh : Int) % 2 == 0) = false := by rw [beq_eq_false_iff_ne]; exact h2
          clear hfine
          obtain ⟨m5, hm5⟩ : ∃ m5, m5 = m := ⟨_, rfl⟩
          obtain ⟨W5, hW5⟩ : ∃ W5, W5 = W4 := ⟨_, rfl⟩
          rw [← hm5, ← hW5] at hB4
          rw [← hW5] at hk4 hb04 ⊢
          have hB5 := hB4
          have hk5 := hk4
          have hb05 := hb04
          clear hm5 hW5 hB4 hk4 hb04
          have hfine := hB5.fine
          have Hall := Lib.hid (all_any hB5 (by omega))
          go_wp2_with fail
          refine Hall.out.mono ?_
          rintro e W6 ⟨was, rfl, hc6, hb6, hln⟩
          have hfl : List.length m5 ≤ maxLen := by simp only [maxLen]; omega
          have hB6 := hB5.below hb6
          have hk6 := hk5.below hb6 hk5.lt
          have hb06 := hb05.trans (hb6.mono hb05.size)
          clear Hall hB5 hk5 hb05 hb6
          have h3 : (wh : Int) % 3 = 0 ∨ (wh : Int) % 3 = 1 ∨ (wh : Int) % 3 = 2 := by omega
          rcases h3 with h3 | h3 | h3
          · obtain ⟨c0, c1, c2, c3, c4, c5, c6⟩ := hk6.cells7
            have Hs := Lib.hid (send_any hB6 (by simp only [maxLen]; omega) ⟨pc, p1, p2, pd, pa, pf, pt⟩ hpk)
            have Hsame := Lib.hid (Bk.send_same hfine pc pd.data.toList pa pf.data.toList pt.data.toList)
            have hcm := hc6.ne_map hB6
            go_wp2_with fail
            refine Hs.out.mono ?_
            rintro e W7 ⟨v7, rfl, he7, hB7, hg7⟩
            have hc7 := hc6.grown hg7 (fun j e => by cases e; exact hcm)
            have hb07 := below_of_grown hb06 hg7 (by omega)
            clear Hs hc6 hB6 hk6 hb06 hg7 hcm c0 c1 c2 c3 c4 c5 c6
            try simp only at he7 hB7
            generalize Bk.sendM m5 pc pd.data.toList pa pf.data.toList pt.data.toList = r7 at *
            have hB7' := hB7.drew
            have Hall := Lib.hid (all_any hB7' (by omega))
            have hc7' : CoinsAt W7.drew W5.heap.size was m5 := hc7
            have hb07' := below_drewN' hb07 1
            by_cases hr : r7.1 = 0
            · rw [hr] at he7
              obtain rfl := he7.zero
              have hne : decide (r7.2 = m5) = false := decide_eq_false fun e => Hsame.out.1 e hr
              have Hne := Lib.hid hne
              clear he7 hc7 hb07 hB7 hB7' hne
              go_wp2
              go_region_with (first
                | (go_at_call 15; refine Hall.out.mono ?_; rintro e W9 ⟨now, rfl, hc9, hb9, hl9⟩; have hw9 := hc7'.grown (below_grown hb9 none) (fun j e => by cases e); have hb09 := hb07'.trans (hb9.mono hb07'.size); have Hsm := same_any hc9 hw9 (by simp only [maxLen]; omega) hfl; rw [Hne.out] at Hsm)
                | (go_at_call 18; refine Hsm.mono ?_; rintro e W10 ⟨rfl, q, rfl⟩))
              have hb10 := below_drewN' hb09 q
              go_wp2
              go_ret
              exact ⟨rfl, hb10⟩
            · obtain ⟨t1, x1, rfl⟩ := he7.some hr
              have hne : decide (r7.2 = m5) = true := decide_eq_true (Hsame.out.2 hr)
              have Hne := Lib.hid hne
              clear he7 hc7 hb07 hB7 hB7' hne
              go_wp2
              go_region_with (first
                | (go_at_call 15; refine Hall.out.mono ?_; rintro e W9 ⟨now, rfl, hc9, hb9, hl9⟩; have hw9 := hc7'.grown (below_grown hb9 none) (fun j e => by cases e); have hb09 := hb07'.trans (hb9.mono hb07'.size); have Hsm := same_any hc9 hw9 (by simp only [maxLen]; omega) hfl; rw [Hne.out] at Hsm)
                | (go_at_call 18; refine Hsm.mono ?_; rintro e W10 ⟨rfl, q, rfl⟩))
              have hb10 := below_drewN' hb09 q
              go_wp2
              go_ret
              exact ⟨rfl, hb10⟩
          · obtain ⟨c0, c1, c2, c3, c4, c5, c6⟩ := hk6.cells7
            have Hs := Lib.hid (recv_any hB6 (by simp only [maxLen]; omega) ⟨pc, p1, p2, pd, pa, pf, pt⟩ hpk)
            have Hsame := Lib.hid (Bk.recv_same hfine pc pd.data.toList pa pf.data.toList pt.data.toList)
            have hcm := hc6.ne_map hB6
            go_wp2_with fail
            refine Hs.out.mono ?_
            rintro e W7 ⟨v7, rfl, he7, hB7, hg7⟩
            have hc7 := hc6.grown hg7 (fun j e => by cases e; exact hcm)
            have hb07 := below_of_grown hb06 hg7 (by omega)
            clear Hs hc6 hB6 hk6 hb06 hg7 hcm c0 c1 c2 c3 c4 c5 c6
            try simp only at he7 hB7
            generalize Bk.recvM m5 pc pd.data.toList pa pf.data.toList pt.data.toList = r7 at *
            have hB7' := hB7.drew
            have Hall := Lib.hid (all_any hB7' (by omega))
            have hc7' : CoinsAt W7.drew W5.heap.size was m5 := hc7
            have hb07' := below_drewN' hb07 1
            by_cases hr : r7.1 = 0
            · rw [hr] at he7
              obtain rfl := he7.zero
              have hne : decide (r7.2 = m5) = false := decide_eq_false fun e => Hsame.out.1 e hr
              have Hne := Lib.hid hne
              clear he7 hc7 hb07 hB7 hB7' hne
              go_wp2
              go_region_with (first
                | (go_at_call 15; refine Hall.out.mono ?_; rintro e W9 ⟨now, rfl, hc9, hb9, hl9⟩; have hw9 := hc7'.grown (below_grown hb9 none) (fun j e => by cases e); have hb09 := hb07'.trans (hb9.mono hb07'.size); have Hsm := same_any hc9 hw9 (by simp only [maxLen]; omega) hfl; rw [Hne.out] at Hsm)
                | (go_at_call 18; refine Hsm.mono ?_; rintro e W10 ⟨rfl, q, rfl⟩))
              have hb10 := below_drewN' hb09 q
              go_wp2
              go_ret
              exact ⟨rfl, hb10⟩
            · obtain ⟨t1, x1, rfl⟩ := he7.some hr
              have hne : decide (r7.2 = m5) = true := decide_eq_true (Hsame.out.2 hr)
              have Hne := Lib.hid hne
              clear he7 hc7 hb07 hB7 hB7' hne
              go_wp2
              go_region_with (first
                | (go_at_call 15; refine Hall.out.mono ?_; rintro e W9 ⟨now, rfl, hc9, hb9, hl9⟩; have hw9 := hc7'.grown (below_grown hb9 none) (fun j e => by cases e); have hb09 := hb07'.trans (hb9.mono hb07'.size); have Hsm := same_any hc9 hw9 (by simp only [maxLen]; omega) hfl; rw [Hne.out] at Hsm)
                | (go_at_call 18; refine Hsm.mono ?_; rintro e W10 ⟨rfl, q, rfl⟩))
              have hb10 := below_drewN' hb09 q
              go_wp2
              go_ret
              exact ⟨rfl, hb10⟩
          · obtain ⟨c0, c1, c2, c3, c4, c5, c6⟩ := hk6.cells7
            have Hs := Lib.hid (refund_any hB6 (by simp only [maxLen]; omega) ⟨pc, p1, p2, pd, pa, pf, pt⟩ hpk)
            have Hsame := Lib.hid (Bk.refund_same hfine pc pd.data.toList pa pf.data.toList pt.data.toList)
            have hcm := hc6.ne_map hB6
            go_wp2_with fail
            refine Hs.out.mono ?_
            rintro e W7 ⟨v7, rfl, he7, hB7, hg7⟩
            have hc7 := hc6.grown hg7 (fun j e => by cases e; exact hcm)
            have hb07 := below_of_grown hb06 hg7 (by omega)
            clear Hs hc6 hB6 hk6 hb06 hg7 hcm c0 c1 c2 c3 c4 c5 c6
            try simp only at he7 hB7
            generalize Bk.refundM m5 pc pd.data.toList pa pf.data.toList pt.data.toList = r7 at *
            have hB7' := hB7.drew
            have Hall := Lib.hid (all_any hB7' (by omega))
            have hc7' : CoinsAt W7.drew W5.heap.size was m5 := hc7
            have hb07' := below_drewN' hb07 1
            by_cases hr : r7.1 = 0
            · rw [hr] at he7
              obtain rfl := he7.zero
              have hne : decide (r7.2 = m5) = false := decide_eq_false fun e => Hsame.out.1 e hr
              have Hne := Lib.hid hne
              clear he7 hc7 hb07 hB7 hB7' hne
              go_wp2
              go_region_with (first
                | (go_at_call 15; refine Hall.out.mono ?_; rintro e W9 ⟨now, rfl, hc9, hb9, hl9⟩; have hw9 := hc7'.grown (below_grown hb9 none) (fun j e => by cases e); have hb09 := hb07'.trans (hb9.mono hb07'.size); have Hsm := same_any hc9 hw9 (by simp only [maxLen]; omega) hfl; rw [Hne.out] at Hsm)
                | (go_at_call 18; refine Hsm.mono ?_; rintro e W10 ⟨rfl, q, rfl⟩))
              have hb10 := below_drewN' hb09 q
              go_wp2
              go_ret
              exact ⟨rfl, hb10⟩
            · obtain ⟨t1, x1, rfl⟩ := he7.some hr
              have hne : decide (r7.2 = m5) = true := decide_eq_true (Hsame.out.2 hr)
              have Hne := Lib.hid hne
              clear he7 hc7 hb07 hB7 hB7' hne
              go_wp2
              go_region_with (first
                | (go_at_call 15; refine Hall.out.mono ?_; rintro e W9 ⟨now, rfl, hc9, hb9, hl9⟩; have hw9 := hc7'.grown (below_grown hb9 none) (fun j e => by cases e); have hb09 := hb07'.trans (hb9.mono hb07'.size); have Hsm := same_any hc9 hw9 (by simp only [maxLen]; omega) hfl; rw [Hne.out] at Hsm)
                | (go_at_call 18; refine Hsm.mono ?_; rintro e W10 ⟨rfl, q, rfl⟩))
              have hb10 := below_drewN' hb09 q
              go_wp2
              go_ret
              exact ⟨rfl, hb10⟩
end Go.Proofs.Ytidkamnciomnmaa
