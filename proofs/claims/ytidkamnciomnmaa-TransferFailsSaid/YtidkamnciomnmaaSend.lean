/-
  THE CONTRACTS OF transfer.Send, Receive, Refund.
-/
import Derived.Test.YtidkamnciomnmaaThere
import Derived.Test.YtidkamnciomnmaaDet
import Derived.Shelf.Abstract
namespace Go.Proofs.Ytidkamnciomnmaa
open Go.RowKit Go.Maps Go.Lib

theorem BankPost.up {K b mb n : Nat} {r : Nat × Bk.M} {w w' : World} {e : Ending} (h : BankPost K b mb n r w e w') (j i : Nat) : BankPost (K + j) b mb (n + i) r w e w' := by
  obtain ⟨v, he, h1, h2, h3⟩ := h
  exact ⟨v, he, h1.mono j, h2.mono (Nat.le_add_right _ _), h3⟩

/-- a check has failed: nothing has happened -/
theorem post_err {b mb n N : Nat} {m : Bk.M} {r : Nat × Bk.M} {w W1 : World} {v : Value} (hB : BankAt w b mb n m) (h : ErrD W1 2 v N) (hb : Below w.heap.size w W1) (hr : r = (N, m)) (i : Nat) : BankPost 3 b mb (n + i) r w (.returned v) W1 := by
  subst hr
  exact ⟨v, rfl, h.mono 1, (hB.below hb).mono (Nat.le_add_right _ _), below_grown hb _⟩

/-- fault.At behind a call of the bank -/
theorem post_at {K b mb n : Nat} {r : Nat × Bk.M} {w W1 W2 W3 : World} {v' : Value} (hb : Below w.heap.size w W1) (h2 : BankAt W2 b mb n r.2) (hg : W1.grownBy W2 (some mb)) (h3 : ErrD W3 (K + 1) v' r.1) (hb3 : Below W2.heap.size W2 W3) :
    BankPost (K + 1) b mb n r w (.returned v') W3 :=
  ⟨v', rfl, h3, h2.below hb3, grown_trans (below_grown hb _) (grown_trans hg (below_grown hb3 _))⟩

theorem two_cases {j : Nat} {b : Prop} [Decidable b] (h : j ≤ if b then 0 else 1) : j = 0 ∨ j = 1 := by
  split at h <;> omega
theorem esc_le (k : Nat) : (st (Bk.escrow k)).size ≤ maxLen := by
  rw [show (st (Bk.escrow k)).size = 8 from rfl]
  simp [maxLen]

set_option maxRecDepth 100000 in
set_option maxHeartbeats 1000000 in
theorem send_any {b mb n : Nat} {m : Bk.M} {w : World} (hB : BankAt w b mb n m) (hn : n + 2 < maxLen) (p : Pk7) (hp : p.ok) :
    Calls Try.prog 12 #[.pointer (some ⟨b, 0, none⟩), .agg (encP7 p)] w (BankPost 3 b mb (n + 3) (Bk.sendM m p.chan p.den.data.toList p.amt p.src.data.toList p.dst.data.toList) w) := by
  have hck := tcheck_any p hp (w.alloc (.cells (encP7 p) 37))
  obtain ⟨R, hR⟩ : ∃ R, R = Bk.sendM m p.chan p.den.data.toList p.amt p.src.data.toList p.dst.data.toList := ⟨_, rfl⟩
  rw [← hR]
  unfold Bk.sendM at hR
  obtain ⟨c, x1, x2, d, a, f, t⟩ := p
  obtain ⟨hd, hf, ht, ha⟩ := hp
  simp only [encP7, Pk7.n] at *
  have hb0 : Below w.heap.size w (w.alloc (.cells #[.int .i64 c, .int .u64 x1, .int .u64 x2, .string d, .int .u64 a, .string f, .string t] 37)) := (Below.refl _ _).alloc (Nat.le_refl _) _
  have hP0 : Blk (w.alloc (.cells #[.int .i64 c, .int .u64 x1, .int .u64 x2, .string d, .int .u64 a, .string f, .string t] 37)) w.heap.size 37 #[.int .i64 c, .int .u64 x1, .int .u64 x2, .string d, .int .u64 a, .string f, .string t] := Blk.new _ _ _
  unfold CheckPost at hck
  generalize hN : Bk.checkN c d.data.toList a f.data.toList t.data.toList = N at *
  have Hck := Lib.hid hck
  have HR := Lib.hid hR
  clear hck hR
  go_enter Try.func12, Try.ntmps12
  go_wp2_with fail
  refine Hck.out.mono ?_
  rintro e W1 ⟨v, rfl, he, hb1⟩
  have hb01 := hb0.trans (hb1.mono hb0.size)
  have hP1 := hP0.below hb1 hP0.lt
  clear Hck hb0 hb1 hP0
  by_cases hN0 : N = 0
  · subst hN0
    obtain rfl := he.zero
    obtain ⟨hth, _, _, _⟩ := Bk.checkN_ok hN
    clear he hN
    obtain ⟨k, rfl⟩ : ∃ k : Nat, c = k := ⟨c.toNat, by
      unfold Bk.there at hth
      by_cases h : c < 0 ∨ 4 ≤ c
      · rw [if_pos h] at hth; cases hth
      · omega⟩
    have hk4 : k < 4 := by
      unfold Bk.there at hth
      by_cases h : (k : Int) < 0 ∨ 4 ≤ (k : Int)
      · rw [if_pos h] at hth; cases hth
      · omega
    have hR : R = if Bk.backB k d.data.toList = true then Bk.take m f.data.toList d.data.toList a else Bk.move m f.data.toList (Bk.escrow k) d.data.toList a := by
      have := HR.out
      rwa [if_neg (by simp), Int.toNat_natCast] at this
    clear HR hth
    have Hbk := Lib.hid (back_any k hk4 d W1)
    have c0 := hP1.cell 0
    have c3 := hP1.cell 3
    simp only [List.getElem?_toArray, List.getElem?_cons_zero, List.getElem?_cons_succ] at c0 c3
    generalize hbb : Bk.backB k d.data.toList = bb at *
    clear hbb
    unfold Bk.maxU at ha
    have HR := Lib.hid hR
    have HB := Lib.hid hB
    clear hR hB
    go_wp2_with fail
    refine Hbk.out.mono ?_
    rintro e W2 ⟨rfl, hb2⟩
    have hb02 := hb01.trans (hb2.mono hb01.size)
    have hP2 := hP1.below hb2 hP1.lt
    clear Hbk hb01 hb2 hP1 c0 c3
    have c0 := hP2.cell 0
    have c3 := hP2.cell 3
    have c4 := hP2.cell 4
    have c5 := hP2.cell 5
    simp only [List.getElem?_toArray, List.getElem?_cons_zero, List.getElem?_cons_succ] at c0 c3 c4 c5
    have HB2 := Lib.hid (HB.out.below hb02)
    cases bb with
    | true =>
      have hR : R = Bk.take m f.data.toList d.data.toList a := by rw [HR.out]; simp
      have htk := take_any HB2.out (by omega) f d a hf hd ha
      rw [← hR] at htk
      have Htk := Lib.hid htk
      clear htk hR HR
      go_wp2_with fail
      refine Htk.out.mono ?_
      rintro e W3 ⟨v, rfl, hev, hB3, hg3⟩
      have Hf := fun (W4 : World) (v' : Value) (h : ErrD W4 2 v' R.1) (h4 : Below W3.heap.size W3 W4) => (post_at (K := 1) hb02 hB3 hg3 h h4).up 1 2
      have Hev := Lib.hid hev
      clear hev hB3 hg3 Htk
      go_wp2_with (go_at_call 23; refine (at_any _ _ _ Hev.out).mono ?_; rintro e W4 ⟨v', rfl, hev', hb4⟩)
      go_ret
      exact Hf _ _ hev' hb4
    | false =>
      have hR : R = Bk.move m f.data.toList (Bk.escrow k) d.data.toList a := by rw [HR.out]; simp
      have hc : ∀ W, BankAt W b mb n m → Calls Try.prog 27 #[.pointer (some ⟨b, 0, none⟩), .string f, .string (st (Bk.escrow k)), .string d, .int .u64 a] W (BankPost 2 b mb (n + 3) R W) := fun W hW => by
        have := move_any hW hn f (st (Bk.escrow k)) d a hf (esc_le k) hd ha
        rwa [data_st, ← hR] at this
      have Hmv := Lib.hid hc
      have Hes := Lib.hid (escrow_any k hk4)
      clear hc hR HR
      go_wp2
      refine wp_region_detT (A := ?A) [.pointer (some ⟨b, 0, none⟩), .pointer (some ⟨w.heap.size, 5, none⟩), .string f, .pointer (some ⟨w.heap.size, 0, none⟩), .int .i64 k, .string (st (Bk.escrow k)), .pointer (some ⟨w.heap.size, 3, none⟩), .string d, .pointer (some ⟨w.heap.size, 4, none⟩), .int .u64 a]
        [5] (fun i => if i = 3 ∨ i = 4 then 0 else 1) (fun | 0 => W2.drew | _ => W2.drew.alloc (.cells #[.int .u8 (48 + (k : Int) % 10)] 5)) (by kernel_rfl) ?hA ?hs ?hB ?hr rfl ?hQ
      case hA => simp only [List.zip_cons_cons, List.zip_nil_right, List.foldl_cons, List.foldl_nil, Act.put, List.setIfInBounds_toArray, List.set_cons_succ, List.set_cons_zero]; rfl
      case hs => kernel_rfl
      case hB => kernel_rfl
      case hr =>
        have hPa : Blk (W2.alloc (.cells #[.int .u8 (48 + (k : Int) % 10)] 5)) w.heap.size 37 #[.int .i64 k, .int .u64 x1, .int .u64 x2, .string d, .int .u64 a, .string f, .string t] := hP2.alloc _
        have d3 := hPa.cell 3
        have d4 := hPa.cell 4
        have d5 := hPa.cell 5
        simp only [List.getElem?_toArray, List.getElem?_cons_zero, List.getElem?_cons_succ] at d3 d4 d5
        have ent : ∀ args W, (callFunc 28 args).run Try.prog W = .ok (.enter 28 args) W := enters_of Try.func28 (by kernel_rfl) rfl
        simp only [List.length_cons, List.length_nil, Nat.reduceAdd, List.take_succ_cons, List.take_zero, Runs]
        refine ⟨.inl ⟨by decide, fun j hj => ?_⟩, .inl ⟨by decide, fun j hj => ?_⟩, .inl ⟨by decide, fun j hj => ?_⟩, .inl ⟨by decide, fun j hj => ?_⟩, .inl ⟨by decide, fun j hj => ?_⟩, .inr ⟨0, rfl, ?_⟩, .inl ⟨by decide, fun j hj => ?_⟩, .inl ⟨by decide, fun j hj => ?_⟩, .inl ⟨by decide, fun j hj => ?_⟩, .inl ⟨by decide, fun j hj => ?_⟩, trivial⟩
        · exact .inr ⟨.pointer (some ⟨b, 0, none⟩), by simp [go_sem], by intro d hd; cases hd; rfl⟩
        · exact .inr ⟨.pointer (some ⟨w.heap.size, 5, none⟩), by simp [go_sem], by intro d hd; cases hd; rfl⟩
        · rcases two_cases hj with rfl | rfl
          · exact .inr ⟨.string f, by simp [go_sem, c5], by intro d hd; cases hd; rfl⟩
          · exact .inr ⟨.string f, by simp [go_sem, d5], by intro d hd; cases hd; rfl⟩
        · exact .inr ⟨.pointer (some ⟨w.heap.size, 0, none⟩), by simp [go_sem], by intro d hd; cases hd; rfl⟩
        · obtain rfl : j = 0 := by simpa using hj
          exact .inr ⟨.int .i64 k, by simp [go_sem, c0], by intro d hd; cases hd; rfl⟩
        · exact .call ⟨.string (st (Bk.escrow k)), 28, #[.int .i64 k], W2.drew, by simp [go_sem, ent], Hes.out _, by intro d hd; cases hd; rfl⟩
        · exact .inr ⟨.pointer (some ⟨w.heap.size, 3, none⟩), by simp [go_sem], by intro d hd; cases hd; rfl⟩
        · rcases two_cases hj with rfl | rfl
          · exact .inr ⟨.string d, by simp [go_sem, c3], by intro d hd; cases hd; rfl⟩
          · exact .inr ⟨.string d, by simp [go_sem, d3], by intro d hd; cases hd; rfl⟩
        · exact .inr ⟨.pointer (some ⟨w.heap.size, 4, none⟩), by simp [go_sem], by intro d hd; cases hd; rfl⟩
        · rcases two_cases hj with rfl | rfl
          · exact .inr ⟨.int .u64 a, by simp [go_sem, c4], by intro d hd; cases hd; rfl⟩
          · exact .inr ⟨.int .u64 a, by simp [go_sem, d4], by intro d hd; cases hd; rfl⟩
      case hQ =>
        simp only [List.length_cons, List.length_nil, Nat.reduceAdd, List.drop_succ_cons, List.drop_zero]
        change wpList _ _ _ _ _ (W2.drew.alloc (.cells #[.int .u8 (48 + (k : Int) % 10)] 5))
        have hb02' : Below w.heap.size w (W2.drew.alloc (.cells #[.int .u8 (48 + (k : Int) % 10)] 5)) := Below.alloc (below_drewN' hb02 1) hb02.size _
        have hBW : BankAt (W2.drew.alloc (.cells #[.int .u8 (48 + (k : Int) % 10)] 5)) b mb n m := HB2.out.drew.alloc _
        have Hm := Lib.hid (Hmv.out _ hBW)
        clear hBW Hmv HB2 c0 c3 c4 c5 hP2
        generalize W2.drew.alloc (.cells #[.int .u8 (48 + (k : Int) % 10)] 5) = Wm at *
        go_wp2_with fail
        refine Hm.out.mono ?_
        rintro e W3 ⟨v, rfl, hev, hB3, hg3⟩
        have Hf := fun (W4 : World) (v' : Value) (h : ErrD W4 3 v' R.1) (h4 : Below W3.heap.size W3 W4) => post_at (K := 2) hb02' hB3 hg3 h h4
        have Hev := Lib.hid hev
        clear hev hB3 hg3 Hm
        go_wp2_with (go_at_call 23; refine (at_any _ _ _ Hev.out).mono ?_; rintro e W4 ⟨v', rfl, hev', hb4⟩)
        go_ret
        exact Hf _ _ hev' hb4
  · obtain ⟨t1, x, rfl⟩ := he.some hN0
    have He := Lib.hid (post_err (r := R) hB he hb01 (by rw [HR.out, if_pos hN0]) 3)
    clear he hN hP1
    go_wp2
    go_ret
    exact He.out

set_option maxRecDepth 100000 in
set_option maxHeartbeats 1000000 in
theorem refund_any {b mb n : Nat} {m : Bk.M} {w : World} (hB : BankAt w b mb n m) (hn : n + 2 < maxLen) (p : Pk7) (hp : p.ok) :
    Calls Try.prog 19 #[.pointer (some ⟨b, 0, none⟩), .agg (encP7 p)] w (BankPost 3 b mb (n + 3) (Bk.refundM m p.chan p.den.data.toList p.amt p.src.data.toList p.dst.data.toList) w) := by
  have hck := tcheck_any p hp (w.alloc (.cells (encP7 p) 37))
  obtain ⟨R, hR⟩ : ∃ R, R = Bk.refundM m p.chan p.den.data.toList p.amt p.src.data.toList p.dst.data.toList := ⟨_, rfl⟩
  rw [← hR]
  unfold Bk.refundM at hR
  obtain ⟨c, x1, x2, d, a, f, t⟩ := p
  obtain ⟨hd, hf, ht, ha⟩ := hp
  simp only [encP7, Pk7.n] at *
  have hb0 : Below w.heap.size w (w.alloc (.cells #[.int .i64 c, .int .u64 x1, .int .u64 x2, .string d, .int .u64 a, .string f, .string t] 37)) := (Below.refl _ _).alloc (Nat.le_refl _) _
  have hP0 : Blk (w.alloc (.cells #[.int .i64 c, .int .u64 x1, .int .u64 x2, .string d, .int .u64 a, .string f, .string t] 37)) w.heap.size 37 #[.int .i64 c, .int .u64 x1, .int .u64 x2, .string d, .int .u64 a, .string f, .string t] := Blk.new _ _ _
  unfold CheckPost at hck
  generalize hN : Bk.checkN c d.data.toList a f.data.toList t.data.toList = N at *
  have Hck := Lib.hid hck
  have HR := Lib.hid hR
  clear hck hR
  go_enter Try.func19, Try.ntmps19
  go_wp2_with fail
  refine Hck.out.mono ?_
  rintro e W1 ⟨v, rfl, he, hb1⟩
  have hb01 := hb0.trans (hb1.mono hb0.size)
  have hP1 := hP0.below hb1 hP0.lt
  clear Hck hb0 hb1 hP0
  by_cases hN0 : N = 0
  · subst hN0
    obtain rfl := he.zero
    obtain ⟨hth, _, _, _⟩ := Bk.checkN_ok hN
    clear he hN
    obtain ⟨k, rfl⟩ : ∃ k : Nat, c = k := ⟨c.toNat, by
      unfold Bk.there at hth
      by_cases h : c < 0 ∨ 4 ≤ c
      · rw [if_pos h] at hth; cases hth
      · omega⟩
    have hk4 : k < 4 := by
      unfold Bk.there at hth
      by_cases h : (k : Int) < 0 ∨ 4 ≤ (k : Int)
      · rw [if_pos h] at hth; cases hth
      · omega
    have hR : R = if Bk.backB k d.data.toList = true then Bk.give m f.data.toList d.data.toList a else Bk.move m (Bk.escrow k) f.data.toList d.data.toList a := by
      have := HR.out
      rwa [if_neg (by simp), Int.toNat_natCast] at this
    clear HR hth
    have Hbk := Lib.hid (back_any k hk4 d W1)
    have c0 := hP1.cell 0
    have c3 := hP1.cell 3
    simp only [List.getElem?_toArray, List.getElem?_cons_zero, List.getElem?_cons_succ] at c0 c3
    generalize hbb : Bk.backB k d.data.toList = bb at *
    clear hbb
    unfold Bk.maxU at ha
    have HR := Lib.hid hR
    have HB := Lib.hid hB
    clear hR hB
    go_wp2_with fail
    refine Hbk.out.mono ?_
    rintro e W2 ⟨rfl, hb2⟩
    have hb02 := hb01.trans (hb2.mono hb01.size)
    have hP2 := hP1.below hb2 hP1.lt
    clear Hbk hb01 hb2 hP1 c0 c3
    have c0 := hP2.cell 0
    have c3 := hP2.cell 3
    have c4 := hP2.cell 4
    have c5 := hP2.cell 5
    simp only [List.getElem?_toArray, List.getElem?_cons_zero, List.getElem?_cons_succ] at c0 c3 c4 c5
    have HB2 := Lib.hid (HB.out.below hb02)
    cases bb with
    | true =>
      have hR : R = Bk.give m f.data.toList d.data.toList a := by rw [HR.out]; simp
      have htk := give_any HB2.out (by omega) f d a hf hd ha
      rw [← hR] at htk
      have Htk := Lib.hid htk
      clear htk hR HR
      go_wp2_with fail
      refine Htk.out.mono ?_
      rintro e W3 ⟨v, rfl, hev, hB3, hg3⟩
      have Hf := fun (W4 : World) (v' : Value) (h : ErrD W4 2 v' R.1) (h4 : Below W3.heap.size W3 W4) => (post_at (K := 1) hb02 hB3 hg3 h h4).up 1 2
      have Hev := Lib.hid hev
      clear hev hB3 hg3 Htk
      go_wp2_with (go_at_call 23; refine (at_any _ _ _ Hev.out).mono ?_; rintro e W4 ⟨v', rfl, hev', hb4⟩)
      go_ret
      exact Hf _ _ hev' hb4
    | false =>
      have hR : R = Bk.move m (Bk.escrow k) f.data.toList d.data.toList a := by rw [HR.out]; simp
      have hc : ∀ W, BankAt W b mb n m → Calls Try.prog 27 #[.pointer (some ⟨b, 0, none⟩), .string (st (Bk.escrow k)), .string f, .string d, .int .u64 a] W (BankPost 2 b mb (n + 3) R W) := fun W hW => by
        have := move_any hW hn (st (Bk.escrow k)) f d a (esc_le k) hf hd ha
        rwa [data_st, ← hR] at this
      have Hmv := Lib.hid hc
      have Hes := Lib.hid (escrow_any k hk4)
      clear hc hR HR
      go_wp2
      refine wp_region_detT (A := ?A) [.pointer (some ⟨b, 0, none⟩), .pointer (some ⟨w.heap.size, 0, none⟩), .int .i64 k, .string (st (Bk.escrow k)), .pointer (some ⟨w.heap.size, 5, none⟩), .string f, .pointer (some ⟨w.heap.size, 3, none⟩), .string d, .pointer (some ⟨w.heap.size, 4, none⟩), .int .u64 a]
        [3] (fun i => if i = 1 ∨ i = 2 then 0 else 1) (fun | 0 => W2.drew | _ => W2.drew.alloc (.cells #[.int .u8 (48 + (k : Int) % 10)] 5)) (by kernel_rfl) ?hA ?hs ?hB ?hr rfl ?hQ
      case hA => simp only [List.zip_cons_cons, List.zip_nil_right, List.foldl_cons, List.foldl_nil, Act.put, List.setIfInBounds_toArray, List.set_cons_succ, List.set_cons_zero]; rfl
      case hs => kernel_rfl
      case hB => kernel_rfl
      case hr =>
        have hPa : Blk (W2.alloc (.cells #[.int .u8 (48 + (k : Int) % 10)] 5)) w.heap.size 37 #[.int .i64 k, .int .u64 x1, .int .u64 x2, .string d, .int .u64 a, .string f, .string t] := hP2.alloc _
        have d3 := hPa.cell 3
        have d4 := hPa.cell 4
        have d5 := hPa.cell 5
        simp only [List.getElem?_toArray, List.getElem?_cons_zero, List.getElem?_cons_succ] at d3 d4 d5
        have ent : ∀ args W, (callFunc 28 args).run Try.prog W = .ok (.enter 28 args) W := enters_of Try.func28 (by kernel_rfl) rfl
        simp only [List.length_cons, List.length_nil, Nat.reduceAdd, List.take_succ_cons, List.take_zero, Runs]
        refine ⟨.inl ⟨by decide, fun j hj => ?_⟩, .inl ⟨by decide, fun j hj => ?_⟩, .inl ⟨by decide, fun j hj => ?_⟩, .inr ⟨0, rfl, ?_⟩, .inl ⟨by decide, fun j hj => ?_⟩, .inl ⟨by decide, fun j hj => ?_⟩, .inl ⟨by decide, fun j hj => ?_⟩, .inl ⟨by decide, fun j hj => ?_⟩, .inl ⟨by decide, fun j hj => ?_⟩, .inl ⟨by decide, fun j hj => ?_⟩, trivial⟩
        · exact .inr ⟨.pointer (some ⟨b, 0, none⟩), by simp [go_sem], by intro d hd; cases hd; rfl⟩
        · exact .inr ⟨.pointer (some ⟨w.heap.size, 0, none⟩), by simp [go_sem], by intro d hd; cases hd; rfl⟩
        · obtain rfl : j = 0 := by simpa using hj
          exact .inr ⟨.int .i64 k, by simp [go_sem, c0], by intro d hd; cases hd; rfl⟩
        · exact .call ⟨.string (st (Bk.escrow k)), 28, #[.int .i64 k], W2.drew, by simp [go_sem, ent], Hes.out _, by intro d hd; cases hd; rfl⟩
        · exact .inr ⟨.pointer (some ⟨w.heap.size, 5, none⟩), by simp [go_sem], by intro d hd; cases hd; rfl⟩
        · rcases two_cases hj with rfl | rfl
          · exact .inr ⟨.string f, by simp [go_sem, c5], by intro d hd; cases hd; rfl⟩
          · exact .inr ⟨.string f, by simp [go_sem, d5], by intro d hd; cases hd; rfl⟩
        · exact .inr ⟨.pointer (some ⟨w.heap.size, 3, none⟩), by simp [go_sem], by intro d hd; cases hd; rfl⟩
        · rcases two_cases hj with rfl | rfl
          · exact .inr ⟨.string d, by simp [go_sem, c3], by intro d hd; cases hd; rfl⟩
          · exact .inr ⟨.string d, by simp [go_sem, d3], by intro d hd; cases hd; rfl⟩
        · exact .inr ⟨.pointer (some ⟨w.heap.size, 4, none⟩), by simp [go_sem], by intro d hd; cases hd; rfl⟩
        · rcases two_cases hj with rfl | rfl
          · exact .inr ⟨.int .u64 a, by simp [go_sem, c4], by intro d hd; cases hd; rfl⟩
          · exact .inr ⟨.int .u64 a, by simp [go_sem, d4], by intro d hd; cases hd; rfl⟩
      case hQ =>
        simp only [List.length_cons, List.length_nil, Nat.reduceAdd, List.drop_succ_cons, List.drop_zero]
        change wpList _ _ _ _ _ (W2.drew.alloc (.cells #[.int .u8 (48 + (k : Int) % 10)] 5))
        have hb02' : Below w.heap.size w (W2.drew.alloc (.cells #[.int .u8 (48 + (k : Int) % 10)] 5)) := Below.alloc (below_drewN' hb02 1) hb02.size _
        have hBW : BankAt (W2.drew.alloc (.cells #[.int .u8 (48 + (k : Int) % 10)] 5)) b mb n m := HB2.out.drew.alloc _
        have Hm := Lib.hid (Hmv.out _ hBW)
        clear hBW Hmv HB2 c0 c3 c4 c5 hP2
        generalize W2.drew.alloc (.cells #[.int .u8 (48 + (k : Int) % 10)] 5) = Wm at *
        go_wp2_with fail
        refine Hm.out.mono ?_
        rintro e W3 ⟨v, rfl, hev, hB3, hg3⟩
        have Hf := fun (W4 : World) (v' : Value) (h : ErrD W4 3 v' R.1) (h4 : Below W3.heap.size W3 W4) => post_at (K := 2) hb02' hB3 hg3 h h4
        have Hev := Lib.hid hev
        clear hev hB3 hg3 Hm
        go_wp2_with (go_at_call 23; refine (at_any _ _ _ Hev.out).mono ?_; rintro e W4 ⟨v', rfl, hev', hb4⟩)
        go_ret
        exact Hf _ _ hev' hb4
  · obtain ⟨t1, x, rfl⟩ := he.some hN0
    have He := Lib.hid (post_err (r := R) hB he hb01 (by rw [HR.out, if_pos hN0]) 3)
    clear he hN hP1
    go_wp2
    go_ret
    exact He.out

theorem there_le (c : Int) (s : Bk.S) : (Bk.there c s).1.length ≤ 44 := by
  unfold Bk.there
  split
  · simp
  · split
    · simp
    · rename_i h
      have hk : Bk.chk s = true := by simpa using h
      have h40 : s.length ≤ 40 := by
        simp only [Bk.chk, Bool.and_eq_true, decide_eq_true_eq] at hk
        exact hk.1.2
      split
      · simp; omega
      · split
        · simp
        · simp [Bk.pre]; omega

set_option maxRecDepth 100000 in
set_option maxHeartbeats 1000000 in
theorem recv_any {b mb n : Nat} {m : Bk.M} {w : World} (hB : BankAt w b mb n m) (hn : n + 2 < maxLen) (p : Pk7) (hp : p.ok) :
    Calls Try.prog 13 #[.pointer (some ⟨b, 0, none⟩), .agg (encP7 p)] w (BankPost 3 b mb (n + 3) (Bk.recvM m p.chan p.den.data.toList p.amt p.src.data.toList p.dst.data.toList) w) := by
  have hck := tcheck_any p hp (w.alloc (.cells (encP7 p) 37))
  obtain ⟨R, hR⟩ : ∃ R, R = Bk.recvM m p.chan p.den.data.toList p.amt p.src.data.toList p.dst.data.toList := ⟨_, rfl⟩
  rw [← hR]
  unfold Bk.recvM at hR
  obtain ⟨c, x1, x2, d, a, f, t⟩ := p
  obtain ⟨hd, hf, ht, ha⟩ := hp
  simp only [encP7, Pk7.n] at *
  have hb0 : Below w.heap.size w (w.alloc (.cells #[.int .i64 c, .int .u64 x1, .int .u64 x2, .string d, .int .u64 a, .string f, .string t] 37)) := (Below.refl _ _).alloc (Nat.le_refl _) _
  have hP0 : Blk (w.alloc (.cells #[.int .i64 c, .int .u64 x1, .int .u64 x2, .string d, .int .u64 a, .string f, .string t] 37)) w.heap.size 37 #[.int .i64 c, .int .u64 x1, .int .u64 x2, .string d, .int .u64 a, .string f, .string t] := Blk.new _ _ _
  unfold CheckPost at hck
  generalize hN : Bk.checkN c d.data.toList a f.data.toList t.data.toList = N at *
  have Hck := Lib.hid hck
  have HR := Lib.hid hR
  clear hck hR
  go_enter Try.func13, Try.ntmps13
  go_wp2_with fail
  refine Hck.out.mono ?_
  rintro e W1 ⟨v, rfl, he, hb1⟩
  have hb01 := hb0.trans (hb1.mono hb0.size)
  have hP1 := hP0.below hb1 hP0.lt
  clear Hck hb0 hb1 hP0
  by_cases hN0 : N = 0
  · subst hN0
    obtain rfl := he.zero
    obtain ⟨hth, _, _, _⟩ := Bk.checkN_ok hN
    clear he hN
    obtain ⟨k, rfl⟩ : ∃ k : Nat, c = k := ⟨c.toNat, by
      unfold Bk.there at hth
      by_cases h : c < 0 ∨ 4 ≤ c
      · rw [if_pos h] at hth; cases hth
      · omega⟩
    have hk4 : k < 4 := by
      unfold Bk.there at hth
      by_cases h : (k : Int) < 0 ∨ 4 ≤ (k : Int)
      · rw [if_pos h] at hth; cases hth
      · omega
    have hR : R = if Bk.backB k d.data.toList = true then Bk.move m (Bk.escrow k) t.data.toList (Bk.there k d.data.toList).1 a else Bk.give m t.data.toList (Bk.there k d.data.toList).1 a := by
      have := HR.out
      rwa [if_neg (by simp), Int.toNat_natCast] at this
    clear HR
    have hthr := there_any k d W1 hd
    unfold TherePost at hthr
    rw [hth] at hthr
    have hle := there_le k d.data.toList
    clear hth
    generalize (Bk.there k d.data.toList).1 = TH at *
    have Hth := Lib.hid hthr
    have Hbk := Lib.hid (fun W => back_any k hk4 d W)
    clear hthr
    have hTl : (st TH).size ≤ maxLen := by rw [show (st TH).size = TH.length from by simp [st, ByteArray.size]]; simp only [maxLen]; omega
    have c0 := hP1.cell 0
    have c3 := hP1.cell 3
    simp only [List.getElem?_toArray, List.getElem?_cons_zero, List.getElem?_cons_succ] at c0 c3
    generalize hbb : Bk.backB k d.data.toList = bb at *
    clear hbb
    unfold Bk.maxU at ha
    have HR := Lib.hid hR
    have HB := Lib.hid hB
    clear hR hB
    go_wp2_with fail
    refine Hth.out.mono ?_
    rintro e Wt ⟨rfl, hbt⟩
    have hb0t := hb01.trans (hbt.mono hb01.size)
    have hPt := hP1.below hbt hP1.lt
    clear Hth hb01 hbt hP1 c0 c3
    have c0 := hPt.cell 0
    have c3 := hPt.cell 3
    simp only [List.getElem?_toArray, List.getElem?_cons_zero, List.getElem?_cons_succ] at c0 c3
    go_wp2_with fail
    refine (Hbk.out _).mono ?_
    rintro e W2 ⟨rfl, hb2⟩
    have hb02 := hb0t.trans (hb2.mono hb0t.size)
    have hP2 := hPt.below hb2 hPt.lt
    clear Hbk hb0t hb2 hPt c0 c3
    have c0 := hP2.cell 0
    have c4 := hP2.cell 4
    have c6 := hP2.cell 6
    simp only [List.getElem?_toArray, List.getElem?_cons_zero, List.getElem?_cons_succ] at c0 c4 c6
    have HB2 := Lib.hid (HB.out.below hb02)
    cases bb with
    | false =>
      have hR : R = Bk.give m t.data.toList TH a := by rw [HR.out]; simp
      have htk := give_any HB2.out (by omega) t (st TH) a ht hTl ha
      rw [data_st, ← hR] at htk
      have Htk := Lib.hid htk
      clear htk hR HR
      go_wp2_with fail
      refine Htk.out.mono ?_
      rintro e W3 ⟨v, rfl, hev, hB3, hg3⟩
      have Hf := fun (W4 : World) (v' : Value) (h : ErrD W4 2 v' R.1) (h4 : Below W3.heap.size W3 W4) => (post_at (K := 1) hb02 hB3 hg3 h h4).up 1 2
      have Hev := Lib.hid hev
      clear hev hB3 hg3 Htk
      go_wp2_with (go_at_call 23; refine (at_any _ _ _ Hev.out).mono ?_; rintro e W4 ⟨v', rfl, hev', hb4⟩)
      go_ret
      exact Hf _ _ hev' hb4
    | true =>
      have hR : R = Bk.move m (Bk.escrow k) t.data.toList TH a := by rw [HR.out]; simp
      have hc : ∀ W, BankAt W b mb n m → Calls Try.prog 27 #[.pointer (some ⟨b, 0, none⟩), .string (st (Bk.escrow k)), .string t, .string (st TH), .int .u64 a] W (BankPost 2 b mb (n + 3) R W) := fun W hW => by
        have := move_any hW hn (st (Bk.escrow k)) t (st TH) a (esc_le k) ht hTl ha
        rwa [data_st, data_st, ← hR] at this
      have Hmv := Lib.hid hc
      have Hes := Lib.hid (escrow_any k hk4)
      clear hc hR HR
      go_wp2
      refine wp_region_detT (A := ?A) [.pointer (some ⟨b, 0, none⟩), .pointer (some ⟨w.heap.size, 0, none⟩), .int .i64 k, .string (st (Bk.escrow k)), .pointer (some ⟨w.heap.size, 6, none⟩), .string t, .string (st TH), .pointer (some ⟨w.heap.size, 4, none⟩), .int .u64 a]
        [3] (fun i => if i = 1 ∨ i = 2 then 0 else 1) (fun | 0 => W2.drew | _ => W2.drew.alloc (.cells #[.int .u8 (48 + (k : Int) % 10)] 5)) (by kernel_rfl) ?hA ?hs ?hB ?hr rfl ?hQ
      case hA => simp only [List.zip_cons_cons, List.zip_nil_right, List.foldl_cons, List.foldl_nil, Act.put, List.setIfInBounds_toArray, List.set_cons_succ, List.set_cons_zero]; rfl
      case hs => kernel_rfl
      case hB => kernel_rfl
      case hr =>
        have hPa : Blk (W2.alloc (.cells #[.int .u8 (48 + (k : Int) % 10)] 5)) w.heap.size 37 #[.int .i64 k, .int .u64 x1, .int .u64 x2, .string d, .int .u64 a, .string f, .string t] := hP2.alloc _
        have d4 := hPa.cell 4
        have d6 := hPa.cell 6
        simp only [List.getElem?_toArray, List.getElem?_cons_zero, List.getElem?_cons_succ] at d4 d6
        have ent : ∀ args W, (callFunc 28 args).run Try.prog W = .ok (.enter 28 args) W := enters_of Try.func28 (by kernel_rfl) rfl
        simp only [List.length_cons, List.length_nil, Nat.reduceAdd, List.take_succ_cons, List.take_zero, Runs]
        refine ⟨.inl ⟨by decide, fun j hj => ?_⟩, .inl ⟨by decide, fun j hj => ?_⟩, .inl ⟨by decide, fun j hj => ?_⟩, .inr ⟨0, rfl, ?_⟩, .inl ⟨by decide, fun j hj => ?_⟩, .inl ⟨by decide, fun j hj => ?_⟩, .inl ⟨by decide, fun j hj => ?_⟩, .inl ⟨by decide, fun j hj => ?_⟩, .inl ⟨by decide, fun j hj => ?_⟩, trivial⟩
        · exact .inr ⟨.pointer (some ⟨b, 0, none⟩), by simp [go_sem], by intro d hd; cases hd; rfl⟩
        · exact .inr ⟨.pointer (some ⟨w.heap.size, 0, none⟩), by simp [go_sem], by intro d hd; cases hd; rfl⟩
        · obtain rfl : j = 0 := by simpa using hj
          exact .inr ⟨.int .i64 k, by simp [go_sem, c0], by intro d hd; cases hd; rfl⟩
        · exact .call ⟨.string (st (Bk.escrow k)), 28, #[.int .i64 k], W2.drew, by simp [go_sem, ent], Hes.out _, by intro d hd; cases hd; rfl⟩
        · exact .inr ⟨.pointer (some ⟨w.heap.size, 6, none⟩), by simp [go_sem], by intro d hd; cases hd; rfl⟩
        · rcases two_cases hj with rfl | rfl
          · exact .inr ⟨.string t, by simp [go_sem, c6], by intro d hd; cases hd; rfl⟩
          · exact .inr ⟨.string t, by simp [go_sem, d6], by intro d hd; cases hd; rfl⟩
        · exact .inr ⟨.string (st TH), by simp [go_sem], by intro d hd; cases hd; rfl⟩
        · exact .inr ⟨.pointer (some ⟨w.heap.size, 4, none⟩), by simp [go_sem], by intro d hd; cases hd; rfl⟩
        · rcases two_cases hj with rfl | rfl
          · exact .inr ⟨.int .u64 a, by simp [go_sem, c4], by intro d hd; cases hd; rfl⟩
          · exact .inr ⟨.int .u64 a, by simp [go_sem, d4], by intro d hd; cases hd; rfl⟩
      case hQ =>
        simp only [List.length_cons, List.length_nil, Nat.reduceAdd, List.drop_succ_cons, List.drop_zero]
        change wpList _ _ _ _ _ (W2.drew.alloc (.cells #[.int .u8 (48 + (k : Int) % 10)] 5))
        have hb02' : Below w.heap.size w (W2.drew.alloc (.cells #[.int .u8 (48 + (k : Int) % 10)] 5)) := Below.alloc (below_drewN' hb02 1) hb02.size _
        have hBW : BankAt (W2.drew.alloc (.cells #[.int .u8 (48 + (k : Int) % 10)] 5)) b mb n m := HB2.out.drew.alloc _
        have Hm := Lib.hid (Hmv.out _ hBW)
        clear hBW Hmv HB2 c0 c4 c6 hP2
        generalize W2.drew.alloc (.cells #[.int .u8 (48 + (k : Int) % 10)] 5) = Wm at *
        go_wp2_with fail
        refine Hm.out.mono ?_
        rintro e W3 ⟨v, rfl, hev, hB3, hg3⟩
        have Hf := fun (W4 : World) (v' : Value) (h : ErrD W4 3 v' R.1) (h4 : Below W3.heap.size W3 W4) => post_at (K := 2) hb02' hB3 hg3 h h4
        have Hev := Lib.hid hev
        clear hev hB3 hg3 Hm
        go_wp2_with (go_at_call 23; refine (at_any _ _ _ Hev.out).mono ?_; rintro e W4 ⟨v', rfl, hev', hb4⟩)
        go_ret
        exact Hf _ _ hev' hb4
  · obtain ⟨t1, x, rfl⟩ := he.some hN0
    have He := Lib.hid (post_err (r := R) hB he hb01 (by rw [HR.out, if_pos hN0]) 3)
    clear he hN hP1
    go_wp2
    go_ret
    exact He.out
end Go.Proofs.Ytidkamnciomnmaa
