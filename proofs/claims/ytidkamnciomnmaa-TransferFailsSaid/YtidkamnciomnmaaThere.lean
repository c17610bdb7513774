/-
  THE CONTRACTS OF denom.There, transfer.check.
-/
import Derived.Test.YtidkamnciomnmaaChk
import Derived.Test.YtidkamnciomnmaaBank
namespace Go.Proofs.Ytidkamnciomnmaa
open Go.RowKit Go.Maps Go.Lib

def TherePost (c : Int) (s : ByteArray) (w : World) (e : Ending) (w' : World) : Prop :=
  e = .returned (.tuple #[.string (st (Bk.there c s.data.toList).1), .int .i64 (Bk.there c s.data.toList).2]) ∧ Below w.heap.size w w'
theorem there_post {c : Int} {s : ByteArray} {w : World} {w' : World} {r : Bk.S} {n : Nat} (h : Bk.there c s.data.toList = (r, n)) (hb : Below w.heap.size w w') : TherePost c s w (.returned (.tuple #[.string (st r), .int .i64 n])) w' := by
  unfold TherePost
  rw [h]
  exact ⟨rfl, hb⟩

set_option maxRecDepth 100000 in
set_option maxHeartbeats 1000000 in
theorem there_any (c : Int) (s : ByteArray) (w : World) (hs : s.size ≤ maxLen) : Calls Try.prog 8 #[.int .i64 c, .string s] w (TherePost c s w) := by
  by_cases hc : c < 0 ∨ 4 ≤ c
  · have hp : Bk.there c s.data.toList = ([], 2) := by unfold Bk.there; rw [if_pos hc]
    have Hp := Lib.hid (fun w' => there_post (w := w) (w' := w') hp)
    clear hp
    rcases hc with hc | hc
    · go_enter Try.func8, Try.ntmps8
      go_wp2
      refine bodyPost_ret (v := .tuple #[.string (st []), .int .i64 (2 : Nat)]) (by simp [results, Try.results8, go_sem, st]) rfl ?_
      exact Hp.out _ (Below.refl _ _)
    · go_enter Try.func8, Try.ntmps8
      go_wp2
      refine bodyPost_ret (v := .tuple #[.string (st []), .int .i64 (2 : Nat)]) (by simp [results, Try.results8, go_sem, st]) rfl ?_
      exact Hp.out _ (Below.refl _ _)
  · obtain ⟨n, rfl⟩ : ∃ n : Nat, c = n := ⟨c.toNat, by omega⟩
    have hn : n < 4 := by omega
    have hck := check_any s w hs
    have hbk := back_any n hn s w
    have hpr := fun w => prefix_any n hn w
    have hbt := fun (r : Bk.S) (k : Nat) (w' : World) => there_post (c := n) (s := s) (w := w) (w' := w') (r := r) (n := k)
    unfold Bk.there at hbt
    rw [if_neg hc] at hbt
    have hl : s.data.toList.length = s.size := len_data s
    rw [hl] at hbt
    unfold maxLen at hs
    cases hk : Bk.chk s.data.toList with
    | false =>
      rw [hk] at hck
      have Hp := Lib.hid (fun w' => hbt [] 43 w' (by rw [if_pos hk]))
      have Hck := Lib.hid hck
      clear hbt hck hbk hpr hk hc
      go_enter Try.func8, Try.ntmps8
      go_wp2_with (go_at_call 20; refine Hck.out.mono ?_; rintro e w' ⟨rfl, rfl⟩)
      refine bodyPost_ret (v := .tuple #[.string (st []), .int .i64 (43 : Nat)]) (by simp [results, Try.results8, go_sem, st]) rfl ?_
      exact Hp.out _ (Below.refl _ _)
    | true =>
      rw [hk] at hck
      rw [if_neg (by rw [hk]; simp), Int.toNat_natCast] at hbt
      have Hck := Lib.hid hck
      unfold home at hbk
      cases hb : Bk.backB n s.data.toList with
      | true =>
        rw [hb, if_pos rfl] at hbk
        have Hbk := Lib.hid hbk
        have Hp := Lib.hid (fun w' => hbt (s.data.toList.drop 4) 0 w' (by rw [if_pos hb]))
        clear hbt hck hbk hpr hk hb hc
        go_enter Try.func8, Try.ntmps8
        go_wp2_with (first | (go_at_call 20; refine Hck.out.mono ?_; rintro e w' ⟨rfl, rfl⟩) | (go_at_call 9; refine Hbk.out.mono ?_; rintro e w' ⟨rfl, hB⟩))
        refine bodyPost_ret (v := .tuple #[.string (st (s.data.toList.drop 4)), .int .i64 (0 : Nat)]) (by simp [results, Try.results8, go_sem, st]) rfl ?_
        exact Hp.out _ (by assumption)
      | false =>
        rw [hb, if_neg (by simp)] at hbk
        have Hbk := Lib.hid hbk
        rw [if_neg (by rw [hb]; simp)] at hbt
        by_cases h36 : 36 < s.size
        · have Hp := Lib.hid (fun w' => hbt [] 43 w' (by rw [if_pos h36]))
          clear hbt hck hbk hpr hk hb hc
          go_enter Try.func8, Try.ntmps8
          go_wp2_with (first | (go_at_call 20; refine Hck.out.mono ?_; rintro e w' ⟨rfl, rfl⟩) | (go_at_call 9; refine Hbk.out.mono ?_; rintro e w' ⟨rfl, hB⟩))
          refine bodyPost_ret (v := .tuple #[.string (st []), .int .i64 (43 : Nat)]) (by simp [results, Try.results8, go_sem, st]) rfl ?_
          exact Hp.out _ (by assumption)
        · have Hp := Lib.hid (fun w' => hbt (Bk.pre n ++ s.data.toList) 0 w' (by rw [if_neg h36]))
          have Hpr := Lib.hid hpr
          have h4 : (st (Bk.pre n)).size = 4 := rfl
          clear hbt hck hbk hpr hk hb hc
          go_enter Try.func8, Try.ntmps8
          go_wp2_with (first | (go_at_call 20; refine Hck.out.mono ?_; rintro e w' ⟨rfl, rfl⟩) | (go_at_call 9; refine Hbk.out.mono ?_; rintro e w' ⟨rfl, hB⟩) | (go_at_call 21; refine (Hpr.out _).mono ?_; rintro e w2 ⟨rfl, hB2⟩))
          refine bodyPost_ret (v := .tuple #[.string (st (Bk.pre n ++ s.data.toList)), .int .i64 (0 : Nat)]) (by
            simp [results, Try.results8, go_sem]
            apply ByteArray.ext
            simp [st, ByteArray.data_append]) rfl ?_
          exact Hp.out _ (hB.trans (hB2.mono hB.size))

/-! ### packets -/
structure Pk7 where
  chan : Int
  x1 : Int
  x2 : Int
  den : ByteArray
  amt : Nat
  src : ByteArray
  dst : ByteArray
def encP7 (p : Pk7) : Array Value := #[.int .i64 p.chan, .int .u64 p.x1, .int .u64 p.x2, .string p.den, .int .u64 p.amt, .string p.src, .string p.dst]
structure Pk7.ok (p : Pk7) : Prop where
  d : p.den.size ≤ maxLen
  f : p.src.size ≤ maxLen
  t : p.dst.size ≤ maxLen
  a : p.amt ≤ Bk.maxU
def Pk7.n (p : Pk7) : Nat := Bk.checkN p.chan p.den.data.toList p.amt p.src.data.toList p.dst.data.toList

def CheckPost (k n : Nat) (w : World) (e : Ending) (w' : World) : Prop := ∃ v, e = .returned v ∧ ErrD w' k v n ∧ Below w.heap.size w w'

set_option maxRecDepth 100000 in
set_option maxHeartbeats 1000000 in
theorem tcheck_any (p : Pk7) (hp : p.ok) (w : World) : Calls Try.prog 25 #[.agg (encP7 p)] w (CheckPost 2 p.n w) := by
  obtain ⟨c, x1, x2, d, a, f, t⟩ := p
  obtain ⟨hd, hf, ht, ha⟩ := hp
  obtain ⟨N, hN⟩ : ∃ N, N = Pk7.n ⟨c, x1, x2, d, a, f, t⟩ := ⟨_, rfl⟩
  rw [← hN]
  simp only [encP7, Pk7.n] at *
  have hth := there_any c d (w.alloc (.cells #[.int .i64 c, .int .u64 x1, .int .u64 x2, .string d, .int .u64 a, .string f, .string t] 37)) hd
  have hnf := fun W => name_any f W hf
  have hnt := fun W => name_any t W ht
  have hb0 : Below w.heap.size w (w.alloc (.cells #[.int .i64 c, .int .u64 x1, .int .u64 x2, .string d, .int .u64 a, .string f, .string t] 37)) := (Below.refl _ _).alloc (Nat.le_refl _) _
  have hB0 : Blk (w.alloc (.cells #[.int .i64 c, .int .u64 x1, .int .u64 x2, .string d, .int .u64 a, .string f, .string t] 37)) w.heap.size 37 #[.int .i64 c, .int .u64 x1, .int .u64 x2, .string d, .int .u64 a, .string f, .string t] := Blk.new _ _ _
  unfold TherePost at hth
  unfold NamePost at hnf hnt
  unfold Bk.checkN at hN
  generalize Bk.there c d.data.toList = th at *
  obtain ⟨r, k⟩ := th
  simp only at *
  unfold Bk.maxU at ha
  have Hth := Lib.hid hth
  have Hnf := Lib.hid hnf
  have Hnt := Lib.hid hnt
  have HN := Lib.hid hN
  clear hth hnf hnt hN
  go_enter Try.func25, Try.ntmps25
  go_wp2_with fail
  generalize hW0 : w.alloc (.cells #[.int .i64 c, .int .u64 x1, .int .u64 x2, .string d, .int .u64 a, .string f, .string t] 37) = W0 at *
  refine Hth.out.mono ?_
  rintro e W1 ⟨rfl, hb1⟩
  have hb01 := hb0.trans (hb1.mono hb0.size)
  have hB1 := hB0.below hb1 hB0.lt
  clear hW0 hB0 hb1 hb0
  have c4 := hB1.cell 4
  have c5 := hB1.cell 5
  have c6 := hB1.cell 6
  simp only [List.getElem?_toArray, List.getElem?_cons_zero, List.getElem?_cons_succ] at c4 c5 c6
  have hB1' : Blk W1 w.heap.size 37 #[.int .i64 c, .int .u64 x1, .int .u64 x2, .string d, .int .u64 a, .string f, .string t] := hB1
  clear hB1
  by_cases hk : k = 0
  · subst hk
    go_wp2_with fail
    refine (Hnf.out W1).mono ?_
    rintro e W2 ⟨vf, rfl, hef, hb2⟩
    have hb02 := hb01.trans (hb2.mono hb01.size)
    have hB2 := hB1'.below hb2 hB1'.lt
    clear hB1' hb2 hb01 c4 c5 c6
    have c4 := hB2.cell 4
    have c6 := hB2.cell 6
    simp only [List.getElem?_toArray, List.getElem?_cons_zero, List.getElem?_cons_succ] at c4 c6
    by_cases hnf : Bk.nameB f.data.toList = true
    · rw [if_pos hnf] at hef
      obtain rfl := hef.zero
      clear hef
      have Hf1 := Lib.hid hnf
      clear hnf
      go_wp2_with fail
      refine (Hnt.out W2).mono ?_
      rintro e W3 ⟨vt, rfl, het, hb3⟩
      have hb03 := hb02.trans (hb3.mono hb02.size)
      have hB3 := hB2.below hb3 hB2.lt
      clear hB2 hb3 hb02 c4 c6
      have c4 := hB3.cell 4
      simp only [List.getElem?_toArray, List.getElem?_cons_zero, List.getElem?_cons_succ] at c4
      clear hB3
      by_cases hnt : Bk.nameB t.data.toList = true
      · rw [if_pos hnt] at het
        obtain rfl := het.zero
        clear het
        have Ht1 := Lib.hid hnt
        clear hnt
        by_cases h0 : a = 0
        · subst h0
          have e : N = 44 := by rw [HN.out, if_neg (by simp), if_neg (by rw [Hf1.out]; simp), if_neg (by rw [Ht1.out]; simp), if_pos rfl]
          subst e
          go_wp2_with (go_at_call 23; refine (at_some _ _ _ _ _).mono ?_; rintro e w' ⟨rfl, rfl⟩)
          go_ret
          exact ⟨_, rfl, (err_step (by decide) (Blk.new _ _ _)).mono 1, hb03.alloc hb03.size _⟩
        · have e : N = 0 := by rw [HN.out, if_neg (by simp), if_neg (by rw [Hf1.out]; simp), if_neg (by rw [Ht1.out]; simp), if_neg h0]
          subst e
          have h0' : ((a : Int) == 0) = false := by rw [beq_eq_false_iff_ne]; omega
          go_wp2
          go_ret
          exact ⟨_, rfl, ErrD.nil _ _, hb03⟩
      · rw [if_neg hnt] at het
        have e : N = 42 := by rw [HN.out, if_neg (by simp), if_neg (by rw [Hf1.out]; simp), if_pos (by simpa using hnt)]
        subst e
        obtain ⟨t1, x, rfl⟩ := het.some (by decide)
        clear hnt
        have Het := Lib.hid het
        clear het
        go_wp2_with (go_at_call 23; refine (at_some _ _ _ _ _).mono ?_; rintro e w' ⟨rfl, rfl⟩)
        go_ret
        exact ⟨_, rfl, .inr (.inr ⟨by decide, _, _, _, _, rfl, Blk.new _ _ _, Het.out.below ((Below.refl _ _).alloc (Nat.le_refl _) _)⟩), hb03.alloc hb03.size _⟩
    · rw [if_neg hnf] at hef
      have e : N = 42 := by rw [HN.out, if_neg (by simp), if_pos (by simpa using hnf)]
      subst e
      obtain ⟨t1, x, rfl⟩ := hef.some (by decide)
      clear hnf
      have Hef := Lib.hid hef
      clear hef
      go_wp2_with (go_at_call 23; refine (at_some _ _ _ _ _).mono ?_; rintro e w' ⟨rfl, rfl⟩)
      go_ret
      exact ⟨_, rfl, .inr (.inr ⟨by decide, _, _, _, _, rfl, Blk.new _ _ _, Hef.out.below ((Below.refl _ _).alloc (Nat.le_refl _) _)⟩), hb02.alloc hb02.size _⟩
  · have e : N = k := by rw [HN.out, if_pos hk]
    subst e
    go_wp2_with (go_at_call 23; refine (at_some _ _ _ _ _).mono ?_; rintro e w' ⟨rfl, rfl⟩)
    go_ret
    exact ⟨_, rfl, (err_step hk (Blk.new _ _ _)).mono 1, hb01.alloc hb01.size _⟩
end Go.Proofs.Ytidkamnciomnmaa
