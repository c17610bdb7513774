/-
  THE CONTRACTS OF bank.New, Has, Give, Take, Move: for every bank, every name, every amount.
-/
import Derived.Test.YtidkamnciomnmaaDoorErr
namespace Go.Proofs.YtidkamnciomnmaaDoor
open Go.RowKit Go.Maps Go.Lib
theorem zero64 (w : World) : (zeroValue 30).run Tryd.prog w = .ok (.int .u64 0) w := by kernel_rfl

theorem new_any (w : World) : Calls Tryd.prog 9 #[] w fun e w' => e = .returned (.pointer (some ⟨w.heap.size + 1, 0, none⟩)) ∧ BankAt w' (w.heap.size + 1) w.heap.size 0 [] ∧ Below w.heap.size w w' ∧ w'.heap.size = w.heap.size + 2 := by
  have hmm := @run_makeMap Tryd.prog
  go_enter Tryd.func9, Tryd.ntmps9
  go_wp2
  go_ret
  refine ⟨rfl, ⟨by simpa using Blk.new (w.alloc (.map #[] 0)) 56 #[.map (some w.heap.size)], _, (World.ownsMap_made w _ _ _).alloc _, Rep.empty⟩, ((Below.refl _ _).alloc (Nat.le_refl _) _).alloc (by simp) _, by simp⟩

/-- what a look-up gives in whatever world in which the bank lies so -/
theorem look_run {b mb n : Nat} {m : Bk.M} {w : World} (hB : BankAt w b mb n m) (a d : ByteArray) (ha : a.size ≤ maxLen) (hd : d.size ≤ maxLen) :
    (Instr.lookup 54 (.map (some mb)) (.agg #[.string a, .string d]) false).run Tryd.prog w = .ok (.int .u64 (Bk.get m (a.data.toList, d.data.toList))) w := by
  obtain ⟨D, hown, hR⟩ := hB.own
  obtain ⟨c, hrun, hat, _⟩ := hown.lookup_int (Keyed.of_law kLaw) Tryd.underlying54 Tryd.underlying30 (zero64 _) (keyOf_mk a d ha hd)
  rw [(hR.2 a d ha hd).1] at hat
  rw [hrun, Lit.int.inj (DataW.lit.inj hat) |>.2]

theorem has_any {b mb n : Nat} {m : Bk.M} {w : World} (hB : BankAt w b mb n m) (a d : ByteArray) (ha : a.size ≤ maxLen) (hd : d.size ≤ maxLen) :
    Calls Tryd.prog 21 #[.pointer (some ⟨b, 0, none⟩), .string a, .string d] w fun e w' => e = .returned (.int .u64 (Bk.get m (a.data.toList, d.data.toList))) ∧ w = w' := by
  have c0 := hB.blk.cell 0
  have hl := look_run hB a d ha hd
  go_enter Tryd.func21, Tryd.ntmps21
  go_wp2
  go_ret
  exact ⟨rfl, rfl⟩

/-- what a call leaves that changes the bank in b alone, or nothing: its error, what the bank holds -/
def BankPost (K b mb n : Nat) (r : Nat × Bk.M) (w : World) (e : Ending) (w' : World) : Prop :=
  ∃ v, e = .returned v ∧ ErrD w' K v r.1 ∧ BankAt w' b mb n r.2 ∧ w.grownBy w' (some mb)

/-! ### Give -/
set_option maxHeartbeats 400000 in
theorem give_err (b : Nat) {w : World} (a d : ByteArray) (x : Nat) (ha : a.size ≤ maxLen) (hd : d.size ≤ maxLen) (hx : x ≤ Bk.maxU) (hw : Bk.wrong a.data.toList d.data.toList x ≠ 0) :
    Calls Tryd.prog 15 #[.pointer (some ⟨b, 0, none⟩), .string a, .string d, .int .u64 x] w fun e w' => ∃ v, e = .returned v ∧ ErrD w' 1 v (Bk.wrong a.data.toList d.data.toList x) ∧ Below w.heap.size w w' := by
  have hof := of_any a d x w ha hd hx
  unfold OfPost at hof
  generalize Bk.wrong a.data.toList d.data.toList x = c at *
  have Hof := Lib.hid hof
  have Hw := Lib.hid hw
  clear hof hw
  go_enter Tryd.func15, Tryd.ntmps15
  go_wp2_with fail
  refine Hof.out.mono ?_
  rintro e w1 ⟨p, q, v, rfl, he, hpq, hb⟩
  obtain ⟨t, y, rfl⟩ := he.some Hw.out
  go_wp2
  go_ret
  have hb2 : Below w.heap.size w (w1.alloc (.cells #[.string p, .string q] 59)) := hb.alloc hb.size _
  exact ⟨_, rfl, he.below ((Below.refl _ _).alloc (Nat.le_refl _) _), hb2⟩

theorem turned_bank {W W2 : World} {b mb n n' : Nat} {m m' : Bk.M} {D' : DataW Unit} (hB : BankAt W b mb n m) (ht : W.mapTurned W2 mb) (ho : W2.ownsMap Tryd.prog 59 (plainElem Tryd.prog 30) mb n' D') (hr : Rep D' m') : BankAt W2 b mb n' m' :=
  ⟨hB.blk.grown ht.grown (fun e => hB.ne (Option.some.inj e)), D', ho, hr⟩

set_option maxHeartbeats 400000 in
theorem give_ok {b mb n : Nat} {m : Bk.M} {w : World} (hB : BankAt w b mb n m) (hn : n < maxLen) (a d : ByteArray) (x : Nat) (ha : a.size ≤ maxLen) (hd : d.size ≤ maxLen) (hx : x ≤ Bk.maxU) (hw : Bk.wrong a.data.toList d.data.toList x = 0)
    (hg : Bk.get m (a.data.toList, d.data.toList) + x ≤ Bk.maxU) :
    Calls Tryd.prog 15 #[.pointer (some ⟨b, 0, none⟩), .string a, .string d, .int .u64 x] w fun e w' => e = .returned .nilIface ∧ BankAt w' b mb (n + 1) (Bk.set m (a.data.toList, d.data.toList) (Bk.get m (a.data.toList, d.data.toList) + x)) ∧ w.grownBy w' (some mb) := by
  have hof := Lib.hid (of_any a d x w ha hd hx)
  have Hg := Lib.hid hg
  go_enter Tryd.func15, Tryd.ntmps15
  go_wp2_with fail
  refine hof.out.mono ?_
  rintro e w1 ⟨p, q, v, rfl, he, hpq, hb⟩
  obtain ⟨rfl, rfl⟩ := hpq hw
  rw [hw] at he
  obtain rfl := he.zero
  clear he hof hpq
  have hB1 := (hB.below hb).alloc (.cells #[.string p, .string q] 59)
  have hp1 : Blk (w1.alloc (.cells #[.string p, .string q] 59)) w1.heap.size 59 #[.string p, .string q] := Blk.new _ _ _
  have Hb := Lib.hid hb
  clear hb hB
  have hl1 := fun k => look_run (hB1.drewN k) p q ha hd
  have c0 := hB1.blk.cell 0
  have c1 := hp1.cell 0
  have c2 := hp1.cell 1
  simp only [List.getElem?_toArray, List.getElem?_cons_zero, List.getElem?_cons_succ] at c0 c1 c2
  generalize hgx : Bk.get m (p.data.toList, q.data.toList) = gx at *
  have Hgx := Lib.hid hgx
  have Hw := Lib.hid hw
  clear hgx hw
  unfold Bk.maxU at hg hx
  go_wp2
  generalize hW : w1.alloc (.cells #[.string p, .string q] 59) = W at *
  generalize hgg : w1.heap.size = g at *
  have HW := Lib.hid hW
  have Hgg := Lib.hid hgg
  clear hW hgg hp1
  have HB1 := Lib.hid hB1
  clear hB1
  go_quiet (fail)
  go_wp2
  obtain ⟨D, hown, hR⟩ := (HB1.out.drewN (nq + 1)).own
  obtain ⟨v0, st, W1, ps, hl, hRv, hme, hl2, hst⟩ := own_entry hown kLaw Tryd.underlying54 (fun u => zero64 u) (plainElem_int Tryd.underlying30 (by decide)) hn (keyOf_mk p q ha hd)
  obtain rfl : v0 = .int .u64 gx := (Result.ok.inj (hl.symm.trans (hl1 (nq + 1)))).1
  have hwf : (Lit.int .u64 ((gx : Int) + x)).wf = true := by simp [Lit.wf, IntKind.min, IntKind.max, IntKind.bits, IntKind.signed]; omega
  obtain ⟨W2, hs2, hown2, hturn⟩ := hst _ _ _ (plainElem_int Tryd.underlying30 hwf)
  simp only [goInt] at hme hs2
  have Hm := Lib.hid hown.isMap
  have Hr := Lib.hid hR
  have Ho := Lib.hid hown2
  have Ht := Lib.hid hturn
  clear hR hown2 hturn hst hRv hown hl
  go_region
  all_goals go_wp2
  all_goals
    go_ret
    refine ⟨rfl, ?_, ?_⟩
    · rw [Hgx.out]
      have hx0 := Bk.wrong_pos Hw.out
      refine turned_bank (HB1.out.drewN (nq + 1)) Ht.out Ho.out ?_
      have h2 := Hr.out.put (a := p) (d := q) Hm.out ha hd (x := gx + x) (by omega) Hg.out (Bk.wrong_one Hw.out)
      rwa [Int.natCast_add] at h2
    · have h1 : w.grownBy (W.drewN (nq + 1)) (some mb) := grown_drewN (by rw [← HW.out]; exact grown_alloc (below_grown Hb.out _) _) _
      exact grown_trans h1 Ht.out.grown

set_option maxHeartbeats 400000 in
theorem give_over {b mb n : Nat} {m : Bk.M} {w : World} (hB : BankAt w b mb n m) (a d : ByteArray) (x : Nat) (ha : a.size ≤ maxLen) (hd : d.size ≤ maxLen) (hx : x ≤ Bk.maxU) (hw : Bk.wrong a.data.toList d.data.toList x = 0)
    (hg : Bk.maxU < Bk.get m (a.data.toList, d.data.toList) + x) :
    Calls Tryd.prog 15 #[.pointer (some ⟨b, 0, none⟩), .string a, .string d, .int .u64 x] w fun e w' => ∃ v, e = .returned v ∧ ErrD w' 1 v 41 ∧ Below w.heap.size w w' := by
  have hof := Lib.hid (of_any a d x w ha hd hx)
  go_enter Tryd.func15, Tryd.ntmps15
  go_wp2_with fail
  refine hof.out.mono ?_
  rintro e w1 ⟨p, q, v, rfl, he, hpq, hb⟩
  obtain ⟨rfl, rfl⟩ := hpq hw
  rw [hw] at he
  obtain rfl := he.zero
  clear he hof hpq
  have hB1 := (hB.below hb).alloc (.cells #[.string p, .string q] 59)
  have hp1 : Blk (w1.alloc (.cells #[.string p, .string q] 59)) w1.heap.size 59 #[.string p, .string q] := Blk.new _ _ _
  have Hb := Lib.hid hb
  clear hb hB
  have hl1 := fun k => look_run (hB1.drewN k) p q ha hd
  have c0 := hB1.blk.cell 0
  have c1 := hp1.cell 0
  have c2 := hp1.cell 1
  simp only [List.getElem?_toArray, List.getElem?_cons_zero, List.getElem?_cons_succ] at c0 c1 c2
  generalize hgx : Bk.get m (p.data.toList, q.data.toList) = gx at *
  clear hgx hw
  unfold Bk.maxU at hg hx
  go_wp2
  generalize hW : w1.alloc (.cells #[.string p, .string q] 59) = W at *
  generalize hgg : w1.heap.size = g at *
  have HW := Lib.hid hW
  have Hgg := Lib.hid hgg
  clear hW hgg hp1 hB1
  go_quiet (fail)
  go_wp2_with (go_at_call 23; refine (at_some _ _ _ _ _).mono ?_; rintro e w' ⟨rfl, rfl⟩)
  go_ret
  have h1 : Below w.heap.size w (W.drewN nq) := below_drewN' (by rw [← HW.out]; exact Hb.out.alloc Hb.out.size _) _
  exact ⟨_, rfl, .inr (.inr ⟨by omega, _, _, _, _, rfl, Blk.new _ _ _, ErrD.num (c := 41) _ _ (by omega)⟩), h1.alloc h1.size _⟩

/-- (*Bank).Give -/
theorem give_any {b mb n : Nat} {m : Bk.M} {w : World} (hB : BankAt w b mb n m) (hn : n < maxLen) (a d : ByteArray) (x : Nat) (ha : a.size ≤ maxLen) (hd : d.size ≤ maxLen) (hx : x ≤ Bk.maxU) :
    Calls Tryd.prog 15 #[.pointer (some ⟨b, 0, none⟩), .string a, .string d, .int .u64 x] w (BankPost 1 b mb (n + 1) (Bk.give m a.data.toList d.data.toList x) w) := by
  by_cases e1 : Bk.wrong a.data.toList d.data.toList x = 0
  · by_cases e2 : Bk.maxU < Bk.get m (a.data.toList, d.data.toList) + x
    · have e : Bk.give m a.data.toList d.data.toList x = (41, m) := by unfold Bk.give; rw [if_neg (by omega), if_pos e2]
      rw [e]
      exact (give_over hB a d x ha hd hx e1 e2).mono fun _ _ ⟨v, he, hv, hb⟩ => ⟨v, he, hv, (hB.below hb).mono (by omega), below_grown hb _⟩
    · rw [Bk.give_of e1 (by omega)]
      exact (give_ok hB hn a d x ha hd hx e1 (by omega)).mono fun _ _ ⟨he, hb, hg⟩ => ⟨_, he, ErrD.nil _ _, hb, hg⟩
  · have e : Bk.give m a.data.toList d.data.toList x = (Bk.wrong a.data.toList d.data.toList x, m) := by unfold Bk.give; rw [if_pos e1]
    rw [e]
    exact (give_err b a d x ha hd hx e1).mono fun _ _ ⟨v, he, hv, hb⟩ => ⟨v, he, hv, (hB.below hb).mono (by omega), below_grown hb _⟩

/-! ### Take -/
set_option maxHeartbeats 400000 in
theorem take_err (b : Nat) {w : World} (a d : ByteArray) (x : Nat) (ha : a.size ≤ maxLen) (hd : d.size ≤ maxLen) (hx : x ≤ Bk.maxU) (hw : Bk.wrong a.data.toList d.data.toList x ≠ 0) :
    Calls Tryd.prog 11 #[.pointer (some ⟨b, 0, none⟩), .string a, .string d, .int .u64 x] w fun e w' => ∃ v, e = .returned v ∧ ErrD w' 1 v (Bk.wrong a.data.toList d.data.toList x) ∧ Below w.heap.size w w' := by
  have hof := of_any a d x w ha hd hx
  unfold OfPost at hof
  generalize Bk.wrong a.data.toList d.data.toList x = c at *
  have Hof := Lib.hid hof
  have Hw := Lib.hid hw
  clear hof hw
  go_enter Tryd.func11, Tryd.ntmps11
  go_wp2_with fail
  refine Hof.out.mono ?_
  rintro e w1 ⟨p, q, v, rfl, he, hpq, hb⟩
  obtain ⟨t, y, rfl⟩ := he.some Hw.out
  go_wp2
  go_ret
  have hb2 : Below w.heap.size w (w1.alloc (.cells #[.string p, .string q] 59)) := hb.alloc hb.size _
  exact ⟨_, rfl, he.below ((Below.refl _ _).alloc (Nat.le_refl _) _), hb2⟩

set_option maxHeartbeats 400000 in
theorem take_less {b mb n : Nat} {m : Bk.M} {w : World} (hB : BankAt w b mb n m) (a d : ByteArray) (x : Nat) (ha : a.size ≤ maxLen) (hd : d.size ≤ maxLen) (hx : x ≤ Bk.maxU) (hw : Bk.wrong a.data.toList d.data.toList x = 0)
    (hg : Bk.get m (a.data.toList, d.data.toList) < x) :
    Calls Tryd.prog 11 #[.pointer (some ⟨b, 0, none⟩), .string a, .string d, .int .u64 x] w fun e w' => ∃ v, e = .returned v ∧ ErrD w' 1 v 40 ∧ Below w.heap.size w w' := by
  have hof := Lib.hid (of_any a d x w ha hd hx)
  go_enter Tryd.func11, Tryd.ntmps11
  go_wp2_with fail
  refine hof.out.mono ?_
  rintro e w1 ⟨p, q, v, rfl, he, hpq, hb⟩
  obtain ⟨rfl, rfl⟩ := hpq hw
  rw [hw] at he
  obtain rfl := he.zero
  clear he hof hpq
  have hB1 := (hB.below hb).alloc (.cells #[.string p, .string q] 59)
  have hp1 : Blk (w1.alloc (.cells #[.string p, .string q] 59)) w1.heap.size 59 #[.string p, .string q] := Blk.new _ _ _
  have Hb := Lib.hid hb
  clear hb hB
  have hl1 := fun k => look_run (hB1.drewN k) p q ha hd
  have c0 := hB1.blk.cell 0
  have c1 := hp1.cell 0
  have c2 := hp1.cell 1
  simp only [List.getElem?_toArray, List.getElem?_cons_zero, List.getElem?_cons_succ] at c0 c1 c2
  generalize hgx : Bk.get m (p.data.toList, q.data.toList) = gx at *
  clear hgx hw
  unfold Bk.maxU at hx
  go_wp2
  generalize hW : w1.alloc (.cells #[.string p, .string q] 59) = W at *
  generalize hgg : w1.heap.size = g at *
  have HW := Lib.hid hW
  have Hgg := Lib.hid hgg
  clear hW hgg hp1 hB1
  go_quiet (fail)
  go_wp2_with (go_at_call 23; refine (at_some _ _ _ _ _).mono ?_; rintro e w' ⟨rfl, rfl⟩)
  go_ret
  have h1 : Below w.heap.size w (W.drewN nq) := below_drewN' (by rw [← HW.out]; exact Hb.out.alloc Hb.out.size _) _
  exact ⟨_, rfl, .inr (.inr ⟨by omega, _, _, _, _, rfl, Blk.new _ _ _, ErrD.num (c := 40) _ _ (by omega)⟩), h1.alloc h1.size _⟩

theorem drop_run {W2 : World} {mb n : Nat} {D : DataW Unit} (ho : W2.ownsMap Tryd.prog 59 (plainElem Tryd.prog 30) mb n D) (p q : ByteArray) (ha : p.size ≤ maxLen) (hd : q.size ≤ maxLen) (k : Nat) :
    ∃ W3, (Builtin.delete_ #[54, 59] 0 #[.map (some mb), .agg #[.string p, .string q]]).run Tryd.prog (W2.drewN k) = .ok (.tuple #[]) W3 ∧
      W3.ownsMap Tryd.prog 59 (plainElem Tryd.prog 30) mb n (D.del (kl p q)) ∧ (W2.drewN k).mapTurned W3 mb :=
  World.ownsMap.drop (w := W2.drewN k) ho (Keyed.of_law kLaw) Tryd.underlying54 (keyOf_mk p q ha hd) 0

set_option maxHeartbeats 800000 in
theorem take_ok {b mb n : Nat} {m : Bk.M} {w : World} (hB : BankAt w b mb n m) (hn : n < maxLen) (a d : ByteArray) (x : Nat) (ha : a.size ≤ maxLen) (hd : d.size ≤ maxLen) (hx : x ≤ Bk.maxU) (hw : Bk.wrong a.data.toList d.data.toList x = 0)
    (hg : x ≤ Bk.get m (a.data.toList, d.data.toList)) :
    Calls Tryd.prog 11 #[.pointer (some ⟨b, 0, none⟩), .string a, .string d, .int .u64 x] w fun e w' => e = .returned .nilIface ∧ BankAt w' b mb (n + 1) (Bk.set m (a.data.toList, d.data.toList) (Bk.get m (a.data.toList, d.data.toList) - x)) ∧ w.grownBy w' (some mb) := by
  have hof := Lib.hid (of_any a d x w ha hd hx)
  have Hg := Lib.hid hg
  have hgm := hB.fine.get_le (a.data.toList, d.data.toList)
  have Hgm := Lib.hid hgm
  go_enter Tryd.func11, Tryd.ntmps11
  go_wp2_with fail
  refine hof.out.mono ?_
  rintro e w1 ⟨p, q, v, rfl, he, hpq, hb⟩
  obtain ⟨rfl, rfl⟩ := hpq hw
  rw [hw] at he
  obtain rfl := he.zero
  clear he hof hpq
  have hB1 := (hB.below hb).alloc (.cells #[.string p, .string q] 59)
  have hp1 : Blk (w1.alloc (.cells #[.string p, .string q] 59)) w1.heap.size 59 #[.string p, .string q] := Blk.new _ _ _
  have Hb := Lib.hid hb
  clear hb hB
  have hl1 := fun k => look_run (hB1.drewN k) p q ha hd
  have c0 := hB1.blk.cell 0
  have c1 := hp1.cell 0
  have c2 := hp1.cell 1
  simp only [List.getElem?_toArray, List.getElem?_cons_zero, List.getElem?_cons_succ] at c0 c1 c2
  generalize hgx : Bk.get m (p.data.toList, q.data.toList) = gx at *
  have Hgx := Lib.hid hgx
  have Hw := Lib.hid hw
  clear hgx hw
  unfold Bk.maxU at hx hgm
  go_wp2
  generalize hW : w1.alloc (.cells #[.string p, .string q] 59) = W at *
  generalize hgg : w1.heap.size = g at *
  have HW := Lib.hid hW
  have Hgg := Lib.hid hgg
  have Hp1 := Lib.hid hp1
  clear hW hgg hp1
  have HB1 := Lib.hid hB1
  clear hB1
  go_quiet (fail)
  go_wp2
  obtain ⟨D, hown, hR⟩ := (HB1.out.drewN (nq + 1)).own
  obtain ⟨v0, st, W1, ps, hl, hRv, hme, hl2, hst⟩ := own_entry hown kLaw Tryd.underlying54 (fun u => zero64 u) (plainElem_int Tryd.underlying30 (by decide)) hn (keyOf_mk p q ha hd)
  obtain rfl : v0 = .int .u64 gx := (Result.ok.inj (hl.symm.trans (hl1 (nq + 1)))).1
  have hwf : (Lit.int .u64 ((gx : Int) - x)).wf = true := by simp [Lit.wf, IntKind.min, IntKind.max, IntKind.bits, IntKind.signed]; omega
  obtain ⟨W2, hs2, hown2, hturn⟩ := hst _ _ _ (plainElem_int Tryd.underlying30 hwf)
  simp only [goInt] at hme hs2
  have Hm := Lib.hid hown.isMap
  have Hr := Lib.hid hR
  have Ho := Lib.hid hown2
  have Ht := Lib.hid hturn
  clear hR hown2 hturn hst hRv hown hl
  go_region
  go_wp2
  -- the bank's map holds what is left; nothing, too
  have hg2 := Ht.out.grown
  have hb2 : Blk W2 b 56 #[.map (some mb)] := (HB1.out.drewN (nq + 1)).blk.grown hg2 (fun e => HB1.out.ne (Option.some.inj e))
  have hp2 : Blk W2 g 59 #[.string p, .string q] := (Hp1.out.drewN (nq + 1)).grown hg2 (fun e => blk_ne HB1.out _ _ _ Hp1.out (Option.some.inj e))
  have c0 := hb2.cell 0
  have c1 := hp2.cell 0
  have c2 := hp2.cell 1
  simp only [List.getElem?_toArray, List.getElem?_cons_zero, List.getElem?_cons_succ] at c0 c1 c2
  have Hb2 := Lib.hid hb2
  have Hg2 := Lib.hid hg2
  clear hb2 hp2 hg2 hme hl2 hs2 hl1 hwf
  have hl3 : ∀ k, (Instr.lookup 54 (.map (some mb)) (.agg #[.string p, .string q]) false).run Tryd.prog (W2.drewN k) = .ok (.int .u64 ((gx : Int) - x)) (W2.drewN k) := by
    intro k
    have ho : (W2.drewN k).ownsMap Tryd.prog 59 (plainElem Tryd.prog 30) mb (n + 1) (D.put (kl p q) (DataW.lit (Lit.int IntKind.u64 ((gx : Int) - x)))) := Ho.out
    obtain ⟨c, hrun, hat, _⟩ := ho.lookup_int (Keyed.of_law kLaw) Tryd.underlying54 Tryd.underlying30 (zero64 _) (keyOf_mk p q ha hd)
    rw [atKey_put_same Hm.out (kl_key _ _)] at hat
    rw [hrun, ← (Lit.int.inj (DataW.lit.inj hat)).2]
  have hx0 := Bk.wrong_pos Hw.out
  have hgw : w.grownBy W2 (some mb) := grown_trans (grown_drewN (by rw [← HW.out]; exact grown_alloc (below_grown Hb.out _) _) (nq + 1)) Hg2.out
  have Hgw := Lib.hid hgw
  clear hgw
  by_cases e0 : gx = x
  · have t0 : ((gx : Int) - x == 0) = true := by simp; omega
    go_quiet (fail)
    go_wp2
    obtain ⟨W3, hdel, hown3, hturn3⟩ := drop_run Ho.out p q ha hd (nq + 1)
    have Ho3 := Lib.hid hown3
    have Ht3 := Lib.hid hturn3
    clear hown3 hturn3
    go_region
    go_wp2
    go_ret
    refine ⟨rfl, ?_, grown_trans (grown_drewN Hgw.out _) Ht3.out.grown⟩
    rw [Hgx.out, e0, Nat.sub_self]
    exact ⟨Blk.grown (w := W2.drewN (nq + 1)) Hb2.out Ht3.out.grown (fun e => HB1.out.ne (Option.some.inj e)), _, Ho3.out, Hr.out.del ha hd _ (Bk.wrong_one Hw.out)⟩
  · have t0 : ((gx : Int) - x == 0) = false := by simp; omega
    go_quiet (fail)
    go_wp2
    go_ret
    refine ⟨rfl, ?_, grown_drewN Hgw.out _⟩
    rw [Hgx.out]
    refine ⟨Hb2.out, _, Ho.out, ?_⟩
    have h2 := Hr.out.put (a := p) (d := q) Hm.out ha hd (x := gx - x) (by omega) (by have := Hgm.out; omega) (Bk.wrong_one Hw.out)
    rwa [Int.ofNat_sub Hg.out] at h2

/-- (*Bank).Take -/
theorem take_any {b mb n : Nat} {m : Bk.M} {w : World} (hB : BankAt w b mb n m) (hn : n < maxLen) (a d : ByteArray) (x : Nat) (ha : a.size ≤ maxLen) (hd : d.size ≤ maxLen) (hx : x ≤ Bk.maxU) :
    Calls Tryd.prog 11 #[.pointer (some ⟨b, 0, none⟩), .string a, .string d, .int .u64 x] w (BankPost 1 b mb (n + 1) (Bk.take m a.data.toList d.data.toList x) w) := by
  by_cases e1 : Bk.wrong a.data.toList d.data.toList x = 0
  · by_cases e2 : Bk.get m (a.data.toList, d.data.toList) < x
    · have e : Bk.take m a.data.toList d.data.toList x = (40, m) := by unfold Bk.take; rw [if_neg (by omega), if_pos e2]
      rw [e]
      exact (take_less hB a d x ha hd hx e1 e2).mono fun _ _ ⟨v, he, hv, hb⟩ => ⟨v, he, hv, (hB.below hb).mono (by omega), below_grown hb _⟩
    · rw [Bk.take_of e1 (by omega)]
      exact (take_ok hB hn a d x ha hd hx e1 (by omega)).mono fun _ _ ⟨he, hb, hg⟩ => ⟨_, he, ErrD.nil _ _, hb, hg⟩
  · have e : Bk.take m a.data.toList d.data.toList x = (Bk.wrong a.data.toList d.data.toList x, m) := by unfold Bk.take; rw [if_pos e1]
    rw [e]
    exact (take_err b a d x ha hd hx e1).mono fun _ _ ⟨v, he, hv, hb⟩ => ⟨v, he, hv, (hB.below hb).mono (by omega), below_grown hb _⟩

/-! ### Move -/
theorem entry_run {W : World} {b mb n : Nat} {m : Bk.M} (hB : BankAt W b mb n m) (hn : n < maxLen) (p q : ByteArray) (ha : p.size ≤ maxLen) (hd : q.size ≤ maxLen) (x : Nat) (hx : Bk.get m (p.data.toList, q.data.toList) + x ≤ Bk.maxU)
    (h0 : Bk.get m (p.data.toList, q.data.toList) + x ≠ 0) (hw : Bk.wrong p.data.toList q.data.toList 1 = 0) :
    ∃ (st : Nat) (W1 W2 : World), (Instr.mapEntry 54 (.map (some mb)) (.agg #[.string p, .string q])).run Tryd.prog W = .ok (.tuple #[.int .u64 (Bk.get m (p.data.toList, q.data.toList)), .int .i64 st]) W1 ∧
      (Instr.lookup 54 (.map (some mb)) (.agg #[.string p, .string q]) false).run Tryd.prog W1 = .ok (.int .u64 (Bk.get m (p.data.toList, q.data.toList))) W1 ∧
      (Instr.entryStore 54 (.map (some mb)) (.int .i64 st) (.int .u64 ((Bk.get m (p.data.toList, q.data.toList) : Int) + x))).run Tryd.prog W1 = .ok () W2 ∧
      BankAt W2 b mb (n + 1) (Bk.set m (p.data.toList, q.data.toList) (Bk.get m (p.data.toList, q.data.toList) + x)) ∧ W.grownBy W2 (some mb) := by
  obtain ⟨D, hown, hR⟩ := hB.own
  obtain ⟨v0, st, W1, ps, hl, hRv, hme, hl2, hst⟩ := own_entry hown kLaw Tryd.underlying54 (fun u => zero64 u) (plainElem_int Tryd.underlying30 (by decide)) hn (keyOf_mk p q ha hd)
  obtain rfl : v0 = .int .u64 (Bk.get m (p.data.toList, q.data.toList)) := (Result.ok.inj (hl.symm.trans (look_run hB p q ha hd))).1
  have hwf : (Lit.int .u64 ((Bk.get m (p.data.toList, q.data.toList) : Int) + x)).wf = true := by
    unfold Bk.maxU at hx
    simp [Lit.wf, IntKind.min, IntKind.max, IntKind.bits, IntKind.signed]; omega
  obtain ⟨W2, hs2, hown2, hturn⟩ := hst _ _ _ (plainElem_int Tryd.underlying30 hwf)
  refine ⟨st, W1, W2, hme, hl2, hs2, turned_bank hB hturn hown2 ?_, hturn.grown⟩
  have h2 := hR.put (a := p) (d := q) hown.isMap ha hd h0 hx hw
  rwa [Int.natCast_add] at h2

theorem move_take {b mb n : Nat} {m : Bk.M} {w : World} (hB : BankAt w b mb n m) (hn : n < maxLen) (a c d : ByteArray) (x : Nat) (ha : a.size ≤ maxLen) (hd : d.size ≤ maxLen) (hx : x ≤ Bk.maxU)
    (h1 : (Bk.take m a.data.toList d.data.toList x).1 ≠ 0) :
    Calls Tryd.prog 13 #[.pointer (some ⟨b, 0, none⟩), .string a, .string c, .string d, .int .u64 x] w (BankPost 1 b mb (n + 1) (Bk.take m a.data.toList d.data.toList x) w) := by
  have ht := take_any hB hn a d x ha hd hx
  generalize Bk.take m a.data.toList d.data.toList x = r at *
  have Ht := Lib.hid ht
  have H1 := Lib.hid h1
  clear ht h1 hB
  go_enter Tryd.func13, Tryd.ntmps13
  go_wp2_with fail
  refine Ht.out.mono ?_
  rintro e w1 ⟨v, rfl, hv, hB1, hg⟩
  obtain ⟨t, y, rfl⟩ := hv.some H1.out
  go_wp2
  go_ret
  exact ⟨_, rfl, hv, hB1, hg⟩

set_option maxHeartbeats 400000 in
theorem move_ok {b mb n : Nat} {m : Bk.M} {w : World} (hB : BankAt w b mb n m) (hn : n + 1 < maxLen) (a c d : ByteArray) (x : Nat) (ha : a.size ≤ maxLen) (hc : c.size ≤ maxLen) (hd : d.size ≤ maxLen) (hx : x ≤ Bk.maxU)
    (h1 : (Bk.take m a.data.toList d.data.toList x).1 = 0) (h2 : (Bk.give (Bk.take m a.data.toList d.data.toList x).2 c.data.toList d.data.toList x).1 = 0) :
    Calls Tryd.prog 13 #[.pointer (some ⟨b, 0, none⟩), .string a, .string c, .string d, .int .u64 x] w (BankPost 1 b mb (n + 2) (Bk.give (Bk.take m a.data.toList d.data.toList x).2 c.data.toList d.data.toList x) w) := by
  have ht := take_any hB (by omega) a d x ha hd hx
  generalize Bk.take m a.data.toList d.data.toList x = r at *
  have Ht := Lib.hid ht
  have H1 := Lib.hid h1
  clear ht h1 hB
  have hgv := fun W (hB1 : BankAt W b mb (n + 1) r.2) => give_any hB1 hn c d x hc hd hx
  generalize Bk.give r.2 c.data.toList d.data.toList x = s at *
  have Hgv := Lib.hid hgv
  have H2 := Lib.hid h2
  clear hgv h2
  go_enter Tryd.func13, Tryd.ntmps13
  go_wp2_with fail
  refine Ht.out.mono ?_
  rintro e w1 ⟨v, rfl, hv, hB1, hg⟩
  rw [H1.out] at hv
  obtain rfl := hv.zero
  have Hg := Lib.hid hg
  clear hv hg
  go_wp2_with fail
  refine (Hgv.out w1 hB1).mono ?_
  rintro e w2 ⟨v, rfl, hv, hB2, hg2⟩
  rw [H2.out] at hv
  obtain rfl := hv.zero
  go_wp2
  go_ret
  exact ⟨_, rfl, by rw [H2.out]; exact ErrD.nil _ _, hB2, grown_trans Hg.out hg2⟩

set_option maxHeartbeats 400000 in
theorem move_give {b mb n : Nat} {m : Bk.M} {w : World} (hB : BankAt w b mb n m) (hn : n + 2 < maxLen) (a c d : ByteArray) (x : Nat) (ha : a.size ≤ maxLen) (hc : c.size ≤ maxLen) (hd : d.size ≤ maxLen) (hx : x ≤ Bk.maxU)
    (h1 : (Bk.take m a.data.toList d.data.toList x).1 = 0) (h2 : (Bk.give (Bk.take m a.data.toList d.data.toList x).2 c.data.toList d.data.toList x).1 ≠ 0) :
    Calls Tryd.prog 13 #[.pointer (some ⟨b, 0, none⟩), .string a, .string c, .string d, .int .u64 x] w (BankPost 2 b mb (n + 3) ((Bk.give (Bk.take m a.data.toList d.data.toList x).2 c.data.toList d.data.toList x).1, m) w) := by
  have ht := take_any hB (by omega) a d x ha hd hx
  have hfine := hB.fine
  obtain ⟨hw, hle, he2⟩ := Bk.take_ok h1
  have hgg : Bk.get (Bk.take m a.data.toList d.data.toList x).2 (a.data.toList, d.data.toList) = Bk.get m (a.data.toList, d.data.toList) - x := by rw [he2, Bk.get_set hfine.toOk, if_pos rfl]
  have hmax := hfine.get_le (a.data.toList, d.data.toList)
  have hback : Bk.set (Bk.take m a.data.toList d.data.toList x).2 (a.data.toList, d.data.toList) (Bk.get (Bk.take m a.data.toList d.data.toList x).2 (a.data.toList, d.data.toList) + x) = m := by
    rw [hgg, Nat.sub_add_cancel hle, he2, Bk.set_set hfine.toOk, Bk.set_get hfine.toOk]
  have hkx : Bk.get (Bk.take m a.data.toList d.data.toList x).2 (a.data.toList, d.data.toList) + x ≤ Bk.maxU := by rw [hgg]; omega
  have h0 := Bk.wrong_pos hw
  have hfail := Bk.give_fails h2
  generalize Bk.take m a.data.toList d.data.toList x = r at *
  have Ht := Lib.hid ht
  have H1 := Lib.hid h1
  clear ht h1 hB he2
  have hgv := fun W (hB1 : BankAt W b mb (n + 1) r.2) => give_any hB1 (by omega) c d x hc hd hx
  generalize Bk.give r.2 c.data.toList d.data.toList x = s at *
  have Hgv := Lib.hid hgv
  have H2 := Lib.hid h2
  have Hf := Lib.hid hfail
  have Hw := Lib.hid hw
  have Hgg := Lib.hid hgg
  have Hback := Lib.hid hback
  clear hgv h2 hfail hw hgg hback
  clear hle hmax Hgg
  generalize hgm : Bk.get r.2 (a.data.toList, d.data.toList) = gm at *
  have Hgm := Lib.hid hgm
  clear hgm
  go_enter Tryd.func13, Tryd.ntmps13
  go_wp2_with fail
  refine Ht.out.mono ?_
  rintro e w1 ⟨v, rfl, hv, hB1, hg⟩
  rw [H1.out] at hv
  obtain rfl := hv.zero
  have Hg := Lib.hid hg
  clear hv hg
  go_wp2_with fail
  refine (Hgv.out w1 hB1).mono ?_
  rintro e w2 ⟨v, rfl, hv, hB2, hg2⟩
  rw [Hf.out] at hB2
  obtain ⟨t, y, rfl⟩ := hv.some H2.out
  have Hg2 := Lib.hid hg2
  have Hv := Lib.hid hv
  have HB2 := Lib.hid hB2
  clear hg2 hv hB1
  obtain ⟨st, W1, W2, r1, r2, r3, r4, r5⟩ := entry_run (hB2.drew) (by omega) a d ha hd x (by rw [Hgm.out]; omega) (by rw [Hgm.out]; omega) (Bk.wrong_one Hw.out)
  have hl := look_run (hB2.drew) a d ha hd
  have c0 := hB2.blk.cell 0
  simp only [List.getElem?_toArray, List.getElem?_cons_zero] at c0
  rw [Hgm.out] at r1 r2 r3 r4 hl
  have H4 := Lib.hid r4
  have H5 := Lib.hid r5
  clear r4 r5 hB2
  unfold Bk.maxU at hx hkx
  go_wp2
  go_region
  go_wp2_with (go_at_call 23; refine (at_some _ _ _ _ _).mono ?_; rintro e w' ⟨rfl, rfl⟩)
  go_ret
  have h5 : w2.grownBy W2 (some mb) := ⟨H5.out.os, H5.out.tape, H5.out.output, H5.out.size, H5.out.block⟩
  have hv2 : ErrD W2 1 (.iface t y) s.1 := Hv.out.kept h5 (blk_ne HB2.out)
  have h4 := H4.out
  rw [Hback.out] at h4
  have hbb := (Below.refl W2.heap.size W2).alloc (Nat.le_refl _) (.cells #[.string ⟨#[116, 111]⟩, .int .i64 0, .iface t y] 74)
  exact ⟨_, rfl, .inr (.inr ⟨H2.out, _, _, _, _, rfl, Blk.new _ _ _, hv2.below hbb⟩), h4.below hbb, grown_trans (grown_trans Hg.out Hg2.out) (grown_trans h5 (below_grown hbb _))⟩

/-- (*Bank).Move -/
theorem move_any {b mb n : Nat} {m : Bk.M} {w : World} (hB : BankAt w b mb n m) (hn : n + 2 < maxLen) (a c d : ByteArray) (x : Nat) (ha : a.size ≤ maxLen) (hc : c.size ≤ maxLen) (hd : d.size ≤ maxLen) (hx : x ≤ Bk.maxU) :
    Calls Tryd.prog 13 #[.pointer (some ⟨b, 0, none⟩), .string a, .string c, .string d, .int .u64 x] w (BankPost 2 b mb (n + 3) (Bk.move m a.data.toList c.data.toList d.data.toList x) w) := by
  by_cases e1 : (Bk.take m a.data.toList d.data.toList x).1 = 0
  · by_cases e2 : (Bk.give (Bk.take m a.data.toList d.data.toList x).2 c.data.toList d.data.toList x).1 = 0
    · rw [Bk.move_of e1 e2]
      exact (move_ok hB (by omega) a c d x ha hc hd hx e1 e2).mono fun _ _ ⟨v, he, hv, hb, hg⟩ => ⟨v, he, by rw [e2] at hv; exact hv.mono 1, hb.mono (by omega), hg⟩
    · have e : Bk.move m a.data.toList c.data.toList d.data.toList x = ((Bk.give (Bk.take m a.data.toList d.data.toList x).2 c.data.toList d.data.toList x).1, m) := by
        unfold Bk.move; rw [if_neg (by omega), if_pos e2]
      rw [e]
      exact move_give hB hn a c d x ha hc hd hx e1 e2
  · have e : Bk.move m a.data.toList c.data.toList d.data.toList x = ((Bk.take m a.data.toList d.data.toList x).1, m) := by unfold Bk.move; rw [if_pos e1]
    rw [e]
    exact (move_take hB (by omega) a c d x ha hd hx e1).mono fun _ _ ⟨v, he, hv, hb, hg⟩ => ⟨v, he, hv.mono 1, by rw [Bk.take_fails e1] at hb; exact hb.mono (by omega), hg⟩
end Go.Proofs.YtidkamnciomnmaaDoor
