/-
  THE WALK OF ferrymanlaw12.BankBack.
-/
import Derived.Test.YtidkamnciomnmaaDoorActs
import Derived.Test.YtidkamnciomnmaaDoorGrf
import Derived.Test.YtidkamnciomnmaaDoorNil
import Derived.Test.YtidkamnciomnmaaDoorAll
import Derived.Test.YtidkamnciomnmaaDoorSame
import Derived.Outline
namespace Go.Proofs.YtidkamnciomnmaaDoor
open Go.RowKit Go.Maps Go.Lib


theorem CoinsAt.ne_map' {w : World} {base b mb n : Nat} {m l : Bk.M} {v : Value} (h : CoinsAt w base v l) (hB : BankAt w b mb n m) : v.ownBlock ≠ some mb := by
  rcases h with ⟨_, rfl⟩ | ⟨g, cap, h1, _, h3, rfl, h5⟩
  · simp [Value.ownBlock]
  · intro e
    obtain rfl : g = mb := by simpa [Value.ownBlock] using e
    have h0 : 0 < l.length := List.length_pos_iff.2 h1
    have hc := h5 0 h0 0 (by decide)
    obtain ⟨o, ho, hcl⟩ := cells_of_cell (hc.trans (show (encM l[0])[0]? = some _ from rfl))
    obtain ⟨D, ⟨es, c, hb, _⟩, _⟩ := hB.own
    simp only [Nat.zero_mul, Nat.zero_add] at ho
    rw [hb] at ho
    cases ho
    cases hcl
def PhiBB (b g : Nat) (x : Act12) (t : Nat) (W : World) (v : Value) : Prop :=
  match t with
  | 27 => v = .pointer (some ⟨b, 0, none⟩)
  | 28 => v = .pointer (some ⟨g, 1, none⟩)
  | 29 => v = .int .u8 x.a
  | 30 => v = .int .u8 ((x.a : Int) % 15)
  | 31 => v = .string (nameS (x.a % 15) ⟨#[]⟩)
  | 32 => v = .pointer (some ⟨g, 3, none⟩)
  | 33 => v = .int .u8 x.d
  | 34 => v = .int .u8 ((x.d : Int) % 3)
  | 35 => v = .int .u8 (120 + (x.d : Int) % 3)
  | 36 => ∃ h, v = .slice (some ⟨h, 0, none⟩) 1 1 ∧ Blk W h 5 #[.int .u8 (120 + (x.d : Int) % 3)]
  | 37 => v = .string (dn x.d)
  | 38 => v = .pointer (some ⟨g, 5, none⟩)
  | 39 => v = .int .u64 x.n
  | _ => True
theorem PhiBB_stable (b g : Nat) (x : Act12) (t : Nat) (W W' : World) (v : Value) (h : PhiBB b g x t W v) (hb : Below W.heap.size W W') : PhiBB b g x t W' v := by
  unfold PhiBB at h ⊢
  split at h
  all_goals first
    | exact h
    | (obtain ⟨k, e, hk⟩ := h
       exact ⟨k, e, hk.below hb hk.lt⟩)

set_option maxRecDepth 100000 in
set_option maxHeartbeats 2000000 in
theorem bback_walk (aa : Option Addr) (len cap : Nat) (a c d : ByteArray) (n : Nat) (ha : a.size ≤ maxLen) (hc : c.size ≤ maxLen) (hd : d.size ≤ maxLen) (hn : n ≤ 18446744073709551615) (w : World) (h : ActsIn w aa len) (hl : len ≤ maxLen) (hh : Handle w) :
    Calls Tryd.prog 5 #[.slice aa len cap, .string a, .string c, .string d, .int .u64 n] w fun e w' => e = .returned (.bool true) ∧ Below w.heap.size w w' := by
  have Hh := Lib.hid h
  have Hhh := Lib.hid hh
  have haw := awake12_any w hh
  have Hl := Lib.hid hl
  unfold maxLen at hl
  clear h hh
  go_enter Tryd.func5, Tryd.ntmps5
  go_wp2_with fail
  refine haw.mono ?_
  rintro e W1 ⟨rfl, hb1⟩
  clear haw
  go_wp2_with fail
  refine (new_any _).mono ?_
  rintro e W2 ⟨rfl, hB2, hb2, hs2⟩
  obtain ⟨mx, hmx⟩ : ∃ mx, mx = W1.heap.size := ⟨_, rfl⟩
  have hwm : w.heap.size ≤ mx := hmx ▸ hb1.size
  have hb02 := hb1.trans (hb2.mono hb1.size)
  rw [← hmx] at hB2 hs2 ⊢
  clear hb1 hb2 hmx
  go_wp2
  go_loopw [20] (fun v wr => ∃ (i nn : Nat) (m : Bk.M), v = .int .i64 i ∧ i ≤ len ∧ nn ≤ i ∧ nn ≤ 50 ∧ BankAt wr (mx + 1) mx nn m ∧ Below w.heap.size w wr) (fun v _ => len - (intOf v).toNat)
  case atStart => exact ⟨0, 0, [], rfl, Nat.zero_le _, Nat.le_refl _, by decide, hB2, hb02⟩
  case round =>
    obtain ⟨i, nn, m, rfl, hi, hni, hn50, hBr, hbr⟩ := hrel
    by_cases hil : i < len
    · obtain ⟨ad, rfl, had, y, hy, c0, c1, c2, c3, c4, c5⟩ := (Hh.out.below hbr) i hil
      have Hy := Lib.hid hy
      have hA1 : Blk (wr.alloc (.cells (enc12 y) 32)) wr.heap.size 32 (enc12 y) := Blk.new _ _ _
      simp only [enc12] at hA1
      have hB1 := hBr.alloc (.cells (enc12 y) 32)
      have hb1 := hbr.alloc hbr.size (.cells (enc12 y) 32)
      simp only [enc12] at hB1 hb1
      clear hBr hbr hB2 hb02
      go_wp2_with fail
      · have hsz1 := hA1.lt
        generalize wr.alloc (.cells #[.int .u8 y.kind, .int .u8 y.a, .int .u8 y.b, .int .u8 y.d, .string y.raw, .int .u64 y.n] 32) = W0 at *
        generalize wr.heap.size = g at *
        refine wp_region_growF 13 (PhiBB (mx + 1) g y) (by kernel_rfl) (PhiBB_stable (mx + 1) g y) (by kernel_rfl) (by kernel_rfl) ?hstep ?hQ
        case hstep =>
          have hA0 := hA1
          simp only [List.take_succ_cons, List.take_zero]
          refine List.forall_mem_cons.2 ⟨?_, List.forall_mem_cons.2 ⟨?_, List.forall_mem_cons.2 ⟨?_, List.forall_mem_cons.2 ⟨?_, List.forall_mem_cons.2 ⟨?_, List.forall_mem_cons.2 ⟨?_, List.forall_mem_cons.2 ⟨?_, List.forall_mem_cons.2 ⟨?_, List.forall_mem_cons.2 ⟨?_, List.forall_mem_cons.2 ⟨?_, List.forall_mem_cons.2 ⟨?_, List.forall_mem_cons.2 ⟨?_, List.forall_mem_cons.2 ⟨?_, fun _ h => absurd h List.not_mem_nil⟩⟩⟩⟩⟩⟩⟩⟩⟩⟩⟩⟩⟩
          · intro a' W hb hL
            obtain ⟨ρ, hρ⟩ : ∃ ρ, a'.eval = ρ := ⟨_, rfl⟩
            have hcst : ∀ v, ρ (.const v) = v := fun v => by rw [← hρ]; rfl
            have hfnc : ∀ f, ρ (.func f) = .func (.func f) #[] #[] := fun f => by rw [← hρ]; rfl
            have hsz := hb.size
            have h11 : a'.eval (.tmp 11) = .pointer (some ⟨mx + 1, 0, none⟩) := hL.free 11 (free_of (by kernel_rfl))
            rw [hρ] at h11
            exact .val ⟨.pointer (some ⟨mx + 1, 0, none⟩), W, by rw [hρ]; simp [go_sem, hcst, h11], Below.refl _ _, fun t ht => by cases ht; rfl⟩
          · intro a' W hb hL
            obtain ⟨ρ, hρ⟩ : ∃ ρ, a'.eval = ρ := ⟨_, rfl⟩
            have hcst : ∀ v, ρ (.const v) = v := fun v => by rw [← hρ]; rfl
            have hfnc : ∀ f, ρ (.func f) = .func (.func f) #[] #[] := fun f => by rw [← hρ]; rfl
            have hsz := hb.size
            have h13 : a'.eval (.tmp 13) = .pointer (some ⟨g, 0, none⟩) := hL.free 13 (free_of (by kernel_rfl))
            rw [hρ] at h13
            exact .val ⟨.pointer (some ⟨g, 1, none⟩), W, by rw [hρ]; simp [go_sem, hcst, h13], Below.refl _ _, fun t ht => by cases ht; rfl⟩
          · intro a' W hb hL
            obtain ⟨ρ, hρ⟩ : ∃ ρ, a'.eval = ρ := ⟨_, rfl⟩
            have hcst : ∀ v, ρ (.const v) = v := fun v => by rw [← hρ]; rfl
            have hfnc : ∀ f, ρ (.func f) = .func (.func f) #[] #[] := fun f => by rw [← hρ]; rfl
            have hsz := hb.size
            have h28 := hL.get 28 (by simp [Op.operands, Call.operands]) (by kernel_rfl)
            rw [hρ] at h28
            simp only [PhiBB] at h28
            have hA := hA0.below hb hA0.lt
            have c := hA.cell 1
            simp only [List.getElem?_toArray, List.getElem?_cons_zero, List.getElem?_cons_succ] at c
            exact .val ⟨.int .u8 y.a, W, by rw [hρ]; simp [go_sem, hcst, h28, c], Below.refl _ _, fun t ht => by cases ht; rfl⟩
          · intro a' W hb hL
            obtain ⟨ρ, hρ⟩ : ∃ ρ, a'.eval = ρ := ⟨_, rfl⟩
            have hcst : ∀ v, ρ (.const v) = v := fun v => by rw [← hρ]; rfl
            have hfnc : ∀ f, ρ (.func f) = .func (.func f) #[] #[] := fun f => by rw [← hρ]; rfl
            have hsz := hb.size
            have h29 := hL.get 29 (by simp [Op.operands, Call.operands]) (by kernel_rfl)
            rw [hρ] at h29
            simp only [PhiBB] at h29
            exact .val ⟨.int .u8 ((y.a : Int) % 15), W, by rw [hρ]; simp [go_sem, hcst, h29, tm15 y.a], Below.refl _ _, fun t ht => by cases ht; rfl⟩
          · intro a' W hb hL
            obtain ⟨ρ, hρ⟩ : ∃ ρ, a'.eval = ρ := ⟨_, rfl⟩
            have hcst : ∀ v, ρ (.const v) = v := fun v => by rw [← hρ]; rfl
            have hfnc : ∀ f, ρ (.func f) = .func (.func f) #[] #[] := fun f => by rw [← hρ]; rfl
            have hsz := hb.size
            have h30 := hL.get 30 (by simp [Op.operands, Call.operands]) (by kernel_rfl)
            rw [hρ] at h30
            simp only [PhiBB] at h30
            refine .call ⟨10, #[.int .u8 ((y.a : Int) % 15), .string ⟨#[]⟩], W, by rw [hρ]; simp [go_sem, hcst, hfnc, h30], ?_⟩
            rw [show ((y.a : Int) % 15) = ((y.a % 15 : Nat) : Int) by omega]
            exact (name12_any (y.a % 15) (by omega) _ W).mono fun e W' ⟨he, hb'⟩ => ⟨_, he, hb', fun t ht => by cases ht; rfl⟩
          · intro a' W hb hL
            obtain ⟨ρ, hρ⟩ : ∃ ρ, a'.eval = ρ := ⟨_, rfl⟩
            have hcst : ∀ v, ρ (.const v) = v := fun v => by rw [← hρ]; rfl
            have hfnc : ∀ f, ρ (.func f) = .func (.func f) #[] #[] := fun f => by rw [← hρ]; rfl
            have hsz := hb.size
            have h13 : a'.eval (.tmp 13) = .pointer (some ⟨g, 0, none⟩) := hL.free 13 (free_of (by kernel_rfl))
            rw [hρ] at h13
            exact .val ⟨.pointer (some ⟨g, 3, none⟩), W, by rw [hρ]; simp [go_sem, hcst, h13], Below.refl _ _, fun t ht => by cases ht; rfl⟩
          · intro a' W hb hL
            obtain ⟨ρ, hρ⟩ : ∃ ρ, a'.eval = ρ := ⟨_, rfl⟩
            have hcst : ∀ v, ρ (.const v) = v := fun v => by rw [← hρ]; rfl
            have hfnc : ∀ f, ρ (.func f) = .func (.func f) #[] #[] := fun f => by rw [← hρ]; rfl
            have hsz := hb.size
            have h32 := hL.get 32 (by simp [Op.operands, Call.operands]) (by kernel_rfl)
            rw [hρ] at h32
            simp only [PhiBB] at h32
            have hA := hA0.below hb hA0.lt
            have c := hA.cell 3
            simp only [List.getElem?_toArray, List.getElem?_cons_zero, List.getElem?_cons_succ] at c
            exact .val ⟨.int .u8 y.d, W, by rw [hρ]; simp [go_sem, hcst, h32, c], Below.refl _ _, fun t ht => by cases ht; rfl⟩
          · intro a' W hb hL
            obtain ⟨ρ, hρ⟩ : ∃ ρ, a'.eval = ρ := ⟨_, rfl⟩
            have hcst : ∀ v, ρ (.const v) = v := fun v => by rw [← hρ]; rfl
            have hfnc : ∀ f, ρ (.func f) = .func (.func f) #[] #[] := fun f => by rw [← hρ]; rfl
            have hsz := hb.size
            have h33 := hL.get 33 (by simp [Op.operands, Call.operands]) (by kernel_rfl)
            rw [hρ] at h33
            simp only [PhiBB] at h33
            exact .val ⟨.int .u8 ((y.d : Int) % 3), W, by rw [hρ]; simp [go_sem, hcst, h33, tm3 y.d], Below.refl _ _, fun t ht => by cases ht; rfl⟩
          · intro a' W hb hL
            obtain ⟨ρ, hρ⟩ : ∃ ρ, a'.eval = ρ := ⟨_, rfl⟩
            have hcst : ∀ v, ρ (.const v) = v := fun v => by rw [← hρ]; rfl
            have hfnc : ∀ f, ρ (.func f) = .func (.func f) #[] #[] := fun f => by rw [← hρ]; rfl
            have hsz := hb.size
            have h34 := hL.get 34 (by simp [Op.operands, Call.operands]) (by kernel_rfl)
            rw [hρ] at h34
            simp only [PhiBB] at h34
            exact .val ⟨.int .u8 (120 + (y.d : Int) % 3), W, by rw [hρ]; simp [go_sem, hcst, h34, wr120 y.d], Below.refl _ _, fun t ht => by cases ht; rfl⟩
          · intro a' W hb hL
            obtain ⟨ρ, hρ⟩ : ∃ ρ, a'.eval = ρ := ⟨_, rfl⟩
            have hcst : ∀ v, ρ (.const v) = v := fun v => by rw [← hρ]; rfl
            have hfnc : ∀ f, ρ (.func f) = .func (.func f) #[] #[] := fun f => by rw [← hρ]; rfl
            have hsz := hb.size
            have h35 := hL.get 35 (by simp [Op.operands, Call.operands]) (by kernel_rfl)
            rw [hρ] at h35
            simp only [PhiBB] at h35
            exact .val ⟨.slice (some ⟨W.heap.size, 0, none⟩) 1 1, W.alloc (.cells #[.int .u8 (120 + (y.d : Int) % 3)] 5), by rw [hρ]; simp [go_sem, hcst, h35], (Below.refl _ _).alloc (Nat.le_refl _) _, fun t ht => by cases ht; exact ⟨_, rfl, Blk.new _ _ _⟩⟩
          · intro a' W hb hL
            obtain ⟨ρ, hρ⟩ : ∃ ρ, a'.eval = ρ := ⟨_, rfl⟩
            have hcst : ∀ v, ρ (.const v) = v := fun v => by rw [← hρ]; rfl
            have hfnc : ∀ f, ρ (.func f) = .func (.func f) #[] #[] := fun f => by rw [← hρ]; rfl
            have hsz := hb.size
            have h36 := hL.get 36 (by simp [Op.operands, Call.operands]) (by kernel_rfl)
            rw [hρ] at h36
            simp only [PhiBB] at h36
            obtain ⟨h, h36, hk⟩ := h36
            have hcv := conv_dn y.d hk
            exact .val ⟨.string (dn y.d), W, by rw [hρ]; simp [go_sem, hcst, h36, hcv], Below.refl _ _, fun t ht => by cases ht; rfl⟩
          · intro a' W hb hL
            obtain ⟨ρ, hρ⟩ : ∃ ρ, a'.eval = ρ := ⟨_, rfl⟩
            have hcst : ∀ v, ρ (.const v) = v := fun v => by rw [← hρ]; rfl
            have hfnc : ∀ f, ρ (.func f) = .func (.func f) #[] #[] := fun f => by rw [← hρ]; rfl
            have hsz := hb.size
            have h13 : a'.eval (.tmp 13) = .pointer (some ⟨g, 0, none⟩) := hL.free 13 (free_of (by kernel_rfl))
            rw [hρ] at h13
            exact .val ⟨.pointer (some ⟨g, 5, none⟩), W, by rw [hρ]; simp [go_sem, hcst, h13], Below.refl _ _, fun t ht => by cases ht; rfl⟩
          · intro a' W hb hL
            obtain ⟨ρ, hρ⟩ : ∃ ρ, a'.eval = ρ := ⟨_, rfl⟩
            have hcst : ∀ v, ρ (.const v) = v := fun v => by rw [← hρ]; rfl
            have hfnc : ∀ f, ρ (.func f) = .func (.func f) #[] #[] := fun f => by rw [← hρ]; rfl
            have hsz := hb.size
            have h38 := hL.get 38 (by simp [Op.operands, Call.operands]) (by kernel_rfl)
            rw [hρ] at h38
            simp only [PhiBB] at h38
            have hA := hA0.below hb hA0.lt
            have c := hA.cell 5
            simp only [List.getElem?_toArray, List.getElem?_cons_zero, List.getElem?_cons_succ] at c
            exact .val ⟨.int .u64 y.n, W, by rw [hρ]; simp [go_sem, hcst, h38, c], Below.refl _ _, fun t ht => by cases ht; rfl⟩
        case hQ =>
          intro ys W hlen hb hY
          obtain ⟨y0, ys0, rfl, hl0⟩ := cons_of' hlen
          obtain ⟨y1, ys1, rfl, hl1⟩ := cons_of' hl0
          obtain ⟨y2, ys2, rfl, hl2⟩ := cons_of' hl1
          obtain ⟨y3, ys3, rfl, hl3⟩ := cons_of' hl2
          obtain ⟨y4, ys4, rfl, hl4⟩ := cons_of' hl3
          obtain ⟨y5, ys5, rfl, hl5⟩ := cons_of' hl4
          obtain ⟨y6, ys6, rfl, hl6⟩ := cons_of' hl5
          obtain ⟨y7, ys7, rfl, hl7⟩ := cons_of' hl6
          obtain ⟨y8, ys8, rfl, hl8⟩ := cons_of' hl7
          obtain ⟨y9, ys9, rfl, hl9⟩ := cons_of' hl8
          obtain ⟨y10, ys10, rfl, hl10⟩ := cons_of' hl9
          obtain ⟨y11, ys11, rfl, hl11⟩ := cons_of' hl10
          obtain ⟨y12, ys12, rfl, hl12⟩ := cons_of' hl11
          obtain rfl := List.length_eq_zero_iff.1 hl12

          simp only [List.take_succ_cons, List.take_zero, List.drop_succ_cons, List.drop_zero, List.zip_cons_cons, List.zip_nil_left, List.zip_nil_right, List.foldl_cons, List.foldl_nil, Act.put, HoldsY, PhiBB] at hY ⊢
          clear hlen hl0 hl1 hl2 hl3 hl4 hl5 hl6 hl7 hl8 hl9 hl10 hl11 hl12
          obtain ⟨rfl, rfl, rfl, rfl, rfl, rfl, rfl, rfl, rfl, ⟨h9, rfl, _⟩, rfl, rfl, rfl, _⟩ := hY
          simp only [List.setIfInBounds_toArray, List.set_cons_succ, List.set_cons_zero]
          have h50 : (i : Int) < 50 := by assumption
          have Hg := Lib.hid (give_any (hB1.below hb) (by simp only [maxLen]; omega) (nameS (y.a % 15) ⟨#[]⟩) (dn y.d) y.n (nameS_size _ (by decide) (by decide)) (by rw [dn_size]; decide) Hy.out.n)
          have hb01 := hb1.trans (hb.mono hb1.size)
          clear hB1 hb1 hb hA1
          go_wp2_with fail
          refine Hg.out.mono ?_
          rintro e W3 ⟨v, rfl, _, hB3, hg3⟩
          have hb3 := below_of_grown hb01 hg3 (by omega)
          clear Hg hb01 hg3
          go_wp2
          refine ⟨⟨i + 1, nn + 1, _, rfl, hil, by omega, by omega, hB3, hb3⟩, ?_⟩
          show len - ((i : Int) + 1).toNat < len - (i : Int).toNat
          omega
      · refine ⟨⟨i + 1, nn, m, rfl, hil, by omega, hn50, hB1, hb1⟩, ?_⟩
        show len - ((i : Int) + 1).toNat < len - (i : Int).toNat
        omega
    · have hfine := hBr.fine
      have Hall := Lib.hid (all_any hBr (by omega))
      have hn' : n ≤ Bk.maxU := by unfold Bk.maxU; exact hn
      clear hB2 hb02 hn
      have hn := hn'
      clear hn'
      go_wp2_with fail
      refine Hall.out.mono ?_
      rintro e W3 ⟨was, rfl, hc3, hb3, hln⟩
      have hfl : List.length m ≤ maxLen := by simp only [maxLen]; omega
      have hB3 := hBr.below hb3
      have hb03 := hbr.trans (hb3.mono hbr.size)
      clear Hall hBr hbr hb3
      have hcm := hc3.ne_map' hB3
      have Hg := Lib.hid (give_any hB3 (by simp only [maxLen]; omega) a d n ha hd hn)
      have Hgf := Lib.hid (fun h => Bk.give_fails (m := m) (a := a.data.toList) (d := d.data.toList) (n := n) h)
      have Hgt := Lib.hid (fun h => Bk.give_take (a := a.data.toList) (d := d.data.toList) (n := n) hfine h)
      generalize Bk.give m a.data.toList d.data.toList n = r4 at *
      go_wp2_with fail
      refine Hg.out.mono ?_
      rintro e W4 ⟨v4, rfl, he4, hB4, hg4⟩
      have hc4 := hc3.grown hg4 (fun j e => by cases e; exact hcm)
      have hb4 := below_of_grown hb03 hg4 (by omega)
      clear Hg hB3 hc3 hb03 hg4 hcm
      by_cases hr : r4.1 = 0
      · rw [hr] at he4
        obtain rfl := he4.zero
        have hgt := Hgt.out hr
        have hcm := hc4.ne_map' hB4
        have ht := take_any hB4 (by simp only [maxLen]; omega) a d n ha hd hn
        rw [hgt] at ht
        have Ht := Lib.hid ht
        clear he4 hgt ht hr
        go_wp2_with fail
        refine Ht.out.mono ?_
        rintro e W5 ⟨v5, rfl, he5, hB5, hg5⟩
        obtain rfl := he5.zero
        have hc5 := hc4.grown hg5 (fun j e => by cases e; exact hcm)
        have hb5 := below_of_grown hb4 hg5 (by omega)
        clear Ht hg5 hcm hB4 hc4 hb4 he5
        have Hall := Lib.hid (all_any hB5 (by omega))
        go_wp2_with fail
        refine Hall.out.mono ?_
        rintro e W6a ⟨now6, rfl, hcn6, hbn6, _⟩
        have hB6 := hB5.below hbn6
        have hc6 := hc5.grown (below_grown hbn6 none) (fun j e => by cases e)
        have hb6 := hb5.trans (hbn6.mono hb5.size)
        have hsm := same_any hcn6 hc6 hfl hfl
        simp only [decide_true] at hsm
        have Hsm := Lib.hid hsm
        clear Hall hsm hcn6 hbn6 hB5 hc5 hb5
        go_wp2_with fail
        refine Hsm.out.mono ?_
        rintro e W6b ⟨rfl, q6, rfl⟩
        have hB6d := hB6.drewN q6
        have hc6d : CoinsAt (World.drewN W6a q6) _ was m := hc6
        have hb6d := below_drewN' hb6 q6
        clear Hsm hB6 hc6 hb6
        have hcm := hc6d.ne_map' hB6d
        have Hm := Lib.hid (move_any hB6d (by simp only [maxLen]; omega) a c d n ha hc hd hn)
        have Hmf := Lib.hid (fun h => Bk.move_fails (m := m) (a := a.data.toList) (c := c.data.toList) (d := d.data.toList) (n := n) h)
        have Hmb := Lib.hid (fun h => Bk.move_back (a := a.data.toList) (c := c.data.toList) (d := d.data.toList) (n := n) hfine h)
        generalize Bk.move m a.data.toList c.data.toList d.data.toList n = r7 at *
        go_wp2_with fail
        refine Hm.out.mono ?_
        rintro e W7 ⟨v7, rfl, he7, hB7, hg7⟩
        have hc7 := hc6d.grown hg7 (fun j e => by cases e; exact hcm)
        have hb7 := below_of_grown hb6d hg7 (by omega)
        clear Hm hg7 hcm hB6d hc6d hb6d
        by_cases hr7 : r7.1 = 0
        · rw [hr7] at he7
          obtain rfl := he7.zero
          have hmb := Hmb.out hr7
          have hcm := hc7.ne_map' hB7
          have hm2 := move_any hB7 (by simp only [maxLen]; omega) c a d n hc ha hd hn
          rw [hmb] at hm2
          have Hm := Lib.hid hm2
          clear he7 hmb hm2 hr7
          go_wp2_with fail
          refine Hm.out.mono ?_
          rintro e W8 ⟨v8, rfl, he8, hB8, hg8⟩
          obtain rfl := he8.zero
          have hc8 := hc7.grown hg8 (fun j e => by cases e; exact hcm)
          have hb8 := below_of_grown hb7 hg8 (by omega)
          clear Hm hg8 hcm hB7 hc7 hb7 he8
          have Hall := Lib.hid (all_any hB8 (by omega))
          go_wp2_with fail
          refine Hall.out.mono ?_
          rintro e W9xa ⟨now9x, rfl, hcn9x, hbn9x, _⟩
          have hB9x := hB8.below hbn9x
          have hc9x := hc8.grown (below_grown hbn9x none) (fun j e => by cases e)
          have hb9x := hb8.trans (hbn9x.mono hb8.size)
          have hsm := same_any hcn9x hc9x hfl hfl
          simp only [decide_true] at hsm
          have Hsm := Lib.hid hsm
          clear Hall hsm hcn9x hbn9x hB8 hc8 hb8
          go_wp2_with fail
          refine Hsm.out.mono ?_
          rintro e W9xb ⟨rfl, q9x, rfl⟩
          have hB9xd := hB9x.drewN q9x
          have hc9xd : CoinsAt (World.drewN W9xa q9x) _ was m := hc9x
          have hb9xd := below_drewN' hb9x q9x
          clear Hsm hB9x hc9x hb9x
          go_wp2
          go_ret
          exact ⟨rfl, hb9xd⟩
        · obtain ⟨t7, x7, rfl⟩ := he7.some hr7
          have hm7 : r7.2 = m := Hmf.out hr7
          rw [hm7] at hB7
          clear he7 hm7 hr7
          have Hall := Lib.hid (all_any hB7 (by omega))
          go_wp2_with fail
          refine Hall.out.mono ?_
          rintro e W9ya ⟨now9y, rfl, hcn9y, hbn9y, _⟩
          have hB9y := hB7.below hbn9y
          have hc9y := hc7.grown (below_grown hbn9y none) (fun j e => by cases e)
          have hb9y := hb7.trans (hbn9y.mono hb7.size)
          have hsm := same_any hcn9y hc9y hfl hfl
          simp only [decide_true] at hsm
          have Hsm := Lib.hid hsm
          clear Hall hsm hcn9y hbn9y hB7 hc7 hb7
          go_wp2_with fail
          refine Hsm.out.mono ?_
          rintro e W9yb ⟨rfl, q9y, rfl⟩
          have hB9yd := hB9y.drewN q9y
          have hc9yd : CoinsAt (World.drewN W9ya q9y) _ was m := hc9y
          have hb9yd := below_drewN' hb9y q9y
          clear Hsm hB9y hc9y hb9y
          go_wp2
          go_ret
          exact ⟨rfl, hb9yd⟩

      · obtain ⟨t4, x4, rfl⟩ := he4.some hr
        have hm4 : r4.2 = m := Hgf.out hr
        rw [hm4] at hB4
        clear he4 hm4 hr
        have Hall := Lib.hid (all_any hB4 (by omega))
        go_wp2_with fail
        refine Hall.out.mono ?_
        rintro e W6a ⟨now6, rfl, hcn6, hbn6, _⟩
        have hB6 := hB4.below hbn6
        have hc6 := hc4.grown (below_grown hbn6 none) (fun j e => by cases e)
        have hb6 := hb4.trans (hbn6.mono hb4.size)
        have hsm := same_any hcn6 hc6 hfl hfl
        simp only [decide_true] at hsm
        have Hsm := Lib.hid hsm
        clear Hall hsm hcn6 hbn6 hB4 hc4 hb4
        go_wp2_with fail
        refine Hsm.out.mono ?_
        rintro e W6b ⟨rfl, q6, rfl⟩
        have hB6d := hB6.drewN q6
        have hc6d : CoinsAt (World.drewN W6a q6) _ was m := hc6
        have hb6d := below_drewN' hb6 q6
        clear Hsm hB6 hc6 hb6
        have hcm := hc6d.ne_map' hB6d
        have Hm := Lib.hid (move_any hB6d (by simp only [maxLen]; omega) a c d n ha hc hd hn)
        have Hmf := Lib.hid (fun h => Bk.move_fails (m := m) (a := a.data.toList) (c := c.data.toList) (d := d.data.toList) (n := n) h)
        have Hmb := Lib.hid (fun h => Bk.move_back (a := a.data.toList) (c := c.data.toList) (d := d.data.toList) (n := n) hfine h)
        generalize Bk.move m a.data.toList c.data.toList d.data.toList n = r7 at *
        go_wp2_with fail
        refine Hm.out.mono ?_
        rintro e W7 ⟨v7, rfl, he7, hB7, hg7⟩
        have hc7 := hc6d.grown hg7 (fun j e => by cases e; exact hcm)
        have hb7 := below_of_grown hb6d hg7 (by omega)
        clear Hm hg7 hcm hB6d hc6d hb6d
        by_cases hr7 : r7.1 = 0
        · rw [hr7] at he7
          obtain rfl := he7.zero
          have hmb := Hmb.out hr7
          have hcm := hc7.ne_map' hB7
          have hm2 := move_any hB7 (by simp only [maxLen]; omega) c a d n hc ha hd hn
          rw [hmb] at hm2
          have Hm := Lib.hid hm2
          clear he7 hmb hm2 hr7
          go_wp2_with fail
          refine Hm.out.mono ?_
          rintro e W8 ⟨v8, rfl, he8, hB8, hg8⟩
          obtain rfl := he8.zero
          have hc8 := hc7.grown hg8 (fun j e => by cases e; exact hcm)
          have hb8 := below_of_grown hb7 hg8 (by omega)
          clear Hm hg8 hcm hB7 hc7 hb7 he8
          have Hall := Lib.hid (all_any hB8 (by omega))
          go_wp2_with fail
          refine Hall.out.mono ?_
          rintro e W9xa ⟨now9x, rfl, hcn9x, hbn9x, _⟩
          have hB9x := hB8.below hbn9x
          have hc9x := hc8.grown (below_grown hbn9x none) (fun j e => by cases e)
          have hb9x := hb8.trans (hbn9x.mono hb8.size)
          have hsm := same_any hcn9x hc9x hfl hfl
          simp only [decide_true] at hsm
          have Hsm := Lib.hid hsm
          clear Hall hsm hcn9x hbn9x hB8 hc8 hb8
          go_wp2_with fail
          refine Hsm.out.mono ?_
          rintro e W9xb ⟨rfl, q9x, rfl⟩
          have hB9xd := hB9x.drewN q9x
          have hc9xd : CoinsAt (World.drewN W9xa q9x) _ was m := hc9x
          have hb9xd := below_drewN' hb9x q9x
          clear Hsm hB9x hc9x hb9x
          go_wp2
          go_ret
          exact ⟨rfl, hb9xd⟩
        · obtain ⟨t7, x7, rfl⟩ := he7.some hr7
          have hm7 : r7.2 = m := Hmf.out hr7
          rw [hm7] at hB7
          clear he7 hm7 hr7
          have Hall := Lib.hid (all_any hB7 (by omega))
          go_wp2_with fail
          refine Hall.out.mono ?_
          rintro e W9ya ⟨now9y, rfl, hcn9y, hbn9y, _⟩
          have hB9y := hB7.below hbn9y
          have hc9y := hc7.grown (below_grown hbn9y none) (fun j e => by cases e)
          have hb9y := hb7.trans (hbn9y.mono hb7.size)
          have hsm := same_any hcn9y hc9y hfl hfl
          simp only [decide_true] at hsm
          have Hsm := Lib.hid hsm
          clear Hall hsm hcn9y hbn9y hB7 hc7 hb7
          go_wp2_with fail
          refine Hsm.out.mono ?_
          rintro e W9yb ⟨rfl, q9y, rfl⟩
          have hB9yd := hB9y.drewN q9y
          have hc9yd : CoinsAt (World.drewN W9ya q9y) _ was m := hc9y
          have hb9yd := below_drewN' hb9y q9y
          clear Hsm hB9y hc9y hb9y
          go_wp2
          go_ret
          exact ⟨rfl, hb9yd⟩


end Go.Proofs.YtidkamnciomnmaaDoor
