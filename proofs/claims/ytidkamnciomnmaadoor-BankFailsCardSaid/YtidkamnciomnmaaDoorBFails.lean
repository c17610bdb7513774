/-
  THE WALK OF ferrymanlaw12.BankFails.
-/
import Derived.Test.YtidkamnciomnmaaDoorBBack
import Derived.Outline
namespace Go.Proofs.YtidkamnciomnmaaDoor
open Go.RowKit Go.Maps Go.Lib

theorem get_wrong {m : Bk.M} (h : Bk.Fine m) {a d : ByteArray} (ha : ¬ (0 < a.size ∧ a.size ≤ 16)) : Bk.get m (a.data.toList, d.data.toList) = 0 := by
  refine Classical.byContradiction fun e => ha ?_
  have hw := h.get_name e
  unfold Bk.wrong at hw
  rw [len_data] at hw
  split at hw
  · cases hw
  · rename_i h1
    omega

def PhiBF (b g : Nat) (x : Act12) (t : Nat) (W : World) (v : Value) : Prop :=
  match t with
  | 40 => v = .pointer (some ⟨b, 0, none⟩)
  | 41 => v = .pointer (some ⟨g, 1, none⟩)
  | 42 => v = .int .u8 x.a
  | 43 => v = .int .u8 ((x.a : Int) % 15)
  | 44 => v = .string (nameS (x.a % 15) ⟨#[]⟩)
  | 45 => v = .pointer (some ⟨g, 3, none⟩)
  | 46 => v = .int .u8 x.d
  | 47 => v = .int .u8 ((x.d : Int) % 3)
  | 48 => v = .int .u8 (120 + (x.d : Int) % 3)
  | 49 => ∃ h, v = .slice (some ⟨h, 0, none⟩) 1 1 ∧ Blk W h 5 #[.int .u8 (120 + (x.d : Int) % 3)]
  | 50 => v = .string (dn x.d)
  | 51 => v = .pointer (some ⟨g, 5, none⟩)
  | 52 => v = .int .u64 x.n
  | _ => True
theorem PhiBF_stable (b g : Nat) (x : Act12) (t : Nat) (W W' : World) (v : Value) (h : PhiBF b g x t W v) (hb : Below W.heap.size W W') : PhiBF b g x t W' v := by
  unfold PhiBF at h ⊢
  split at h
  all_goals first
    | exact h
    | (obtain ⟨k, e, hk⟩ := h
       exact ⟨k, e, hk.below hb hk.lt⟩)

set_option maxRecDepth 100000 in
set_option maxHeartbeats 4000000 in
theorem bfails_walk (aa : Option Addr) (len cap : Nat) (a c d : ByteArray) (n wh : Nat) (ha : a.size ≤ maxLen) (hc : c.size ≤ maxLen) (hd : d.size ≤ maxLen) (hn : n ≤ 18446744073709551615) (hwh : wh ≤ 255) (w : World) (h : ActsIn w aa len) (hl : len ≤ maxLen) (hh : Handle w) :
    Calls Tryd.prog 7 #[.slice aa len cap, .string a, .string c, .string d, .int .u64 n, .int .u8 wh] w fun e w' => e = .returned (.bool true) ∧ Below w.heap.size w w' := by
  have Hh := Lib.hid h
  have Hhh := Lib.hid hh
  have haw := awake12_any w hh
  have Hl := Lib.hid hl
  have Hwh := Lib.hid hwh
  unfold maxLen at hl
  clear h hh hwh
  go_enter Tryd.func7, Tryd.ntmps7
  go_wp2_with fail
  refine haw.mono ?_
  rintro e W1 ⟨rfl, hb1⟩
  clear haw
  go_wp2_with fail
  · go_ret
    exact ⟨rfl, hb1⟩
  refine (new_any _).mono ?_
  rintro e W2 ⟨rfl, hB2, hb2, hs2⟩
  obtain ⟨mx, hmx⟩ : ∃ mx, mx = W1.heap.size := ⟨_, rfl⟩
  have hwm : w.heap.size ≤ mx := hmx ▸ hb1.size
  have hb02 := hb1.trans (hb2.mono hb1.size)
  rw [← hmx] at hB2 hs2 ⊢
  clear hb1 hb2 hmx
  go_wp2
  go_loopw [33] (fun v wr => ∃ (i nn : Nat) (m : Bk.M), v = .int .i64 i ∧ i ≤ len ∧ nn ≤ i ∧ nn ≤ 50 ∧ BankAt wr (mx + 1) mx nn m ∧ Below w.heap.size w wr) (fun v _ => len - (intOf v).toNat)
  case atStart => exact ⟨0, 0, [], rfl, Nat.zero_le _, Nat.le_refl _, by decide, hB2, hb02⟩
  case round =>
    obtain ⟨i, nn, m, rfl, hi, hni, hn50, hBr, hbr⟩ := hrel
    by_cases hil : i < len
    · obtain ⟨ad, rfl, had, y, hy, c0, c1, c2, c3, c4, c5⟩ := (Hh.out.below hbr) i hil
      have Hy := Lib.hid hy
      have hA1 : Blk (wr.alloc (.cells (enc12 y) 32)) wr.heap.size 32 (enc12 y) := Blk.new _ _ _
      simp only [enc12] at hA1
      have hB1 := hBr.alloc (.cells (enc12 y) 32)
      have hb1 := hbr.alloc hbr.size (.cells (enc12 y) 32)
      simp only [enc12] at hB1 hb1
      clear hBr hbr hB2 hb02
      go_wp2_with fail
      · have hsz1 := hA1.lt
        generalize wr.alloc (.cells #[.int .u8 y.kind, .int .u8 y.a, .int .u8 y.b, .int .u8 y.d, .string y.raw, .int .u64 y.n] 32) = W0 at *
        generalize wr.heap.size = g at *
        refine wp_region_growF 13 (PhiBF (mx + 1) g y) (by kernel_rfl) (PhiBF_stable (mx + 1) g y) (by kernel_rfl) (by kernel_rfl) ?hstep ?hQ
        case hstep =>
          have hA0 := hA1
          simp only [List.take_succ_cons, List.take_zero]
          refine List.forall_mem_cons.2 ⟨?_, List.forall_mem_cons.2 ⟨?_, List.forall_mem_cons.2 ⟨?_, List.forall_mem_cons.2 ⟨?_, List.forall_mem_cons.2 ⟨?_, List.forall_mem_cons.2 ⟨?_, List.forall_mem_cons.2 ⟨?_, List.forall_mem_cons.2 ⟨?_, List.forall_mem_cons.2 ⟨?_, List.forall_mem_cons.2 ⟨?_, List.forall_mem_cons.2 ⟨?_, List.forall_mem_cons.2 ⟨?_, List.forall_mem_cons.2 ⟨?_, fun _ h => absurd h List.not_mem_nil⟩⟩⟩⟩⟩⟩⟩⟩⟩⟩⟩⟩⟩
          · intro a' W hb hL
            obtain ⟨ρ, hρ⟩ : ∃ ρ, a'.eval = ρ := ⟨_, rfl⟩
            have hcst : ∀ v, ρ (.const v) = v := fun v => by rw [← hρ]; rfl
            have hfnc : ∀ f, ρ (.func f) = .func (.func f) #[] #[] := fun f => by rw [← hρ]; rfl
            have hsz := hb.size
            have h13 : a'.eval (.tmp 13) = .pointer (some ⟨mx + 1, 0, none⟩) := hL.free 13 (free_of (by kernel_rfl))
            rw [hρ] at h13
            exact .val ⟨.pointer (some ⟨mx + 1, 0, none⟩), W, by rw [hρ]; simp [go_sem, hcst, h13], Below.refl _ _, fun t ht => by cases ht; rfl⟩
          · intro a' W hb hL
            obtain ⟨ρ, hρ⟩ : ∃ ρ, a'.eval = ρ := ⟨_, rfl⟩
            have hcst : ∀ v, ρ (.const v) = v := fun v => by rw [← hρ]; rfl
            have hfnc : ∀ f, ρ (.func f) = .func (.func f) #[] #[] := fun f => by rw [← hρ]; rfl
            have hsz := hb.size
            have h15 : a'.eval (.tmp 15) = .pointer (some ⟨g, 0, none⟩) := hL.free 15 (free_of (by kernel_rfl))
            rw [hρ] at h15
            exact .val ⟨.pointer (some ⟨g, 1, none⟩), W, by rw [hρ]; simp [go_sem, hcst, h15], Below.refl _ _, fun t ht => by cases ht; rfl⟩
          · intro a' W hb hL
            obtain ⟨ρ, hρ⟩ : ∃ ρ, a'.eval = ρ := ⟨_, rfl⟩
            have hcst : ∀ v, ρ (.const v) = v := fun v => by rw [← hρ]; rfl
            have hfnc : ∀ f, ρ (.func f) = .func (.func f) #[] #[] := fun f => by rw [← hρ]; rfl
            have hsz := hb.size
            have h41 := hL.get 41 (by simp [Op.operands, Call.operands]) (by kernel_rfl)
            rw [hρ] at h41
            simp only [PhiBF] at h41
            have hA := hA0.below hb hA0.lt
            have c := hA.cell 1
            simp only [List.getElem?_toArray, List.getElem?_cons_zero, List.getElem?_cons_succ] at c
            exact .val ⟨.int .u8 y.a, W, by rw [hρ]; simp [go_sem, hcst, h41, c], Below.refl _ _, fun t ht => by cases ht; rfl⟩
          · intro a' W hb hL
            obtain ⟨ρ, hρ⟩ : ∃ ρ, a'.eval = ρ := ⟨_, rfl⟩
            have hcst : ∀ v, ρ (.const v) = v := fun v => by rw [← hρ]; rfl
            have hfnc : ∀ f, ρ (.func f) = .func (.func f) #[] #[] := fun f => by rw [← hρ]; rfl
            have hsz := hb.size
            have h42 := hL.get 42 (by simp [Op.operands, Call.operands]) (by kernel_rfl)
            rw [hρ] at h42
            simp only [PhiBF] at h42
            exact .val ⟨.int .u8 ((y.a : Int) % 15), W, by rw [hρ]; simp [go_sem, hcst, h42, tm15 y.a], Below.refl _ _, fun t ht => by cases ht; rfl⟩
          · intro a' W hb hL
            obtain ⟨ρ, hρ⟩ : ∃ ρ, a'.eval = ρ := ⟨_, rfl⟩
            have hcst : ∀ v, ρ (.const v) = v := fun v => by rw [← hρ]; rfl
            have hfnc : ∀ f, ρ (.func f) = .func (.func f) #[] #[] := fun f => by rw [← hρ]; rfl
            have hsz := hb.size
            have h43 := hL.get 43 (by simp [Op.operands, Call.operands]) (by kernel_rfl)
            rw [hρ] at h43
            simp only [PhiBF] at h43
            refine .call ⟨10, #[.int .u8 ((y.a : Int) % 15), .string ⟨#[]⟩], W, by rw [hρ]; simp [go_sem, hcst, hfnc, h43], ?_⟩
            rw [show ((y.a : Int) % 15) = ((y.a % 15 : Nat) : Int) by omega]
            exact (name12_any (y.a % 15) (by omega) _ W).mono fun e W' ⟨he, hb'⟩ => ⟨_, he, hb', fun t ht => by cases ht; rfl⟩
          · intro a' W hb hL
            obtain ⟨ρ, hρ⟩ : ∃ ρ, a'.eval = ρ := ⟨_, rfl⟩
            have hcst : ∀ v, ρ (.const v) = v := fun v => by rw [← hρ]; rfl
            have hfnc : ∀ f, ρ (.func f) = .func (.func f) #[] #[] := fun f => by rw [← hρ]; rfl
            have hsz := hb.size
            have h15 : a'.eval (.tmp 15) = .pointer (some ⟨g, 0, none⟩) := hL.free 15 (free_of (by kernel_rfl))
            rw [hρ] at h15
            exact .val ⟨.pointer (some ⟨g, 3, none⟩), W, by rw [hρ]; simp [go_sem, hcst, h15], Below.refl _ _, fun t ht => by cases ht; rfl⟩
          · intro a' W hb hL
            obtain ⟨ρ, hρ⟩ : ∃ ρ, a'.eval = ρ := ⟨_, rfl⟩
            have hcst : ∀ v, ρ (.const v) = v := fun v => by rw [← hρ]; rfl
            have hfnc : ∀ f, ρ (.func f) = .func (.func f) #[] #[] := fun f => by rw [← hρ]; rfl
            have hsz := hb.size
            have h45 := hL.get 45 (by simp [Op.operands, Call.operands]) (by kernel_rfl)
            rw [hρ] at h45
            simp only [PhiBF] at h45
            have hA := hA0.below hb hA0.lt
            have c := hA.cell 3
            simp only [List.getElem?_toArray, List.getElem?_cons_zero, List.getElem?_cons_succ] at c
            exact .val ⟨.int .u8 y.d, W, by rw [hρ]; simp [go_sem, hcst, h45, c], Below.refl _ _, fun t ht => by cases ht; rfl⟩
          · intro a' W hb hL
            obtain ⟨ρ, hρ⟩ : ∃ ρ, a'.eval = ρ := ⟨_, rfl⟩
            have hcst : ∀ v, ρ (.const v) = v := fun v => by rw [← hρ]; rfl
            have hfnc : ∀ f, ρ (.func f) = .func (.func f) #[] #[] := fun f => by rw [← hρ]; rfl
            have hsz := hb.size
            have h46 := hL.get 46 (by simp [Op.operands, Call.operands]) (by kernel_rfl)
            rw [hρ] at h46
            simp only [PhiBF] at h46
            exact .val ⟨.int .u8 ((y.d : Int) % 3), W, by rw [hρ]; simp [go_sem, hcst, h46, tm3 y.d], Below.refl _ _, fun t ht => by cases ht; rfl⟩
          · intro a' W hb hL
            obtain ⟨ρ, hρ⟩ : ∃ ρ, a'.eval = ρ := ⟨_, rfl⟩
            have hcst : ∀ v, ρ (.const v) = v := fun v => by rw [← hρ]; rfl
            have hfnc : ∀ f, ρ (.func f) = .func (.func f) #[] #[] := fun f => by rw [← hρ]; rfl
            have hsz := hb.size
            have h47 := hL.get 47 (by simp [Op.operands, Call.operands]) (by kernel_rfl)
            rw [hρ] at h47
            simp only [PhiBF] at h47
            exact .val ⟨.int .u8 (120 + (y.d : Int) % 3), W, by rw [hρ]; simp [go_sem, hcst, h47, wr120 y.d], Below.refl _ _, fun t ht => by cases ht; rfl⟩
          · intro a' W hb hL
            obtain ⟨ρ, hρ⟩ : ∃ ρ, a'.eval = ρ := ⟨_, rfl⟩
            have hcst : ∀ v, ρ (.const v) = v := fun v => by rw [← hρ]; rfl
            have hfnc : ∀ f, ρ (.func f) = .func (.func f) #[] #[] := fun f => by rw [← hρ]; rfl
            have hsz := hb.size
            have h48 := hL.get 48 (by simp [Op.operands, Call.operands]) (by kernel_rfl)
            rw [hρ] at h48
            simp only [PhiBF] at h48
            exact .val ⟨.slice (some ⟨W.heap.size, 0, none⟩) 1 1, W.alloc (.cells #[.int .u8 (120 + (y.d : Int) % 3)] 5), by rw [hρ]; simp [go_sem, hcst, h48], (Below.refl _ _).alloc (Nat.le_refl _) _, fun t ht => by cases ht; exact ⟨_, rfl, Blk.new _ _ _⟩⟩
          · intro a' W hb hL
            obtain ⟨ρ, hρ⟩ : ∃ ρ, a'.eval = ρ := ⟨_, rfl⟩
            have hcst : ∀ v, ρ (.const v) = v := fun v => by rw [← hρ]; rfl
            have hfnc : ∀ f, ρ (.func f) = .func (.func f) #[] #[] := fun f => by rw [← hρ]; rfl
            have hsz := hb.size
            have h49 := hL.get 49 (by simp [Op.operands, Call.operands]) (by kernel_rfl)
            rw [hρ] at h49
            simp only [PhiBF] at h49
            obtain ⟨h, h49, hk⟩ := h49
            have hcv := conv_dn y.d hk
            exact .val ⟨.string (dn y.d), W, by rw [hρ]; simp [go_sem, hcst, h49, hcv], Below.refl _ _, fun t ht => by cases ht; rfl⟩
          · intro a' W hb hL
            obtain ⟨ρ, hρ⟩ : ∃ ρ, a'.eval = ρ := ⟨_, rfl⟩
            have hcst : ∀ v, ρ (.const v) = v := fun v => by rw [← hρ]; rfl
            have hfnc : ∀ f, ρ (.func f) = .func (.func f) #[] #[] := fun f => by rw [← hρ]; rfl
            have hsz := hb.size
            have h15 : a'.eval (.tmp 15) = .pointer (some ⟨g, 0, none⟩) := hL.free 15 (free_of (by kernel_rfl))
            rw [hρ] at h15
            exact .val ⟨.pointer (some ⟨g, 5, none⟩), W, by rw [hρ]; simp [go_sem, hcst, h15], Below.refl _ _, fun t ht => by cases ht; rfl⟩
          · intro a' W hb hL
            obtain ⟨ρ, hρ⟩ : ∃ ρ, a'.eval = ρ := ⟨_, rfl⟩
            have hcst : ∀ v, ρ (.const v) = v := fun v => by rw [← hρ]; rfl
            have hfnc : ∀ f, ρ (.func f) = .func (.func f) #[] #[] := fun f => by rw [← hρ]; rfl
            have hsz := hb.size
            have h51 := hL.get 51 (by simp [Op.operands, Call.operands]) (by kernel_rfl)
            rw [hρ] at h51
            simp only [PhiBF] at h51
            have hA := hA0.below hb hA0.lt
            have c := hA.cell 5
            simp only [List.getElem?_toArray, List.getElem?_cons_zero, List.getElem?_cons_succ] at c
            exact .val ⟨.int .u64 y.n, W, by rw [hρ]; simp [go_sem, hcst, h51, c], Below.refl _ _, fun t ht => by cases ht; rfl⟩
        case hQ =>
          intro ys W hlen hb hY
          obtain ⟨y0, ys0, rfl, hl0⟩ := cons_of' hlen
          obtain ⟨y1, ys1, rfl, hl1⟩ := cons_of' hl0
          obtain ⟨y2, ys2, rfl, hl2⟩ := cons_of' hl1
          obtain ⟨y3, ys3, rfl, hl3⟩ := cons_of' hl2
          obtain ⟨y4, ys4, rfl, hl4⟩ := cons_of' hl3
          obtain ⟨y5, ys5, rfl, hl5⟩ := cons_of' hl4
          obtain ⟨y6, ys6, rfl, hl6⟩ := cons_of' hl5
          obtain ⟨y7, ys7, rfl, hl7⟩ := cons_of' hl6
          obtain ⟨y8, ys8, rfl, hl8⟩ := cons_of' hl7
          obtain ⟨y9, ys9, rfl, hl9⟩ := cons_of' hl8
          obtain ⟨y10, ys10, rfl, hl10⟩ := cons_of' hl9
          obtain ⟨y11, ys11, rfl, hl11⟩ := cons_of' hl10
          obtain ⟨y12, ys12, rfl, hl12⟩ := cons_of' hl11
          obtain rfl := List.length_eq_zero_iff.1 hl12

          simp only [List.take_succ_cons, List.take_zero, List.drop_succ_cons, List.drop_zero, List.zip_cons_cons, List.zip_nil_left, List.zip_nil_right, List.foldl_cons, List.foldl_nil, Act.put, HoldsY, PhiBF] at hY ⊢
          clear hlen hl0 hl1 hl2 hl3 hl4 hl5 hl6 hl7 hl8 hl9 hl10 hl11 hl12
          obtain ⟨rfl, rfl, rfl, rfl, rfl, rfl, rfl, rfl, rfl, ⟨h9, rfl, _⟩, rfl, rfl, rfl, _⟩ := hY
          simp only [List.setIfInBounds_toArray, List.set_cons_succ, List.set_cons_zero]
          have h50 : (i : Int) < 50 := by assumption
          have Hg := Lib.hid (give_any (hB1.below hb) (by simp only [maxLen]; omega) (nameS (y.a % 15) ⟨#[]⟩) (dn y.d) y.n (nameS_size _ (by decide) (by decide)) (by rw [dn_size]; decide) Hy.out.n)
          have hb01 := hb1.trans (hb.mono hb1.size)
          clear hB1 hb1 hb hA1
          go_wp2_with fail
          refine Hg.out.mono ?_
          rintro e W3 ⟨v, rfl, _, hB3, hg3⟩
          have hb3 := below_of_grown hb01 hg3 (by omega)
          clear Hg hb01 hg3
          go_wp2
          refine ⟨⟨i + 1, nn + 1, _, rfl, hil, by omega, by omega, hB3, hb3⟩, ?_⟩
          show len - ((i : Int) + 1).toNat < len - (i : Int).toNat
          omega
      · refine ⟨⟨i + 1, nn, m, rfl, hil, by omega, hn50, hB1, hb1⟩, ?_⟩
        show len - ((i : Int) + 1).toNat < len - (i : Int).toNat
        omega
    · have hfine := hBr.fine
      have Hall := Lib.hid (all_any hBr (by omega))
      have hn' : n ≤ Bk.maxU := by unfold Bk.maxU; exact hn
      clear hB2 hb02 hn
      have hn := hn'
      clear hn'
      go_wp2_with fail
      refine Hall.out.mono ?_
      rintro e W3 ⟨was, rfl, hc3, hb3, hln⟩
      have hfl : List.length m ≤ maxLen := by simp only [maxLen]; omega
      have hB3 := hBr.below hb3
      have hb03 := hbr.trans (hb3.mono hbr.size)
      clear Hall hBr hbr hb3
      have h3 : wh % 3 = 0 ∨ wh % 3 = 1 ∨ wh % 3 = 2 := by omega
      rcases h3 with h3 | h3 | h3
      · have t0 : ((wh : Int) % 3 == 0) = true := by simp; omega
        have t2 : ((wh : Int) % 3 == 2) = false := by simp; omega
        clear h3
        have hcm := hc3.ne_map' hB3
        have hop := give_any hB3 (by simp only [maxLen]; omega) a d n ha hd hn
        have Hf := Lib.hid (fun h => Bk.give_fails (m := m) (a := a.data.toList) (d := d.data.toList) (n := n) h)
        have Hc := Lib.hid (fun h => Bk.give_changes (a := a.data.toList) (d := d.data.toList) (n := n) hfine h)
        generalize Bk.give m a.data.toList d.data.toList n = r4 at *
        have Hop := Lib.hid hop
        clear hop
        go_wp2_with fail
        refine Hop.out.mono ?_
        rintro e W4 ⟨v4, rfl, he4, hB4, hg4⟩
        have hc4 := hc3.grown hg4 (fun j e => by cases e; exact hcm)
        have hb4 := below_of_grown hb03 hg4 (by omega)
        clear Hop hB3 hc3 hb03 hg4 hcm
        by_cases hr : r4.1 = 0
        · rw [hr] at he4
          obtain rfl := he4.zero
          have hch : r4.2 ≠ m := Hc.out hr
          clear he4 hr Hc Hf
          have Hall := Lib.hid (all_any hB4 (by omega))
          go_wp2_with fail
          refine Hall.out.mono ?_
          rintro e Woa ⟨nowo, rfl, hcno, hbno, hlno⟩
          have hBo := hB4.below hbno
          have hco := hc4.grown (below_grown hbno none) (fun j e => by cases e)
          have hbo := hb4.trans (hbno.mono hb4.size)
          have hsm := same_any hcno hco (by simp only [maxLen]; omega) hfl
          rw [decide_eq_false hch] at hsm
          clear hch
          have Hsm := Lib.hid hsm
          clear Hall hsm hcno hbno hB4 hc4 hb4
          go_wp2_with fail
          refine Hsm.out.mono ?_
          rintro e Wob ⟨rfl, qo, rfl⟩
          have hBod := hBo.drewN qo
          have hbod := below_drewN' hbo qo
          clear Hsm hBo hco hbo
          by_cases hA : 0 < a.size ∧ a.size ≤ 16
          · have hA1 : 0 < (a.size : Int) := by omega
            have hA2 : (a.size : Int) ≤ 16 := by omega
            clear hBod hA
            go_wp2_with fail
            go_ret
            exact ⟨rfl, hbod⟩
          · have hz := get_wrong (d := d) hBod.fine hA
            have hhas := has_any hBod a d ha hd
            rw [hz] at hhas
            have Hhas := Lib.hid hhas
            clear hBod hhas hz
            have hA3 : ¬ 0 < (a.size : Int) ∨ (0 < (a.size : Int) ∧ ¬ (a.size : Int) ≤ 16) := by omega
            rcases hA3 with hA3 | ⟨hA3, hA4⟩
            all_goals
              clear hA
              go_wp2_with fail
              refine Hhas.out.mono ?_
              rintro e Woc ⟨rfl, hWc⟩
              subst hWc
              go_wp2
              go_ret
              exact ⟨rfl, hbod⟩
        · obtain ⟨t4, x4, rfl⟩ := he4.some hr
          have hm4 : r4.2 = m := Hf.out hr
          rw [hm4] at hB4
          clear he4 hm4 hr Hc Hf
          have Hall := Lib.hid (all_any hB4 (by omega))
          go_wp2_with fail
          refine Hall.out.mono ?_
          rintro e Wfa ⟨nowf, rfl, hcnf, hbnf, hlnf⟩
          have hBf := hB4.below hbnf
          have hcf := hc4.grown (below_grown hbnf none) (fun j e => by cases e)
          have hbf := hb4.trans (hbnf.mono hb4.size)
          have hsm := same_any hcnf hcf (by simp only [maxLen]; omega) hfl
          simp only [decide_true] at hsm
          have Hsm := Lib.hid hsm
          clear Hall hsm hcnf hbnf hB4 hc4 hb4
          go_wp2_with fail
          refine Hsm.out.mono ?_
          rintro e Wfb ⟨rfl, qf, rfl⟩
          have hBfd := hBf.drewN qf
          have hbfd := below_drewN' hbf qf
          clear Hsm hBf hcf hbf
          by_cases hA : 0 < a.size ∧ a.size ≤ 16
          · have hA1 : 0 < (a.size : Int) := by omega
            have hA2 : (a.size : Int) ≤ 16 := by omega
            clear hBfd hA
            go_wp2_with fail
            go_ret
            exact ⟨rfl, hbfd⟩
          · have hz := get_wrong (d := d) hBfd.fine hA
            have hhas := has_any hBfd a d ha hd
            rw [hz] at hhas
            have Hhas := Lib.hid hhas
            clear hBfd hhas hz
            have hA3 : ¬ 0 < (a.size : Int) ∨ (0 < (a.size : Int) ∧ ¬ (a.size : Int) ≤ 16) := by omega
            rcases hA3 with hA3 | ⟨hA3, hA4⟩
            all_goals
              clear hA
              go_wp2_with fail
              refine Hhas.out.mono ?_
              rintro e Wfc ⟨rfl, hWc⟩
              subst hWc
              go_wp2
              go_ret
              exact ⟨rfl, hbfd⟩

      · have t0 : ((wh : Int) % 3 == 0) = false := by simp; omega
        have t1 : ((wh : Int) % 3 == 1) = true := by simp; omega
        have t2 : ((wh : Int) % 3 == 2) = false := by simp; omega
        clear h3
        have hcm := hc3.ne_map' hB3
        have hop := take_any hB3 (by simp only [maxLen]; omega) a d n ha hd hn
        have Hf := Lib.hid (fun h => Bk.take_fails (m := m) (a := a.data.toList) (d := d.data.toList) (n := n) h)
        have Hc := Lib.hid (fun h => Bk.take_changes (a := a.data.toList) (d := d.data.toList) (n := n) hfine h)
        generalize Bk.take m a.data.toList d.data.toList n = r4 at *
        have Hop := Lib.hid hop
        clear hop
        go_wp2_with fail
        refine Hop.out.mono ?_
        rintro e W4 ⟨v4, rfl, he4, hB4, hg4⟩
        have hc4 := hc3.grown hg4 (fun j e => by cases e; exact hcm)
        have hb4 := below_of_grown hb03 hg4 (by omega)
        clear Hop hB3 hc3 hb03 hg4 hcm
        by_cases hr : r4.1 = 0
        · rw [hr] at he4
          obtain rfl := he4.zero
          have hch : r4.2 ≠ m := Hc.out hr
          clear he4 hr Hc Hf
          have Hall := Lib.hid (all_any hB4 (by omega))
          go_wp2_with fail
          refine Hall.out.mono ?_
          rintro e Woa ⟨nowo, rfl, hcno, hbno, hlno⟩
          have hBo := hB4.below hbno
          have hco := hc4.grown (below_grown hbno none) (fun j e => by cases e)
          have hbo := hb4.trans (hbno.mono hb4.size)
          have hsm := same_any hcno hco (by simp only [maxLen]; omega) hfl
          rw [decide_eq_false hch] at hsm
          clear hch
          have Hsm := Lib.hid hsm
          clear Hall hsm hcno hbno hB4 hc4 hb4
          go_wp2_with fail
          refine Hsm.out.mono ?_
          rintro e Wob ⟨rfl, qo, rfl⟩
          have hBod := hBo.drewN qo
          have hbod := below_drewN' hbo qo
          clear Hsm hBo hco hbo
          by_cases hA : 0 < a.size ∧ a.size ≤ 16
          · have hA1 : 0 < (a.size : Int) := by omega
            have hA2 : (a.size : Int) ≤ 16 := by omega
            clear hBod hA
            go_wp2_with fail
            go_ret
            exact ⟨rfl, hbod⟩
          · have hz := get_wrong (d := d) hBod.fine hA
            have hhas := has_any hBod a d ha hd
            rw [hz] at hhas
            have Hhas := Lib.hid hhas
            clear hBod hhas hz
            have hA3 : ¬ 0 < (a.size : Int) ∨ (0 < (a.size : Int) ∧ ¬ (a.size : Int) ≤ 16) := by omega
            rcases hA3 with hA3 | ⟨hA3, hA4⟩
            all_goals
              clear hA
              go_wp2_with fail
              refine Hhas.out.mono ?_
              rintro e Woc ⟨rfl, hWc⟩
              subst hWc
              go_wp2
              go_ret
              exact ⟨rfl, hbod⟩
        · obtain ⟨t4, x4, rfl⟩ := he4.some hr
          have hm4 : r4.2 = m := Hf.out hr
          rw [hm4] at hB4
          clear he4 hm4 hr Hc Hf
          have Hall := Lib.hid (all_any hB4 (by omega))
          go_wp2_with fail
          refine Hall.out.mono ?_
          rintro e Wfa ⟨nowf, rfl, hcnf, hbnf, hlnf⟩
          have hBf := hB4.below hbnf
          have hcf := hc4.grown (below_grown hbnf none) (fun j e => by cases e)
          have hbf := hb4.trans (hbnf.mono hb4.size)
          have hsm := same_any hcnf hcf (by simp only [maxLen]; omega) hfl
          simp only [decide_true] at hsm
          have Hsm := Lib.hid hsm
          clear Hall hsm hcnf hbnf hB4 hc4 hb4
          go_wp2_with fail
          refine Hsm.out.mono ?_
          rintro e Wfb ⟨rfl, qf, rfl⟩
          have hBfd := hBf.drewN qf
          have hbfd := below_drewN' hbf qf
          clear Hsm hBf hcf hbf
          by_cases hA : 0 < a.size ∧ a.size ≤ 16
          · have hA1 : 0 < (a.size : Int) := by omega
            have hA2 : (a.size : Int) ≤ 16 := by omega
            clear hBfd hA
            go_wp2_with fail
            go_ret
            exact ⟨rfl, hbfd⟩
          · have hz := get_wrong (d := d) hBfd.fine hA
            have hhas := has_any hBfd a d ha hd
            rw [hz] at hhas
            have Hhas := Lib.hid hhas
            clear hBfd hhas hz
            have hA3 : ¬ 0 < (a.size : Int) ∨ (0 < (a.size : Int) ∧ ¬ (a.size : Int) ≤ 16) := by omega
            rcases hA3 with hA3 | ⟨hA3, hA4⟩
            all_goals
              clear hA
              go_wp2_with fail
              refine Hhas.out.mono ?_
              rintro e Wfc ⟨rfl, hWc⟩
              subst hWc
              go_wp2
              go_ret
              exact ⟨rfl, hbfd⟩

      · have t0 : ((wh : Int) % 3 == 0) = false := by simp; omega
        have t1 : ((wh : Int) % 3 == 1) = false := by simp; omega
        have t2 : ((wh : Int) % 3 == 2) = true := by simp; omega
        clear h3
        by_cases hac : a = c
        · subst hac
          have hchange := fun h => Bk.move_same (a := a.data.toList) (d := d.data.toList) (n := n) hfine h
          have hcm := hc3.ne_map' hB3
          have hop := move_any hB3 (by simp only [maxLen]; omega) a a d n ha ha hd hn
          have Hf := Lib.hid (fun h => Bk.move_fails (m := m) (a := a.data.toList) (c := a.data.toList) (d := d.data.toList) (n := n) h)
          have Hc := Lib.hid (fun h => hchange h)
          generalize Bk.move m a.data.toList a.data.toList d.data.toList n = r4 at *
          have Hop := Lib.hid hop
          clear hop
          go_wp2_with fail
          refine Hop.out.mono ?_
          rintro e W4 ⟨v4, rfl, he4, hB4, hg4⟩
          have hc4 := hc3.grown hg4 (fun j e => by cases e; exact hcm)
          have hb4 := below_of_grown hb03 hg4 (by omega)
          clear Hop hB3 hc3 hb03 hg4 hcm
          by_cases hr : r4.1 = 0
          · rw [hr] at he4
            obtain rfl := he4.zero
            have hch : r4.2 = m := Hc.out hr
            rw [hch] at hB4
            clear he4 hr Hc Hf hch
            have Hall := Lib.hid (all_any hB4 (by omega))
            go_wp2_with fail
            refine Hall.out.mono ?_
            rintro e Woa ⟨nowo, rfl, hcno, hbno, hlno⟩
            have hBo := hB4.below hbno
            have hco := hc4.grown (below_grown hbno none) (fun j e => by cases e)
            have hbo := hb4.trans (hbno.mono hb4.size)
            have hsm := same_any hcno hco (by simp only [maxLen]; omega) hfl
            simp only [decide_true] at hsm
            have Hsm := Lib.hid hsm
            clear Hall hsm hcno hbno hB4 hc4 hb4
            go_wp2_with fail
            refine Hsm.out.mono ?_
            rintro e Wob ⟨rfl, qo, rfl⟩
            have hBod := hBo.drewN qo
            have hbod := below_drewN' hbo qo
            clear Hsm hBo hco hbo
            by_cases hA : 0 < a.size ∧ a.size ≤ 16
            · have hA1 : 0 < (a.size : Int) := by omega
              have hA2 : (a.size : Int) ≤ 16 := by omega
              clear hBod hA
              go_wp2_with fail
              go_ret
              exact ⟨rfl, hbod⟩
            · have hz := get_wrong (d := d) hBod.fine hA
              have hhas := has_any hBod a d ha hd
              rw [hz] at hhas
              have Hhas := Lib.hid hhas
              clear hBod hhas hz
              have hA3 : ¬ 0 < (a.size : Int) ∨ (0 < (a.size : Int) ∧ ¬ (a.size : Int) ≤ 16) := by omega
              rcases hA3 with hA3 | ⟨hA3, hA4⟩
              all_goals
                clear hA
                go_wp2_with fail
                refine Hhas.out.mono ?_
                rintro e Woc ⟨rfl, hWc⟩
                subst hWc
                go_wp2
                go_ret
                exact ⟨rfl, hbod⟩
          · obtain ⟨t4, x4, rfl⟩ := he4.some hr
            have hm4 : r4.2 = m := Hf.out hr
            rw [hm4] at hB4
            clear he4 hm4 hr Hc Hf
            have Hall := Lib.hid (all_any hB4 (by omega))
            go_wp2_with fail
            refine Hall.out.mono ?_
            rintro e Wfa ⟨nowf, rfl, hcnf, hbnf, hlnf⟩
            have hBf := hB4.below hbnf
            have hcf := hc4.grown (below_grown hbnf none) (fun j e => by cases e)
            have hbf := hb4.trans (hbnf.mono hb4.size)
            have hsm := same_any hcnf hcf (by simp only [maxLen]; omega) hfl
            simp only [decide_true] at hsm
            have Hsm := Lib.hid hsm
            clear Hall hsm hcnf hbnf hB4 hc4 hb4
            go_wp2_with fail
            refine Hsm.out.mono ?_
            rintro e Wfb ⟨rfl, qf, rfl⟩
            have hBfd := hBf.drewN qf
            have hbfd := below_drewN' hbf qf
            clear Hsm hBf hcf hbf
            by_cases hA : 0 < a.size ∧ a.size ≤ 16
            · have hA1 : 0 < (a.size : Int) := by omega
              have hA2 : (a.size : Int) ≤ 16 := by omega
              clear hBfd hA
              go_wp2_with fail
              go_ret
              exact ⟨rfl, hbfd⟩
            · have hz := get_wrong (d := d) hBfd.fine hA
              have hhas := has_any hBfd a d ha hd
              rw [hz] at hhas
              have Hhas := Lib.hid hhas
              clear hBfd hhas hz
              have hA3 : ¬ 0 < (a.size : Int) ∨ (0 < (a.size : Int) ∧ ¬ (a.size : Int) ≤ 16) := by omega
              rcases hA3 with hA3 | ⟨hA3, hA4⟩
              all_goals
                clear hA
                go_wp2_with fail
                refine Hhas.out.mono ?_
                rintro e Wfc ⟨rfl, hWc⟩
                subst hWc
                go_wp2
                go_ret
                exact ⟨rfl, hbfd⟩

        · have hchange := fun h => Bk.move_changes (a := a.data.toList) (c := c.data.toList) (d := d.data.toList) (n := n) hfine h (fun e => hac (data_inj e))
          have hcm := hc3.ne_map' hB3
          have hop := move_any hB3 (by simp only [maxLen]; omega) a c d n ha hc hd hn
          have Hf := Lib.hid (fun h => Bk.move_fails (m := m) (a := a.data.toList) (c := c.data.toList) (d := d.data.toList) (n := n) h)
          have Hc := Lib.hid (fun h => hchange h)
          generalize Bk.move m a.data.toList c.data.toList d.data.toList n = r4 at *
          have Hop := Lib.hid hop
          clear hop
          go_wp2_with fail
          refine Hop.out.mono ?_
          rintro e W4 ⟨v4, rfl, he4, hB4, hg4⟩
          have hc4 := hc3.grown hg4 (fun j e => by cases e; exact hcm)
          have hb4 := below_of_grown hb03 hg4 (by omega)
          clear Hop hB3 hc3 hb03 hg4 hcm
          by_cases hr : r4.1 = 0
          · rw [hr] at he4
            obtain rfl := he4.zero
            have hch : r4.2 ≠ m := Hc.out hr
            clear he4 hr Hc Hf
            have Hall := Lib.hid (all_any hB4 (by omega))
            go_wp2_with fail
            refine Hall.out.mono ?_
            rintro e Woa ⟨nowo, rfl, hcno, hbno, hlno⟩
            have hBo := hB4.below hbno
            have hco := hc4.grown (below_grown hbno none) (fun j e => by cases e)
            have hbo := hb4.trans (hbno.mono hb4.size)
            have hsm := same_any hcno hco (by simp only [maxLen]; omega) hfl
            rw [decide_eq_false hch] at hsm
            clear hch
            have Hsm := Lib.hid hsm
            clear Hall hsm hcno hbno hB4 hc4 hb4
            go_wp2_with fail
            refine Hsm.out.mono ?_
            rintro e Wob ⟨rfl, qo, rfl⟩
            have hBod := hBo.drewN qo
            have hbod := below_drewN' hbo qo
            clear Hsm hBo hco hbo
            by_cases hA : 0 < a.size ∧ a.size ≤ 16
            · have hA1 : 0 < (a.size : Int) := by omega
              have hA2 : (a.size : Int) ≤ 16 := by omega
              clear hBod hA
              go_wp2_with fail
              go_ret
              exact ⟨rfl, hbod⟩
            · have hz := get_wrong (d := d) hBod.fine hA
              have hhas := has_any hBod a d ha hd
              rw [hz] at hhas
              have Hhas := Lib.hid hhas
              clear hBod hhas hz
              have hA3 : ¬ 0 < (a.size : Int) ∨ (0 < (a.size : Int) ∧ ¬ (a.size : Int) ≤ 16) := by omega
              rcases hA3 with hA3 | ⟨hA3, hA4⟩
              all_goals
                clear hA
                go_wp2_with fail
                refine Hhas.out.mono ?_
                rintro e Woc ⟨rfl, hWc⟩
                subst hWc
                go_wp2
                go_ret
                exact ⟨rfl, hbod⟩
          · obtain ⟨t4, x4, rfl⟩ := he4.some hr
            have hm4 : r4.2 = m := Hf.out hr
            rw [hm4] at hB4
            clear he4 hm4 hr Hc Hf
            have Hall := Lib.hid (all_any hB4 (by omega))
            go_wp2_with fail
            refine Hall.out.mono ?_
            rintro e Wfa ⟨nowf, rfl, hcnf, hbnf, hlnf⟩
            have hBf := hB4.below hbnf
            have hcf := hc4.grown (below_grown hbnf none) (fun j e => by cases e)
            have hbf := hb4.trans (hbnf.mono hb4.size)
            have hsm := same_any hcnf hcf (by simp only [maxLen]; omega) hfl
            simp only [decide_true] at hsm
            have Hsm := Lib.hid hsm
            clear Hall hsm hcnf hbnf hB4 hc4 hb4
            go_wp2_with fail
            refine Hsm.out.mono ?_
            rintro e Wfb ⟨rfl, qf, rfl⟩
            have hBfd := hBf.drewN qf
            have hbfd := below_drewN' hbf qf
            clear Hsm hBf hcf hbf
            by_cases hA : 0 < a.size ∧ a.size ≤ 16
            · have hA1 : 0 < (a.size : Int) := by omega
              have hA2 : (a.size : Int) ≤ 16 := by omega
              clear hBfd hA
              go_wp2_with fail
              go_ret
              exact ⟨rfl, hbfd⟩
            · have hz := get_wrong (d := d) hBfd.fine hA
              have hhas := has_any hBfd a d ha hd
              rw [hz] at hhas
              have Hhas := Lib.hid hhas
              clear hBfd hhas hz
              have hA3 : ¬ 0 < (a.size : Int) ∨ (0 < (a.size : Int) ∧ ¬ (a.size : Int) ≤ 16) := by omega
              rcases hA3 with hA3 | ⟨hA3, hA4⟩
              all_goals
                clear hA
                go_wp2_with fail
                refine Hhas.out.mono ?_
                rintro e Wfc ⟨rfl, hWc⟩
                subst hWc
                go_wp2
                go_ret
                exact ⟨rfl, hbfd⟩



end Go.Proofs.YtidkamnciomnmaaDoor
