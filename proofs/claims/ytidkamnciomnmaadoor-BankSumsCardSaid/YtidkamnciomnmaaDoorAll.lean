/-
  THE CONTRACT OF (*bank.Bank).All: a slice of the call's own, that holds what the bank holds, in order.
-/
import Derived.Test.YtidkamnciomnmaaDoorSeq
import Derived.Test.YtidkamnciomnmaaDoorDet
import Derived.Test.YtidkamnciomnmaaDoorBank
import Derived.Test.YtidkamnciomnmaaDoorOrd
import Derived.Test.YtidkamnciomnmaaDoorSortLay
import Derived.Maps.AppendAt
import Derived.RangeFuncLeaves
namespace Go.Proofs.YtidkamnciomnmaaDoor
open Go.RowKit Go.Maps Go.Lib Go.Sort
theorem wide_fn (f : FuncId) : Fence.wide.fn f = True := rfl
theorem wide_depth : Fence.wide.depth = none := rfl
attribute [local go_sem] Oper.semAt_some wide_fn wide_depth

theorem coinInfo : (Tryd.prog.info? 49).map (fun i => (i.zero, i.size, i.bytes)) = some (some (.agg #[.string ⟨#[]⟩, .string ⟨#[]⟩, .int .u64 0]), 3, 40) := by kernel_rfl

theorem sort_any (m : Bk.M) (g cap : Nat) (zs : List Pk) (w : World) (hH : HoldsK (encK m) 3 w g 0 zs.toArray) (hg : g < w.heap.size) (hl : zs.length < 4611686018427387904) :
    Calls Tryd.prog 29 #[.slice (some ⟨g, 0, none⟩) zs.length cap, .func (.func 30) #[] #[]] w fun e w' => e = .returned (.tuple #[]) ∧
      HoldsK (encK m) 3 w' g 0 (zs.mergeSort fun x y => !(ltOf cfK) y x).toArray ∧ w.grownBy w' (some g) := by
  have hcon := AnyQ.slices_SortFunc_total Tryd.sortL 3 Tryd.isAgg49 Tryd.sizeOf49 (encK m) (fun _ => rfl) (fun x v hv => by
      simp only [encK, encQ, List.mem_cons, List.not_mem_nil, or_false] at hv; rcases hv with rfl | rfl | rfl <;> rfl) cfK swoK 30 #[] g 0 cap zs.toArray w (enters_of Tryd.func30 (by kernel_rfl) rfl)
      (fun _ _ _ _ x y => closure_any (x.1.1, x.1.2, amt m x.1) (y.1.1, y.1.2, amt m y.1) _) hH hg (by simpa using hl) totK
  change Calls Tryd.prog 29 #[.slice (some ⟨g, 0, none⟩) zs.toArray.size cap, .func (.func 30) #[] #[]] w _ at hcon
  rw [List.size_toArray] at hcon
  refine hcon.mono ?_
  rintro e w' ⟨he, n, os, rfl⟩
  exact ⟨he, holdsK_sortWorldK_c _ _ _ _ _ _ _ _ _ hH hg (by simp), grown_sortK _⟩
theorem sort_none (fv : Value) (w : World) : Calls Tryd.prog 29 #[.slice none 0 0, fv] w fun e w' => e = .returned (.tuple #[]) ∧ w' = w := by
  have hcon := AnyF.slices_SortFunc_none Tryd.sortL none 0 fv w
  change Calls Tryd.prog 29 _ _ _ at hcon
  exact hcon

set_option maxRecDepth 100000 in
set_option maxHeartbeats 2000000 in
theorem all_any {b mb n : Nat} {m : Bk.M} {w : World} (hB : BankAt w b mb n m) (hn : n * 40 ≤ 140737488355328) :
    Calls Tryd.prog 19 #[.pointer (some ⟨b, 0, none⟩)] w fun e w' => ∃ v, e = .returned v ∧ CoinsAt w' w.heap.size v m ∧ Below w.heap.size w w' ∧ m.length ≤ n := by
  refine (callsIn_wide (n := 3)).1 ?_
  obtain ⟨D0, hown0, hR0⟩ := hB.own
  obtain ⟨i0, hi, hz0, hz1, hz2⟩ := info_parts coinInfo
  have c0 := (hB.blk.alloc (.cells #[.pointer (some ⟨b, 0, none⟩)] 24)).alloc (.cells #[.slice none 0 0] 27) |>.cell 0
  simp only [List.getElem?_toArray, List.getElem?_cons_zero, List.getElem?_cons_succ] at c0
  refine callsIn_of_wp_marks Tryd.func19 rfl trivial ?_ rfl
  simp only [Tryd.ntmps19, List.size_toArray, List.length_cons, List.length_nil, Nat.reduceAdd, Nat.reduceSub, Array.replicate_succ, Array.replicate_zero, List.push_toArray, List.append_toArray, List.nil_append, List.cons_append]
  gi_wp2_with (gi_at_call 28; refine (callsIn_wide.2 (keys_any _ _)).mono ?_; rintro e w' ⟨rfl, rfl⟩)
  have bP := ((Boxed.new w 24 (.pointer (some ⟨b, 0, none⟩))).alloc (.cells #[.slice none 0 0] 27)).alloc (.cells #[.map (some mb)] 54)
  have bO := (Boxed.new (w.alloc (.cells #[.pointer (some ⟨b, 0, none⟩)] 24)) 27 (.slice none 0 0)).alloc (.cells #[.map (some mb)] 54)
  have bM := Boxed.new ((w.alloc (.cells #[.pointer (some ⟨b, 0, none⟩)] 24)).alloc (.cells #[.slice none 0 0] 27)) 54 (.map (some mb))
  simp only [World.size_alloc] at bO bM
  have hB0 : Below w.heap.size w (((w.alloc (.cells #[.pointer (some ⟨b, 0, none⟩)] 24)).alloc (.cells #[.slice none 0 0] 27)).alloc (.cells #[.map (some mb)] 54)) := (((Below.refl _ w).alloc (Nat.le_refl _) _).alloc (by simp) _).alloc (by simp; omega) _
  have hsz : (((w.alloc (.cells #[.pointer (some ⟨b, 0, none⟩)] 24)).alloc (.cells #[.slice none 0 0] 27)).alloc (.cells #[.map (some mb)] 54)).heap.size = w.heap.size + 3 := by simp
  obtain ⟨W0, hW0⟩ : ∃ W0, ((w.alloc (.cells #[.pointer (some ⟨b, 0, none⟩)] 24)).alloc (.cells #[.slice none 0 0] 27)).alloc (.cells #[.map (some mb)] 54) = W0 := ⟨_, rfl⟩
  rw [hW0] at bP bO bM hB0 hsz ⊢
  clear hW0 c0
  have hown1 : W0.ownsMap Tryd.prog 59 (plainElem Tryd.prog 30) mb n D0 := hown0.kept (below_grown hB0 none) (by simp)
  gi_wp2
  refine wpIn_rangeFunc_ownH (F := Fence.wide) rfl (by decide) (gf := 38) (lb := #[.pointer (some ⟨w.heap.size + 1 + 1, 0, none⟩)]) rfl trivial (enters_of Tryd.func38 (by kernel_rfl) rfl)
    (keys_stops 2 (w.heap.size + 1 + 1) mb n D0 W0 (by omega) bM.cell hown1) walksK_t walksK_b (Below.refl _ _) (fun _ => rfl)
    (fun pre W => ((∃ v, Boxed W (w.heap.size + 1) 27 v ∧ W.ownsRow w.heap.size 49 3 v pre.length (pre.flatMap (encK m)) ∧ (v = .slice none 0 0 ↔ pre = [])) ∧ Boxed W w.heap.size 24 (.pointer (some ⟨b, 0, none⟩))) ∧ (Below w.heap.size w W ∧ pre.length ≤ n))
    (fun _ _ _ => False)
    (OwnFrom.and (OwnFrom.and (Own.from (holdsRow_own w.heap.size (w.heap.size + 1) 27 49 3 (fun pre => pre.length) (fun pre => pre.flatMap (encK m)) (fun pre v => v = .slice none 0 0 ↔ pre = [])) _) (Own.from (boxed_own _ _ _) _)) (OwnFrom.and (ownFrom_below (Nat.le_refl _) (by omega)) (ownFrom_pure _ (fun pre : List Pk => pre.length ≤ n))))
    (fun _ _ _ _ _ hs _ _ => hs)
    ⟨⟨⟨_, bO, World.ownsRow_nil _ _ _ _, by simp⟩, bP⟩, hB0, Nat.zero_le _⟩
    (fun x a' W => ∃ Bx, w.heap.size + 1 < Bx ∧ Blk W Bx 59 #[.string x.1.1, .string x.1.2] ∧ a' = { tmps := #[.pointer (some ⟨b, 0, none⟩), .pointer (some ⟨w.heap.size, 0, none⟩), .slice none 0 0, .pointer (some ⟨w.heap.size + 1, 0, none⟩), .pointer (some ⟨Bx, 0, none⟩), .pointer (some ⟨b, 0, none⟩), .bool false,
      .pointer (some ⟨b, 0, none⟩), .pointer (some ⟨b, 0, none⟩), .pointer (some ⟨b, 0, none⟩), .map (some mb), .func (.func 38) #[] #[.pointer (some ⟨w.heap.size + 1 + 1, 0, none⟩)], encP x.1, undef, undef, undef, undef, undef, undef, undef, undef, undef, undef, undef, undef, undef, undef, undef, undef, undef], defers := [] })
    (fun x a' _ X Y row hs hg hr => by
      obtain ⟨Bx, h1, h2, h3⟩ := hs
      exact ⟨Bx, h1, h2.grown hg (fun e => by obtain ⟨_, o, ho, hc⟩ := hr Bx e.symm; unfold Blk at h2; rw [h2] at ho; cases ho; cases hc), h3⟩)
    ?assign ?body ?done ?stop
  case assign =>
    rintro l pre x W K ⟨⟨⟨v, bO1, hr1, hn1⟩, bP1⟩, hB1, hpl⟩ hK
    unfold encP
    gi_wp2
    refine hK _ _ ((KeepsOthers.alloc _ _).from _) (KeepsWalks.alloc _ _) ⟨⟨⟨v, bO1.alloc _, hr1.alloc _, hn1⟩, bP1.alloc _⟩, hB1.alloc hB1.size _, hpl⟩ ⟨W.heap.size, bO1.lt, Blk.new _ _ _, rfl⟩
  case body =>
    rintro l pre x a' W hl hrec ⟨⟨⟨v, bO1, hr1, hn1⟩, bP1⟩, hB1, hpl⟩ ⟨Bx, hBx, hX, rfl⟩ hlt
    clear hrec
    have hN := hown0.size_le
    gi_wp2
    have hsW := hB1.size
    -- the bank as it lies
    have hBW : BankAt W b mb n m := hB.below hB1
    have hlk := look_run hBW.drew x.1.1 x.1.2 x.2.1 x.2.2
    have cb := hBW.blk.cell 0
    have k0 := hX.cell 0
    have k1 := hX.cell 1
    simp only [List.getElem?_toArray, List.getElem?_cons_zero, List.getElem?_cons_succ] at cb k0 k1
    have cO := bO1.cell
    have cP := bP1.cell
    -- the coin's block, the append
    have hC : Blk (W.drew.alloc (.cells #[.string x.1.1, .string x.1.2, .int .u64 (amt m x.1)] 49)) W.heap.size 49 #[.string x.1.1, .string x.1.2, .int .u64 (amt m x.1)] := Blk.new _ _ _
    have hnl : pre.length + 1 ≤ n := by omega
    obtain ⟨v', w1, hrun, hown', hgrow, hnil'⟩ := run_append_own (P := Tryd.prog) (W.drew.alloc (.cells #[.string x.1.1, .string x.1.2, .int .u64 (amt m x.1)] 49)) w.heap.size 27 27 49 i0 _ 3 40 Tryd.underlying27 hi hz0 hz1 hz2 rfl (by decide)
      v pre.length _ (hr1.drew.alloc _) ⟨W.heap.size, 0, none⟩ 1 1 (encK m x) rfl (fun j u hju => by rw [show (⟨W.heap.size, 0, none⟩ : Addr).add j = ⟨W.heap.size, j, none⟩ by simp [Addr.add]; exact Eq.symm, hC.cell j]; simpa [encK, encQ] using hju) (fun u hu => by
        simp only [encK, encQ, List.mem_cons, List.not_mem_nil, or_false] at hu; rcases hu with rfl | rfl | rfl <;> rfl) (by simp only [maxLen]; omega) (by omega) (by simp; omega)
    obtain ⟨g', cap', rfl⟩ := ownsRow_succ hown'
    obtain ⟨hv1, hv2, hr2, hk2, hb2⟩ := Boxed.appended (W := W.drew) bO1 (by decide) hr1.drew hsW (Nat.le_add_right _ _) hown' hgrow
    have cO1 := hv1.cell
    have fO1 := hv1.frozen
    refine wpIn_region_det (A := { tmps := #[.pointer (some ⟨b, 0, none⟩), .pointer (some ⟨w.heap.size, 0, none⟩), .slice none 0 0, .pointer (some ⟨w.heap.size + 1, 0, none⟩), .pointer (some ⟨Bx, 0, none⟩), .pointer (some ⟨b, 0, none⟩), .bool false,
      .pointer (some ⟨b, 0, none⟩), .pointer (some ⟨b, 0, none⟩), .pointer (some ⟨b, 0, none⟩), .map (some mb), .func (.func 38) #[] #[.pointer (some ⟨w.heap.size + 1 + 1, 0, none⟩)], encP x.1,
      v, .pointer (some ⟨Bx, 0, none⟩), .string x.1.1, .pointer (some ⟨Bx, 1, none⟩), .string x.1.2, .pointer (some ⟨b, 0, none⟩), .pointer (some ⟨b, 0, none⟩), .pointer (some ⟨b, 0, none⟩), .map (some mb), .agg #[.string x.1.1, .string x.1.2], .int .u64 (amt m x.1),
      .agg #[.string x.1.1, .string x.1.2, .int .u64 (amt m x.1)], .slice (some ⟨W.heap.size, 0, none⟩) 1 1, .slice (some ⟨g', 0, none⟩) (pre.length + 1) cap', undef, undef, undef], defers := [] }) [v, .pointer (some ⟨Bx, 0, none⟩), .string x.1.1, .pointer (some ⟨Bx, 1, none⟩), .string x.1.2, .pointer (some ⟨b, 0, none⟩), .pointer (some ⟨b, 0, none⟩), .pointer (some ⟨b, 0, none⟩), .map (some mb), .agg #[.string x.1.1, .string x.1.2], .int .u64 (amt m x.1),
      .agg #[.string x.1.1, .string x.1.2, .int .u64 (amt m x.1)], .slice (some ⟨W.heap.size, 0, none⟩) 1 1, .slice (some ⟨g', 0, none⟩) (pre.length + 1) cap', undef] [12, 13, 14] (fun i => if i = 0 then 1 else 0)
      (fun | 0 => W.drew | 1 => W.drew.alloc (.cells #[.string x.1.1, .string x.1.2, .int .u64 (amt m x.1)] 49) | 2 => w1 | _ => w1.setCell ⟨w.heap.size + 1, 0, none⟩ (.slice (some ⟨g', 0, none⟩) (pre.length + 1) cap'))
      (by kernel_rfl) (by kernel_rfl) ?_ (by kernel_rfl) (by kernel_rfl) (by kernel_rfl) ?_ rfl ?_
    · rintro ⟨_, _, h⟩; exact h
    · simp only [Runs]
      refine ⟨.inl ⟨by decide, fun k hk => ?_⟩, .inl ⟨by decide, fun k hk => ?_⟩, .inl ⟨by decide, fun k hk => ?_⟩, .inl ⟨by decide, fun k hk => ?_⟩, .inl ⟨by decide, fun k hk => ?_⟩, .inl ⟨by decide, fun k hk => ?_⟩, .inl ⟨by decide, fun k hk => ?_⟩, .inl ⟨by decide, fun k hk => ?_⟩,
        .inl ⟨by decide, fun k hk => ?_⟩, .inl ⟨by decide, fun k hk => ?_⟩, .inl ⟨by decide, fun k hk => ?_⟩, .inl ⟨by decide, fun k hk => ?_⟩, .inr ⟨0, rfl, ?_⟩, .inr ⟨1, rfl, ?_⟩, .inr ⟨2, rfl, ?_⟩, trivial⟩
      · have hk' : k ≤ 1 := by simpa using hk
        rcases Nat.le_one_iff_eq_zero_or_eq_one.1 hk' with rfl | rfl
        · exact .inr ⟨v, by simp [go_sem, cO], by intro d hd; cases hd; rfl⟩
        · have cO2 := (bO1.alloc (.cells #[.string x.1.1, .string x.1.2, .int .u64 (amt m x.1)] 49)).cell
          exact .inr ⟨v, by simp [go_sem, cO2], by intro d hd; cases hd; rfl⟩
      · obtain rfl : k = 0 := by simpa using hk
        exact .inr ⟨.pointer (some ⟨Bx, 0, none⟩), by simp [go_sem], by intro d hd; cases hd; rfl⟩
      · obtain rfl : k = 0 := by simpa using hk
        exact .inr ⟨.string x.1.1, by simp [go_sem, k0], by intro d hd; cases hd; rfl⟩
      · obtain rfl : k = 0 := by simpa using hk
        exact .inr ⟨.pointer (some ⟨Bx, 1, none⟩), by simp [go_sem], by intro d hd; cases hd; rfl⟩
      · obtain rfl : k = 0 := by simpa using hk
        exact .inr ⟨.string x.1.2, by simp [go_sem, k1], by intro d hd; cases hd; rfl⟩
      · obtain rfl : k = 0 := by simpa using hk
        exact .inr ⟨.pointer (some ⟨b, 0, none⟩), by simp [go_sem, cP], by intro d hd; cases hd; rfl⟩
      · obtain rfl : k = 0 := by simpa using hk
        exact .inr ⟨.pointer (some ⟨b, 0, none⟩), by simp [go_sem], by intro d hd; cases hd; rfl⟩
      · obtain rfl : k = 0 := by simpa using hk
        exact .inr ⟨.pointer (some ⟨b, 0, none⟩), by simp [go_sem], by intro d hd; cases hd; rfl⟩
      · obtain rfl : k = 0 := by simpa using hk
        exact .inr ⟨.map (some mb), by simp [go_sem, cb], by intro d hd; cases hd; rfl⟩
      · obtain rfl : k = 0 := by simpa using hk
        exact .inr ⟨.agg #[.string x.1.1, .string x.1.2], by simp [go_sem, k0, k1], by intro d hd; cases hd; rfl⟩
      · obtain rfl : k = 0 := by simpa using hk
        exact .inr ⟨.int .u64 (amt m x.1), by simp [go_sem, hlk, amt], by intro d hd; cases hd; rfl⟩
      · obtain rfl : k = 0 := by simpa using hk
        exact .inr ⟨.agg #[.string x.1.1, .string x.1.2, .int .u64 (amt m x.1)], by simp [go_sem], by intro d hd; cases hd; rfl⟩
      · exact .inr ⟨.slice (some ⟨W.heap.size, 0, none⟩) 1 1, by simp [go_sem], by intro d hd; cases hd; rfl⟩
      · exact .inr ⟨.slice (some ⟨g', 0, none⟩) (pre.length + 1) cap', by simp [execOp, resolve, invoke, builtin, Act.eval, hrun, Result.andThen], by intro d hd; cases hd; rfl⟩
      · exact .inl ⟨by simp [go_sem, cO1, fO1], rfl⟩
    · have hk3 : KeepsOthers W (w1.setCell ⟨w.heap.size + 1, 0, none⟩ (.slice (some ⟨g', 0, none⟩) (pre.length + 1) cap')) := ⟨hk2.size, hk2.same⟩
      have hb3 : Below w.heap.size W (w1.setCell ⟨w.heap.size + 1, 0, none⟩ (.slice (some ⟨g', 0, none⟩) (pre.length + 1) cap')) := ⟨hb2.os, hb2.tape, hb2.output, hb2.size, hb2.block⟩
      have bP2 : Boxed w1 w.heap.size 24 (.pointer (some ⟨b, 0, none⟩)) := Boxed.kept (Boxed.alloc (W := W.drew) bP1 _) hgrow (bP1.not_row (by decide) hr1)
      exact ⟨hk3.from _, hk3.walks, ⟨⟨_, hv2, by simpa using hr2, by simp⟩, bP2.other (by omega) _⟩, hB1.trans hb3, by simpa using hnl⟩
  case done =>
    rintro D xs W hD ⟨hnd, hmem⟩ ⟨⟨⟨v, bO1, hr1, hn1⟩, bP1⟩, hB1, hxl⟩ hK
    have hz := sortedK hR0 hnd hmem
    have hcO := bO1.cell
    have Hl := Lib.hid (show m.length ≤ n by rw [← hz, List.length_map, List.length_mergeSort]; exact hxl)
    by_cases hx : xs = []
    · obtain rfl := hn1.2 hx
      have Hm := Lib.hid (show m = [] by rw [← hz, hx]; simp)
      clear hn1 hmem hnd hz hxl hx hr1 hB hR0 hown0 hown1
      gi_wp2_with (gi_at_call 29; refine (callsIn_wide.2 (sort_none _ _)).mono ?_; rintro e w' ⟨rfl, rfl⟩)
      refine ⟨by simp, .inl ⟨_, _, rfl, run_takeDeferred hK, ?_⟩⟩
      exact ⟨_, results_tmp rfl _ _ _, _, rfl, .inl ⟨Hm.out, rfl⟩, hB1.trans (belowK_b (w := w) (Nat.le_refl _) _ D _ _ (by omega) hK rfl rfl), Hl.out⟩
    · obtain ⟨g, cap, rfl⟩ : ∃ g cap, v = .slice (some ⟨g, 0, none⟩) xs.length cap := by
        rcases hr1.2 with ⟨e, _⟩ | ⟨g, cap, _, e, _⟩
        · exact absurd (hn1.1 e) hx
        · exact ⟨g, cap, e⟩
      obtain ⟨hH, hgb, hgl, hgo⟩ := holdsK_of_ownsRow (enc := encK m) (fun _ => rfl) (by decide) hr1 rfl
      have hgO : some (w.heap.size + 1) ≠ some g := bO1.not_row (by decide) hr1
      have Hz := Lib.hid hz
      have Hx := Lib.hid hx
      have Hr := Lib.hid hr1
      have hl62 : xs.length < 4611686018427387904 := by omega
      clear hn1 hmem hnd hz hxl hx hr1 hB hR0 hown0 hown1
      gi_wp2_with (gi_at_call 29; refine (callsIn_wide.2 (sort_any m g cap xs _ hH hgl hl62)).mono ?_; rintro e w' ⟨rfl, hH', hg'⟩; have hcO' := (bO1.kept hg' hgO).cell)
      have hDg : some D ≠ some g := fun e => by
        obtain ⟨_, cap', cur, e1, _, hgc, _⟩ := Hr.out.2.resolve_left (fun h => by cases h.1)
        injection e1 with e2
        injection e2 with e2
        injection e2 with e2
        subst e2
        injection e with e
        rw [e, hgc] at hK
        cases hK
      have hK' : w'.heap[D]? = some (.deferred (some [])) := (hg'.block D (Array.getElem?_eq_some_iff.1 hK).1 hDg).trans hK
      refine ⟨by simp, .inl ⟨_, _, rfl, run_takeDeferred hK', ?_⟩⟩
      have hl3 : (xs.mergeSort fun x y => !(ltOf cfK) y x).length = xs.length := by simp
      have hb2 : Below w.heap.size w w' := hB1.grown hg' hB1.size (fun j e => by cases e; exact hgb)
      have hco := coins_of_holds (base := w.heap.size) (cap := cap) Hz.out hH' hgb (Nat.lt_of_lt_of_le hgl hg'.size) (fun e => Hx.out (by rw [e] at hl3; exact List.length_eq_zero_iff.1 hl3.symm))
      rw [hl3] at hco
      refine ⟨_, results_tmp rfl _ _ _, _, rfl, ?_, ?_, Hl.out⟩
      · exact hco.grown (grownBy_putObj' _ _ _) (fun j e e2 => hDg (e.trans e2.symm))
      · exact hb2.trans (belowK_b (w := w) (Nat.le_refl _) _ D _ _ (by omega) hK' rfl rfl)
  case stop =>
    rintro D c pre W _ _ h _
    exact h.elim
end Go.Proofs.YtidkamnciomnmaaDoor
