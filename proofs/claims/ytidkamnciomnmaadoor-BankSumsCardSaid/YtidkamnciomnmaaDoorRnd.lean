/-
  WITHIN A ROUND OF A LOOP OVER AN ITERATOR: a region that draws its order, whose last operations come in one order: as 'wp_region_still_tail' outside.
-/
import Derived.Test.YtidkamnciomnmaaDoorErr
import Derived.StillTail
import Derived.RangeFuncCalls
namespace Go.Proofs.YtidkamnciomnmaaDoor
open Go.RowKit
section
variable {P : Program} {ops : Array Oper} {Q : Exit → Act → World → Prop}

theorem rowsIn_wide {n l : Nat} {row : String} {args : Array Value} {w : World} {R : Value → World → Prop} (h : Rows P row args w R) : RowsIn (Fence.wide.inRound l) n P row args w R :=
  fun c cs _ => let ⟨v, w', r, s⟩ := h c cs; ⟨v, w', r, stepsIn_wide.2 s⟩

theorem uponIn_of_upon {n l : Nat} {o : Oper} {a : Act} {next : Act → World → Prop} {next' : Act → World → Prop} (hn : ∀ a w, next a w → next' a w) {r : Result Next} (h : o.upon P a next Q r) : o.uponIn (Fence.wide.inRound l) n P a next' Q r := by
  unfold Oper.upon at h
  unfold Oper.uponIn
  split at h
  · exact hn _ _ h
  · exact hn _ _ h
  · exact hn _ _ h
  · refine ⟨fun hd => by simp [Fence.inRound, Fence.wide] at hd, CallsIn.inRound l (callsIn_wide.2 (h.mono ?_))⟩
    intro e w' he
    cases e with
    | returned v => exact hn _ _ he
    | panicked c => exact he
    | outgrown => exact he
  · exact ⟨fun hd => by simp [Fence.inRound, Fence.wide] at hd, rowsIn_wide (h.mono fun _ _ he => hn _ _ he)⟩
  · exact h
  · exact h.elim

theorem opsIn_of_ops {n l : Nat} (hd : ∀ (i : Nat) (o : Oper), ops[i]? = some o → ∀ c, o.op ≠ .defer c) (hq : ¬ LetsOut Q) : ∀ (s : List Nat) (a : Act) (w : World), wpOps P ops Q s a w → wpOpsIn (Fence.wide.inRound l) n P ops Q s a w
  | [], _, _, h => h
  | i :: rest, a, w, h => by
    simp only [wpOps] at h
    simp only [wpOpsIn]
    cases ho : ops[i]? with
    | none => simp only [ho] at h ⊢; exact opsIn_of_ops hd hq rest _ _ h
    | some o =>
      simp only [ho] at h ⊢
      by_cases hw : Region.wanted o (yielded ops a.tmps) = true
      · simp only [hw, if_true] at h ⊢
        rcases h with h | ⟨_, h⟩
        · refine ⟨fun _ _ => trivial, ?_⟩
          rw [show (Fence.wide.inRound l).round = some l from rfl, Oper.semAt_some l _ _ (hd i o ho)]
          exact uponIn_of_upon (opsIn_of_ops hd hq rest) h
        · exact absurd h hq
      · simp only [hw, Bool.false_eq_true, if_false] at h ⊢
        exact ⟨fun _ _ => trivial, opsIn_of_ops hd hq rest _ _ h⟩

theorem wpIn_region_still_tail {id k l : Nat} {a : Act} {w : World} {L : List Oper} (n : Nat) (hm : P.follows .mixedOrders = true) (hd : ∀ o ∈ L, ∀ c, o.op ≠ .defer c) (hq : ¬ LetsOut Q) (hB : Region.lexTailB .any L.toArray n = true)
    (h : wpStill P L.toArray { w with drawn := w.drawn + 1 } (fun a' => wpList P L.toArray Q (L.drop n) a' { w with drawn := w.drawn + 1 }) (L.take n) a) : (Code.region id L.toArray true).wpIn (Fence.wide.inRound l) k P Q a w := by
  simp only [Region.lexTailB, Bool.and_eq_true, decide_eq_true_eq] at hB
  obtain ⟨⟨⟨⟨hsel, hn⟩, hs⟩, hc⟩, hlex⟩ := hB
  have hn' : n < L.length := by simpa using hn
  have htl : (L.take n).length = n := by simp; omega
  have hdl : (L.drop n).length = L.toArray.size - n := by simp
  have inv0 : HeadInv .any L.toArray n (Array.replicate L.toArray.size false) :=
    ⟨by simp, fun j oj _ hl => (by rw [getD_replicate_false] at hl; cases hl), fun t _ ht => getD_in (by simpa using ht) (getD_replicate_false _ _)⟩
  have H := wpAnyL_lex (md := .any) (g := L.toArray.size - n) hsel hs hc hn (L.take n) 0 _ a (fun j hj => by
    have hj' : j < n := by rw [htl] at hj; exact hj
    simp [hj']) (by simpa using htl) inv0 (by rw [htl]; exact hlex) h
  have h2 := wpAny_of_head (Q' := Q) (g := L.toArray.size - n) (fun listed a' hL => by
    have := wpAny_of_seq (md := .any) (Q' := Q) (L.drop n) n listed a' { w with drawn := w.drawn + 1 } (fun j => by simp [List.getElem?_drop]) (by rw [hdl]; exact hL.1) hL.2
    rwa [hdl] at this) _ _ _ H
  rw [htl, show n + (L.toArray.size - n) = L.toArray.size by omega] at h2
  refine wpIn_region_draw fun t => ?_
  simp only [Region.schedule, hm, Bool.true_or, if_true]
  refine opsIn_of_ops (fun i o hi => hd o ?_) hq _ _ _ (wpAny_sound L.toArray.size t _ a _ h2)
  exact List.mem_of_getElem? (by simpa using hi)
end
end Go.Proofs.YtidkamnciomnmaaDoor
