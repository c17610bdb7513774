/-
  THE ORDER OF A BANK's COINS, AND A ROW OF COINS IN MEMORY.
-/
import Derived.Test.YtidkamnciomnmaaDoorSeq
import Derived.Test.YtidkamnciomnmaaDoorCmp
import Derived.Lib.OwnBridge
import Derived.Sort.Walk0
namespace Go.Proofs.YtidkamnciomnmaaDoor
open Go.RowKit Go.Maps Go.Lib Go.Sort

/-- what is in a purse, by its name -/
def amt (m : Bk.M) (x : P2) : Nat := Bk.get m (x.1.data.toList, x.2.data.toList)
def encQ (m : Bk.M) (x : P2) : List Value := [.string x.1, .string x.2, .int .u64 (amt m x)]
def encK (m : Bk.M) (x : Pk) : List Value := encQ m x.1
def keyK (x : Pk) : Bk.Key := (x.1.1.data.toList, x.1.2.data.toList)
def entK (m : Bk.M) (x : Pk) : Bk.Key × Nat := (keyK x, amt m x.1)
def encM (p : Bk.Key × Nat) : List Value := [.string ⟨p.1.1.toArray⟩, .string ⟨p.1.2.toArray⟩, .int .u64 p.2]
theorem encM_ent (m : Bk.M) (x : Pk) : encM (entK m x) = encK m x := by simp [encM, entK, encK, encQ, keyK]
theorem keyK_inj {x y : Pk} (h : keyK x = keyK y) : x = y := Subtype.ext (Prod.ext (data_inj (Prod.mk.inj h).1) (data_inj (Prod.mk.inj h).2))
theorem entK_inj {m : Bk.M} {x y : Pk} (h : entK m x = entK m y) : x = y := keyK_inj (Prod.mk.inj h).1

theorem wrong_short {a d : Bk.S} (h : Bk.wrong a d 1 = 0) : a.length ≤ maxLen ∧ d.length ≤ maxLen := by
  unfold Bk.wrong at h
  simp only [maxLen]
  split at h
  · cases h
  · split at h
    · cases h
    · omega
theorem beq_toList (x y : ByteArray) : (x.toList == y.toList) = decide (x.data.toList = y.data.toList) := by
  rw [Lib.toList_data, Lib.toList_data]
  by_cases e : x.data.toList = y.data.toList
  · rw [e]; simp
  · rw [decide_eq_false e]; exact beq_eq_false_iff_ne.2 e
theorem cmpS_eq_ (x y : ByteArray) : cmpS x y = if x.data.toList < y.data.toList then -1 else if x.data.toList = y.data.toList then 0 else 1 := by
  unfold cmpS
  rw [Proofs.bytesLess_eq, beq_toList, Lib.toList_data, Lib.toList_data]
  simp only [decide_eq_true_eq]
theorem cmpS_lt (x y : ByteArray) : cmpS x y < 0 ↔ x.data.toList < y.data.toList := by
  rw [cmpS_eq_]
  split
  · simp [*]
  · split <;> simp [*]
theorem cmpS_eq (x y : ByteArray) : cmpS x y = 0 ↔ x.data.toList = y.data.toList := by
  rw [cmpS_eq_]
  split
  · rename_i h
    constructor
    · intro e; cases e
    · intro e; rw [e] at h; exact absurd h (Bk.slt_irrefl _)
  · split <;> simp only [*, iff_true, iff_false] <;> decide

def cfK (x y : Pk) : Int := cmpC (x.1.1, x.1.2, 0) (y.1.1, y.1.2, 0)
theorem ltK (x y : Pk) : ltOf cfK x y = Bk.klt (keyK x) (keyK y) := by
  unfold ltOf cfK cmpC Bk.klt keyK
  simp only
  by_cases h : cmpS x.1.1 y.1.1 = 0
  · have e := (cmpS_eq _ _).1 h
    rw [if_pos h]
    have h2 := cmpS_lt x.1.2 y.1.2
    have h3 : ¬ x.1.1.data.toList < y.1.1.data.toList := by rw [e]; exact Bk.slt_irrefl _
    simp [h3, e, h2]
    intro h4; rw [e] at h3; exact absurd h4 h3
  · have e : ¬ x.1.1.data.toList = y.1.1.data.toList := fun e => h ((cmpS_eq _ _).2 e)
    rw [if_neg h]
    have h2 := cmpS_lt x.1.1 y.1.1
    simp [e, h2]
theorem swoK : SWO (ltOf cfK) where
  irrefl x := by rw [ltK]; exact Bk.klt_irrefl _
  trans x y z h k := by rw [ltK] at *; exact Bk.klt_trans h k
  ntrans x y z h k := by
    rw [ltK] at *
    cases hxz : Bk.klt (keyK x) (keyK z) with
    | false => rfl
    | true =>
      cases hyx : Bk.klt (keyK y) (keyK x) with
      | true => rw [Bk.klt_trans hyx hxz] at k; cases k
      | false => rw [Bk.klt_total h hyx, k] at hxz; cases hxz
theorem totK (x y : Pk) (h : ltOf cfK x y = false) (k : ltOf cfK y x = false) : x = y := by
  rw [ltK] at h k
  exact keyK_inj (Bk.klt_total h k)

/-- the purses that are there, set in order, are the bank's -/
theorem sortedK {D : DataW Unit} {m : Bk.M} (hR : Rep D m) {xs : List Pk} (hnd : xs.Nodup) (hmem : ∀ x : Pk, x ∈ xs ↔ has D (klP x.1) = true) :
    (xs.mergeSort fun x y => !(ltOf cfK) y x).map (entK m) = m := by
  have hOk := hR.1.toOk
  refine Bk.perm_sorted ?_ ?_ hOk.rise
  · refine ((List.mergeSort_perm xs _).map _).trans ?_
    have h1 : (xs.map (entK m)).Nodup := by
      refine List.Pairwise.map _ (fun a b h => ?_) hnd
      exact fun e => h (entK_inj e)
    have h2 : m.Nodup := hOk.rise.imp fun {a b} h e => by rw [e, Bk.klt_irrefl] at h; cases h
    refine (List.perm_ext_iff_of_nodup h1 h2).2 fun p => ?_
    obtain ⟨k, c⟩ := p
    rw [Bk.mem_iff hOk]
    constructor
    · intro h
      obtain ⟨x, hx, e⟩ := List.mem_map.1 h
      have h3 := (hmem x).1 hx
      have h4 := (hR.2 x.1.1 x.1.2 x.2.1 x.2.2).2
      unfold klP at h3
      rw [h3] at h4
      have h5 : Bk.get m (keyK x) ≠ 0 := by simpa [keyK] using h4.symm
      obtain ⟨e1, e2⟩ := Prod.mk.inj e
      subst e1 e2
      exact ⟨h5, rfl⟩
    · rintro ⟨h0, e⟩
      obtain ⟨hl1, hl2⟩ := wrong_short (hR.1.get_name (a := k.1) (d := k.2) (by rw [e]; exact h0))
      have hok : P2.ok (⟨k.1.toArray⟩, ⟨k.2.toArray⟩) := ⟨by show Array.size _ ≤ _; simpa using hl1, by show Array.size _ ≤ _; simpa using hl2⟩
      refine List.mem_map.2 ⟨⟨_, hok⟩, (hmem _).2 ?_, ?_⟩
      · have h4 := (hR.2 ⟨k.1.toArray⟩ ⟨k.2.toArray⟩ hok.1 hok.2).2
        unfold klP
        rw [h4]
        simpa [e] using h0
      · simp [entK, keyK, amt, e]
  · refine List.Pairwise.map (R := fun x y => ltOf cfK y x = false ∧ x ≠ y) _ (fun a b h => ?_) ?_
    · show Bk.klt (keyK a) (keyK b) = true
      have h1 := h.1
      rw [ltK] at h1
      cases h2 : Bk.klt (keyK a) (keyK b) with
      | true => rfl
      | false => exact absurd (keyK_inj (Bk.klt_total h2 h1)) h.2
    · refine List.Pairwise.and ?_ ((List.mergeSort_perm xs _).nodup_iff.2 hnd)
      have h1 := List.pairwise_mergeSort (le := fun x y => !(ltOf cfK) y x) (fun a b c h k => by
        simp only [Bool.not_eq_true'] at *
        exact swoK.ntrans c b a k h) (fun a b => by
        cases h : ltOf cfK b a with
        | false => simp [h]
        | true =>
          have : ltOf cfK a b = false := by
            rw [ltK] at h ⊢
            exact Bk.klt_asymm h
          simp [this]) xs
      exact h1.imp fun {a b} h => by simpa using h

/-! ### a row of elements of k cells each -/
theorem flat_get {α : Type} [Inhabited α] (enc : α → List Value) (k : Nat) (hk : ∀ x, (enc x).length = k) (k0 : 0 < k) : ∀ (l : List α) (t : Nat), t < l.length * k → (l.flatMap enc)[t]? = some ((enc l.toArray[t / k]!)[t % k]!)
  | [], t, h => by simp at h
  | x :: r, t, h => by
    rw [List.flatMap_cons]
    by_cases ht : t < k
    · have h1 : t < (enc x).length := by rw [hk]; exact ht
      rw [List.getElem?_append_left h1, Nat.div_eq_of_lt ht, Nat.mod_eq_of_lt ht]
      simp [h1]
    · have ht' : k ≤ t := by omega
      rw [List.getElem?_append_right (by rw [hk]; exact ht'), hk]
      have h2 : t - k < r.length * k := by simp [Nat.add_mul] at h; omega
      rw [flat_get enc k hk k0 r (t - k) h2]
      have e1 : t / k = (t - k) / k + 1 := by rw [← Nat.sub_add_cancel ht', Nat.add_div_right _ k0, Nat.add_sub_cancel]
      have e2 : t % k = (t - k) % k := by rw [← Nat.sub_add_cancel ht', Nat.add_mod_right, Nat.add_sub_cancel]
      rw [e1, e2]
      simp

theorem holdsK_of_ownsRow {α : Type} [Inhabited α] {enc : α → List Value} {k : Nat} (hk : ∀ x, (enc x).length = k) (k0 : 0 < k) {w : World} {base : Nat} {e : TypeId} {g n cap : Nat} {zs : List α}
    (h : w.ownsRow base e k (.slice (some ⟨g, 0, none⟩) n cap) n (zs.flatMap enc)) (hl : zs.length = n) : HoldsK enc k w g 0 zs.toArray ∧ base ≤ g ∧ g < w.heap.size ∧ w.heap[g]?.isSome = true := by
  rcases h.2 with ⟨e0, _⟩ | ⟨g', cap', cur, e0, hb, hg, hn, hm, hs, ht⟩
  · cases e0
  · injection e0 with e1 _ e3
    injection e1 with e1
    injection e1 with e1
    subst e1; subst e3
    have hlt : g < w.heap.size := (Array.getElem?_eq_some_iff.1 hg).1
    refine ⟨fun t ht' => ?_, hb, hlt, by rw [hg]; rfl⟩
    have ht2 : t < zs.length * k := by simpa using ht'
    refine ⟨?_, by simp [World.frozen?, hg]⟩
    have e1 : (cur.toList.take (n * k))[t]? = (zs.flatMap enc)[t]? := by rw [ht]
    rw [List.getElem?_take, if_pos (by rw [← hl]; exact ht2), Array.getElem?_toList, flat_get enc k hk k0 zs t ht2] at e1
    simp only [World.cell?, hg, Nat.zero_add]
    simp only [Option.isSome_none, Bool.false_eq_true, if_false]
    rw [e1, get_flatK _ _ _ _ (by simpa using ht2)]
    rfl

theorem grown_sortK {α : Type} [Inhabited α] {enc : α → List Value} {k : Nat} {w : World} {g n : Nat} {os : Array Obj} (d : Array α) : w.grownBy (sortWorldK enc k w g 0 n d os) (some g) := by
  unfold sortWorldK putRowK
  refine ⟨rfl, rfl, rfl, by simp, fun k hk hne => ?_⟩
  rw [heap_grow_old _ _ (by simpa using hk)]
  have : g ≠ k := fun e => hne (by rw [e])
  simp [putRow, mapBlock, Sort.ahead, Array.getElem?_modify, this]

/-- a slice of coins: they are these -/
def CoinsAt (w : World) (base : Nat) (v : Value) (l : Bk.M) : Prop :=
  (l = [] ∧ v = .slice none 0 0) ∨ ∃ g cap, l ≠ [] ∧ base ≤ g ∧ g < w.heap.size ∧ v = .slice (some ⟨g, 0, none⟩) l.length cap ∧
    ∀ (i : Nat) (h : i < l.length) (c : Nat), c < 3 → w.cell? ⟨g, i * 3 + c, none⟩ = (encM l[i])[c]?

theorem CoinsAt.grown {w w' : World} {base : Nat} {v : Value} {l : Bk.M} {row : Option Nat} (h : CoinsAt w base v l) (hg : w.grownBy w' row) (hr : ∀ j, row = some j → v.ownBlock ≠ some j) : CoinsAt w' base v l := by
  rcases h with h | ⟨g, cap, h1, h2, h3, h4, h5⟩
  · exact .inl h
  · subst h4
    have hb := hg.block g h3 (fun e => hr g e.symm rfl)
    refine .inr ⟨g, cap, h1, h2, Nat.lt_of_lt_of_le h3 hg.size, rfl, fun i hi c hc => ?_⟩
    rw [← h5 i hi c hc]
    simp only [World.cell?, hb]
instance : Inhabited Pk := ⟨⟨(⟨#[]⟩, ⟨#[]⟩), Nat.zero_le _, Nat.zero_le _⟩⟩
theorem coins_of_holds {m : Bk.M} {w : World} {base g cap : Nat} {zs : List Pk} (hz : zs.map (entK m) = m) (h : HoldsK (encK m) 3 w g 0 zs.toArray) (hb : base ≤ g) (hlt : g < w.heap.size) (hne : zs ≠ []) :
    CoinsAt w base (.slice (some ⟨g, 0, none⟩) zs.length cap) m := by
  have hl : zs.length = m.length := by rw [← hz]; simp
  refine .inr ⟨g, cap, fun e => hne ?_, hb, hlt, by rw [hl], fun i hi c hc => ?_⟩
  · rw [e] at hz; simpa using hz
  · have hi' : i < zs.length := by omega
    have h1 := (h.cell (i := i) (c := c) (by simpa using hi') hc).1
    rw [Nat.zero_add] at h1
    rw [h1]
    have e1 : m[i] = entK m zs[i] := by
      have : (zs.map (entK m))[i]? = m[i]? := by rw [hz]
      rw [List.getElem?_map, List.getElem?_eq_getElem hi', List.getElem?_eq_getElem hi] at this
      simpa using this.symm
    rw [e1, encM_ent]
    have : (encK m zs[i]).length = 3 := rfl
    simp [hi', List.getElem?_eq_getElem, this, hc]
end Go.Proofs.YtidkamnciomnmaaDoor
