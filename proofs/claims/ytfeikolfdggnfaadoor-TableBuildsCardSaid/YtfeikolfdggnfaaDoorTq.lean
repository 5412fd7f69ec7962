/- A region that draws its order of evaluation, quiet but for the operation that comes last in every order (a store). -/
import Derived.Test.YtfeikolfdggnfaaDoorTr
namespace Go.Proofs.YtfeikolfdggnfaaDoor
open Go.RowKit

section
variable {F : Fence} {n : Nat} {P : Program} {Q : Exit → Act → World → Prop} {C : World → Prop} {md : Region.Mode}

/-- The operation, emptied. -/
def nopOf (o : Oper) : Oper := { o with op := .move (.const (.bool false)) }

/-- The list, its last operation emptied. -/
def nopLast : List Oper → List Oper
  | [] => []
  | [o] => [nopOf o]
  | o :: p :: l => o :: nopLast (p :: l)

def lastIs (R : Oper → Prop) : List Oper → Prop
  | [] => True
  | [o] => R o
  | _ :: p :: l => lastIs R (p :: l)

theorem nopLast_snoc (o : Oper) : ∀ l : List Oper, nopLast (l ++ [o]) = l ++ [nopOf o]
  | [] => rfl
  | [_] => rfl
  | p :: q :: l => by show p :: nopLast (q :: l ++ [o]) = _; rw [nopLast_snoc o (q :: l)]; rfl

theorem lastIs_snoc (R : Oper → Prop) (o : Oper) : ∀ l : List Oper, lastIs R (l ++ [o]) = R o
  | [] => rfl
  | [_] => rfl
  | p :: q :: l => by show lastIs R (q :: l ++ [o]) = _; rw [lastIs_snoc R o (q :: l)]

/-- Each waits for earlier ones only; the last one waits for all. -/
def depsB (md : Region.Mode) (all : List Oper) : Bool :=
  ((List.range all.length).all fun k => match all[k]? with
    | some o => o.after.all fun e => !Region.binds md e || decide (e.on < k)
    | none => true) &&
  match all.getLast? with
  | some o => o.dst.isNone && o.guard.isNone && (List.range (all.length - 1)).all fun j => o.after.any fun e => Region.binds md e && e.on == j
  | none => false

variable {l : List Oper} {o : Oper}

theorem snoc_other {i : Nat} (o o' : Oper) (h : i ≠ l.length) : (l ++ [o]).toArray[i]? = (l ++ [o']).toArray[i]? := by
  simp only [List.getElem?_toArray, List.getElem?_append]
  split
  · rfl
  · obtain ⟨k, hk⟩ : ∃ k, i - l.length = k + 1 := ⟨i - l.length - 1, by omega⟩
    rw [hk]; rfl

theorem snoc_last (o : Oper) : (l ++ [o]).toArray[l.length]? = some o := by simp

theorem ready_nop (listed : Array Bool) : Region.ready md (l ++ [o]).toArray listed = Region.ready md (l ++ [nopOf o]).toArray listed := by
  unfold Region.ready
  have hs : (l ++ [o]).toArray.size = (l ++ [nopOf o]).toArray.size := by simp
  rw [hs]
  apply List.filter_congr
  intro i _
  by_cases hi : i = l.length
  · subst hi; rw [snoc_last, snoc_last]; rfl
  · rw [snoc_other o (nopOf o) hi]

theorem yielded_nop (hd : o.dst = none) (tmps : Array Value) : yielded (l ++ [o]).toArray tmps = yielded (l ++ [nopOf o]).toArray tmps := by
  funext j
  unfold yielded
  by_cases hi : j = l.length
  · subst hi; rw [snoc_last, snoc_last]; rfl
  · rw [snoc_other o (nopOf o) hi]

theorem ready_all {listed : Array Bool} (hz : ∀ i, i < (l ++ [o]).length → listed.getD i true = true) : Region.ready md (l ++ [o]).toArray listed = [] := by
  rw [List.eq_nil_iff_forall_not_mem]
  intro j hj
  obtain ⟨h1, p, hp, -⟩ := mem_ready.1 hj
  have hlt : j < (l ++ [o]).length := by
    rw [List.getElem?_toArray] at hp
    exact (List.getElem?_eq_some_iff.1 hp).1
  rw [hz j hlt] at h1
  cases h1

/-- As long as one has not come up, one may come up. -/
theorem ready_some {listed : Array Bool} (hsz : listed.size = (l ++ [o]).length) (hdep : ∀ (k : Nat) (p : Oper), (l ++ [o])[k]? = some p → ∀ e ∈ p.after, Region.binds md e = true → e.on < k)
    : ∀ (k : Nat), k < (l ++ [o]).length → listed.getD k true = false → Region.ready md (l ++ [o]).toArray listed ≠ [] := by
  intro k
  induction k using Nat.strongRecOn with
  | _ k ih =>
    intro hk hun hnil
    have hp : (l ++ [o])[k]? = some ((l ++ [o])[k]) := List.getElem?_eq_getElem hk
    have hm : k ∈ Region.ready md (l ++ [o]).toArray listed := by
      refine mem_ready.2 ⟨hun, _, by rw [List.getElem?_toArray]; exact hp, fun e he hb => ?_⟩
      have hlt := hdep k _ hp e he hb
      have hl : e.on < listed.size := by omega
      cases hv : listed.getD e.on true with
      | false => exact absurd hnil (ih e.on hlt (by omega) hv)
      | true => simp [Array.getD, hl] at hv ⊢; exact hv
    rw [hnil] at hm
    cases hm

theorem last_of_quiet (hro : F.round = none) (hd : o.dst = none) (hg : o.guard = none) (hdep : ∀ (k : Nat) (p : Oper), (l ++ [o])[k]? = some p → ∀ e ∈ p.after, Region.binds md e = true → e.on < k)
    (hlast : ∀ j, j < l.length → ∃ e ∈ o.after, Region.binds md e = true ∧ e.on = j) : ∀ (fuel : Nat) (listed : Array Bool) (a : Act) (w : World), C w → listed.size = (l ++ [o]).length → listed.getD l.length true = false →
    wpAnyQIn F n P md (l ++ [nopOf o]).toArray C (fun a' => ∀ w', C w' → ∀ K : Act → World → Prop, (∀ a w, Q .normal a w → K a w) → o.wpIn F n P a' w' K Q) fuel listed a → wpAnyIn F n P md (l ++ [o]).toArray Q fuel listed a w
  | 0, listed, a, w, hC, hsz, hun, h => by
    exact absurd ((ready_nop listed).trans h.1) (ready_some hsz hdep l.length (by simp) hun)
  | fuel + 1, listed, a, w, hC, hsz, hun, h => by
    refine ⟨fun h0 => absurd h0 (ready_some hsz hdep l.length (by simp) hun), fun i hi => ?_⟩
    have hi' := hi
    rw [ready_nop] at hi'
    have h1 := h.2 i hi'
    by_cases hil : i = l.length
    · subst hil
      have hall : ∀ i, i < (l ++ [o]).length → (listed.setIfInBounds l.length true).getD i true = true := by
        intro i hlt
        by_cases hil : i = l.length
        · subst hil; simp [Array.getD]
        · obtain ⟨e, he, hb, hon⟩ := hlast i (by simp at hlt; omega)
          obtain ⟨-, p, hp, hpall⟩ := mem_ready.1 hi
          rw [snoc_last] at hp
          cases hp
          have := hpall e he hb
          rw [hon] at this
          have hlt' : i < listed.size := by omega
          rw [getD_set_ne true (fun hc => hil hc.symm)]
          simp [Array.getD, hlt'] at this ⊢; exact this
      have hrn := ready_all (md := md) hall
      have hrn' := (ready_nop (md := md) (l := l) (o := o) _).symm.trans hrn
      unfold qOpIn at h1
      rw [snoc_last] at h1
      obtain ⟨-, h1⟩ := h1
      rw [if_pos (by simp [Region.wanted, nopOf, hg])] at h1
      obtain ⟨v, -, h1⟩ := h1
      have hput : a.put (nopOf o).dst v = a := by simp [nopOf, hd, Act.put]
      rw [hput] at h1
      have hq := (by
        cases fuel with
        | zero => exact h1.2
        | succ f => exact h1.1 hrn' : ∀ w', C w' → ∀ K : Act → World → Prop, (∀ a w, Q .normal a w → K a w) → o.wpIn F n P a w' K Q)
      unfold wpOpIn
      rw [snoc_last]
      simp only []
      rw [if_pos (by simp [Region.wanted, hg])]
      refine hq w hC _ (fun a' w' hn => ?_)
      cases fuel with
      | zero => exact ⟨hrn, hn⟩
      | succ f => exact ⟨fun _ => hn, fun j hj => by rw [hrn] at hj; cases hj⟩
    · have h2 : qOpIn F n P (l ++ [o]).toArray C i (wpAnyQIn F n P md (l ++ [nopOf o]).toArray C (fun a' => ∀ w', C w' → ∀ K : Act → World → Prop, (∀ a w, Q .normal a w → K a w) → o.wpIn F n P a' w' K Q) fuel (listed.setIfInBounds i true)) a := by
        unfold qOpIn at *
        rw [snoc_other o (nopOf o) hil]
        split
        · rename_i h0; simp only [h0] at h1; exact h1
        · rename_i p h0; simp only [h0] at h1; rw [yielded_nop hd]; exact h1
      exact wpOpIn_of_qOpIn hro hC (fun a' w' hw' hh => last_of_quiet hro hd hg hdep hlast fuel _ a' w' hw' (by simpa using hsz) (by rw [getD_set_ne true hil]; exact hun) hh) h2

theorem depsB_spec {md : Region.Mode} (h : depsB md (l ++ [o]) = true) : o.dst = none ∧ o.guard = none ∧ (∀ (k : Nat) (p : Oper), (l ++ [o])[k]? = some p → ∀ e ∈ p.after, Region.binds md e = true → e.on < k) ∧
    (∀ j, j < l.length → ∃ e ∈ o.after, Region.binds md e = true ∧ e.on = j) := by
  unfold depsB at h
  rw [Bool.and_eq_true, List.getLast?_concat] at h
  obtain ⟨h1, h2⟩ := h
  simp only [Bool.and_eq_true, Option.isNone_iff_eq_none, List.all_eq_true, List.mem_range, Array.any_eq_true, List.length_append, List.length_singleton, Nat.add_sub_cancel, beq_iff_eq] at h2
  refine ⟨h2.1.1, h2.1.2, fun k p hp e he hb => ?_, fun j hj => ?_⟩
  · rw [List.all_eq_true] at h1
    have h3 := h1 k (List.mem_range.2 (List.getElem?_eq_some_iff.1 hp).1)
    rw [hp] at h3
    simp only [] at h3
    rw [Array.all_eq_true'] at h3
    have h4 := h3 e he
    rw [hb] at h4
    simpa using h4
  · obtain ⟨i, hi, hb, hon⟩ := h2.2 j hj
    exact ⟨_, Array.getElem_mem hi, hb, hon⟩

/-- What is asked of such a region. -/
theorem anyIn_quiet_last {a : Act} {w : World} (hro : F.round = none) (hB : Region.lexB md (l ++ [nopOf o]).toArray = true) (hD : depsB md (l ++ [o]) = true) (hC : C w)
    (h : wpQuietIn F n P (l ++ [nopOf o]).toArray C (fun a' => ∀ w', C w' → ∀ K : Act → World → Prop, (∀ a w, Q .normal a w → K a w) → o.wpIn F n P a' w' K Q) l a) :
    wpAnyIn F n P md (l ++ [o]).toArray Q (l ++ [o]).toArray.size (Array.replicate (l ++ [o]).toArray.size false) a w := by
  simp only [Region.lexB, Bool.and_eq_true] at hB
  obtain ⟨hd, hg, hdep, hlast⟩ := depsB_spec hD
  have hz : (l ++ [o]).toArray.size = (l ++ [nopOf o]).length := by simp
  refine last_of_quiet hro hd hg hdep hlast _ _ _ _ hC (by simp) (by simp [Array.getD]) ?_
  rw [hz]
  refine wpAnyQIn_lex hB.1 (l ++ [nopOf o]) 0 _ a (by simp) (by simpa using hB.2) ?_
  have hq : ∀ (L : List Oper) (a : Act), wpQuietIn F n P (l ++ [nopOf o]).toArray C (fun a' => ∀ w', C w' → ∀ K : Act → World → Prop, (∀ a w, Q .normal a w → K a w) → o.wpIn F n P a' w' K Q) L a →
      wpQuietIn F n P (l ++ [nopOf o]).toArray C (fun a' => ∀ w', C w' → ∀ K : Act → World → Prop, (∀ a w, Q .normal a w → K a w) → o.wpIn F n P a' w' K Q) (L ++ [nopOf o]) a := by
    intro L
    induction L with
    | nil =>
      intro a h
      refine ⟨fun w' _ f hf => by simp [Oper.about, nopOf] at hf, ?_⟩
      rw [if_pos (by simp [Region.wanted, nopOf, hg])]
      exact ⟨.bool false, fun w' hw' => ⟨rfl, rfl⟩, by rw [show a.put (nopOf o).dst (.bool false) = a by simp [nopOf, hd, Act.put]]; exact h⟩
    | cons p L ih =>
      intro a h
      refine ⟨h.1, ?_⟩
      have h2 := h.2
      split
      · rename_i hw; rw [if_pos hw] at h2; exact Oper.quietIn_mono (fun a ha => ih a ha) h2
      · rename_i hw; rw [if_neg hw] at h2; exact ih _ h2
  exact hq l a h

theorem snoc_of {all : List Oper} (h : depsB md all = true) : ∃ l o, all = l ++ [o] := by
  rcases List.eq_nil_or_concat all with rfl | ⟨l, o, rfl⟩
  · cases h
  · exact ⟨l, o, by simp⟩

/-- The law. -/
theorem wpIn_region_last {id : Nat} {a : Act} {w : World} {all : List Oper} (hro : F.round = none) (hm : P.follows .mixedOrders = true) (hB : Region.lexB .any (nopLast all).toArray = true) (hD : depsB .any all = true)
    (h : wpQuietIn F n P (nopLast all).toArray (fun w' => ∃ n, w' = w.drewN n) (fun a' => ∀ w', (∃ n, w' = w.drewN n) → lastIs (fun o => ∀ K : Act → World → Prop, (∀ a w, Q .normal a w → K a w) → o.wpIn F n P a' w' K Q) all) all.dropLast a) :
    (Code.region id all.toArray true).wpIn F n P Q a w := by
  obtain ⟨l, o, rfl⟩ := snoc_of hD
  rw [nopLast_snoc] at hB h
  simp only [lastIs_snoc, List.dropLast_concat] at h
  exact wpIn_region_any hm (anyIn_quiet_last hro hB hD ⟨1, rfl⟩ h)

/-- The same in a round. -/
theorem wpIn_round_last {id : Nat} {a : Act} {w : World} {all : List Oper} {r : Nat} (hm : P.follows .mixedOrders = true) (hB : Region.lexB .any (nopLast all).toArray = true) (hD : depsB .any all = true) (hnd : noDefer all = true)
    (h : wpQuietIn Fence.wide n P (nopLast all).toArray (fun w' => ∃ n, w' = w.drewN n) (fun a' => ∀ w', (∃ n, w' = w.drewN n) → lastIs (fun o => ∀ K : Act → World → Prop, (∀ a w, Q .normal a w → K a w) → o.wpIn Fence.wide n P a' w' K Q) all) all.dropLast a) :
    (Code.region id all.toArray true).wpIn (Fence.wide.inRound r) n P Q a w := by
  obtain ⟨l, o, rfl⟩ := snoc_of hD
  rw [nopLast_snoc] at hB h
  simp only [lastIs_snoc, List.dropLast_concat] at h
  exact wpIn_region_any hm (wpAnyIn_round r rfl (noDefer_spec hnd) _ _ _ _ (anyIn_quiet_last rfl hB hD ⟨1, rfl⟩ h))
end

end Go.Proofs.YtfeikolfdggnfaaDoor
