/- A set of texts: a map to bools; the first of each key. -/
import Derived.Test.YtimcjkkbooinbaaGj
import Derived.Maps.OwnOps
import Derived.Maps.Views
namespace Go.Proofs.Ytimcjkkbooinbaa
open Go.RowKit Go.Shelf Go.Maps Classical

theorem plainElem_bool_inv {H : Type} {P : Program} {e : TypeId} (he : P.underlying e = some .bool) {v : Value} {z : DataW H × List MemPlace} (h : plainElem P e v = some z) : ∃ a, v = .bool a ∧ z = (.lit (.bool a), []) := by
  unfold plainElem at h
  rw [he] at h
  cases v <;> simp at h
  subst h
  exact ⟨_, rfl, rfl⟩

/-- A look-up, without ok, in a map of bools of the call's own. -/
theorem wpList_lookup_own_bool {H : Type} {P : Program} (w : World) {ops : Array Oper} {rest : List Oper} {o : Oper} {a : Act} {Q : Exit → Act → World → Prop}
    (hg : o.guard = none) (m x : Operand) (t : TypeId) (hop : o.op = Op.lookup t m x false)
    (k e : TypeId) (K : Keyed P k) (ht : P.underlying t = some (.map k e)) (he : P.underlying e = some .bool) (hz : (zeroValue e).run P w = .ok (.bool false) w) (b n : Nat) (D : DataW H)
    (hm : a.eval m = .map (some b)) (hown : w.ownsMap P k (plainElem P e) b n D) (key : Value) (kl : Lit) (hx : a.eval x = key) (hkey : keyOf P k key = some kl)
    (c : Bool) (hat : D.atKey kl (.lit (.bool false)) = .lit (.bool c)) (hK : wpList P ops Q rest (a.put o.dst (.bool c)) w) :
    wpList P ops Q (o :: rest) a w := by
  refine wpList_plain hg fun K' hK' => ?_
  obtain ⟨v, ps, hrun, hv⟩ := hown.lookup K ht hz (plainElem_bool he false) hkey
  obtain ⟨c', rfl, hc⟩ := plainElem_bool_inv he hv
  rw [hat] at hc
  simp only [Prod.mk.injEq] at hc
  have : c' = c := by have := hc.1; cases this; rfl
  subst this
  unfold Oper.wp
  simp [execOp, hop, hm, hx, hrun, Result.andThen]
  exact hK' _ _ hK

def keyLit (s : ByteArray) : Lit := .string s.data.toList
theorem keyLit_inj {s t : ByteArray} (h : keyLit s = keyLit t) : s = t := by
  unfold keyLit at h
  have h2 : s.data.toList = t.data.toList := by cases s; cases t; simpa using h
  have h3 : s.data = t.data := Array.toList_inj.1 h2
  cases s; cases t; simp_all

/-- The texts seen. -/
def seenD (l : List ByteArray) : DataW Unit := (l.map keyLit).foldl (fun m x => m.put x (.lit (.bool true))) (.map [])

theorem seenD_snoc (l : List ByteArray) (s : ByteArray) : seenD (l ++ [s]) = (seenD l).put (keyLit s) (.lit (.bool true)) := by
  unfold seenD; rw [List.map_append, List.foldl_append]; rfl

theorem seen_fold (s : ByteArray) : ∀ (l : List ByteArray) (m : DataW Unit), IsMap m → ((l.map keyLit).foldl (fun m x => m.put x (.lit (.bool true))) m).atKey (keyLit s) (.lit (.bool false)) = if s ∈ l then .lit (.bool true) else m.atKey (keyLit s) (.lit (.bool false))
  | [], m, _ => by simp
  | t :: l, m, hm => by
    rw [List.map_cons, List.foldl_cons, seen_fold s l _ (hm.put _ _)]
    by_cases h : s ∈ l
    · simp [h]
    · rw [if_neg h]
      by_cases e : s = t
      · subst e
        rw [atKey_put_same hm (by unfold keyLit; trivial)]; simp
      · rw [atKey_put_other (fun hh => e (keyLit_inj hh))]; simp [h, e]

theorem seen_at (s : ByteArray) (l : List ByteArray) : (seenD l).atKey (keyLit s) (.lit (.bool false)) = .lit (.bool (decide (s ∈ l))) := by
  unfold seenD
  rw [seen_fold s l _ isMap_empty]
  by_cases h : s ∈ l
  · simp [h]
  · simp only [h, if_false, decide_false]; rfl

theorem seen_yes {s : ByteArray} {l : List ByteArray} (h : s ∈ l) : (seenD l).atKey (keyLit s) (.lit (.bool false)) = .lit (.bool true) := by rw [seen_at, decide_eq_true h]
theorem seen_no {s : ByteArray} {l : List ByteArray} (h : ¬ s ∈ l) : (seenD l).atKey (keyLit s) (.lit (.bool false)) = .lit (.bool false) := by rw [seen_at, decide_eq_false h]

/-- The first of each key. -/
noncomputable def addX (acc : List XE) (x : XE) : List XE := if x.key ∈ acc.map XE.key then acc else acc ++ [x]
noncomputable def firstsX (l : List XE) : List XE := l.foldl addX []

theorem firstsX_snoc (l : List XE) (x : XE) : firstsX (l ++ [x]) = addX (firstsX l) x := by unfold firstsX; rw [List.foldl_append]; rfl

theorem addX_fold (s : ByteArray) : ∀ (l acc : List XE), s ∈ (l.foldl addX acc).map XE.key ↔ s ∈ acc.map XE.key ∨ s ∈ l.map XE.key
  | [], acc => by simp
  | x :: l, acc => by
    rw [List.foldl_cons, addX_fold s l]
    unfold addX
    by_cases h : x.key ∈ acc.map XE.key
    · rw [if_pos h, List.map_cons, List.mem_cons]
      constructor
      · rintro (h1 | h1)
        · exact .inl h1
        · exact .inr (.inr h1)
      · rintro (h1 | rfl | h1)
        · exact .inl h1
        · exact .inl h
        · exact .inr h1
    · rw [if_neg h]
      simp only [List.map_append, List.map_cons, List.map_nil, List.mem_append, List.mem_cons, List.not_mem_nil, or_false]
      rw [or_assoc]

theorem addX_yes {acc : List XE} {x : XE} (h : x.key ∈ acc.map XE.key) : addX acc x = acc := by unfold addX; rw [if_pos h]
theorem addX_no {acc : List XE} {x : XE} (h : ¬ x.key ∈ acc.map XE.key) : addX acc x = acc ++ [x] := by unfold addX; rw [if_neg h]

theorem firstsX_mem (s : ByteArray) (l : List XE) : s ∈ (firstsX l).map XE.key ↔ s ∈ l.map XE.key := by
  unfold firstsX; rw [addX_fold]; simp

theorem firstsX_sub (l : List XE) : ∀ x ∈ firstsX l, x ∈ l := by
  have H : ∀ (l acc : List XE), ∀ x ∈ l.foldl addX acc, x ∈ acc ∨ x ∈ l := by
    intro l
    induction l with
    | nil => intro acc x hx; exact .inl hx
    | cons y l ih =>
      intro acc x hx
      rcases ih _ x hx with h | h
      · unfold addX at h
        split at h
        · exact .inl h
        · rcases List.mem_append.1 h with h | h
          · exact .inl h
          · exact .inr (by rw [List.mem_singleton.1 h]; exact List.mem_cons_self)
      · exact .inr (List.mem_cons_of_mem _ h)
  intro x hx
  rcases H l [] x hx with h | h
  · cases h
  · exact h

theorem firstsX_len (l : List XE) : (firstsX l).length ≤ l.length := by
  have H : ∀ (l acc : List XE), (l.foldl addX acc).length ≤ acc.length + l.length := by
    intro l
    induction l with
    | nil => intro acc; simp
    | cons y l ih =>
      intro acc
      refine Nat.le_trans (ih _) ?_
      unfold addX
      split <;> simp <;> omega
  exact Nat.le_trans (H l []) (by simp)

/-- No key stands twice. -/
def Apart (l : List XE) : Prop := (l.map XE.key).Nodup

theorem firstsX_apart (l : List XE) : Apart (firstsX l) := by
  have H : ∀ (l acc : List XE), Apart acc → Apart (l.foldl addX acc) := by
    intro l
    induction l with
    | nil => intro acc h; exact h
    | cons y l ih =>
      intro acc h
      refine ih _ ?_
      unfold addX
      split
      · exact h
      · rename_i hn
        unfold Apart at *
        rw [List.map_append, List.nodup_append]
        refine ⟨h, by simp, ?_⟩
        intro a ha b hb
        simp only [List.map_cons, List.map_nil, List.mem_singleton] at hb
        subst hb
        exact fun e => hn (e ▸ ha)
  exact H l [] (by simp [Apart])

theorem law9 : Keyed Try.prog 9 := string_keyed Try.underlying9
theorem zero_bool (w : World) : (zeroValue 4).run Try.prog w = .ok (.bool false) w := by kernel_rfl

end Go.Proofs.Ytimcjkkbooinbaa
