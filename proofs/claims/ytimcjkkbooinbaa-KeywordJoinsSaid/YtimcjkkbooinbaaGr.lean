/- Plain laws of reading and writing. -/
import Derived.Test.YtimcjkkbooinbaaGq
namespace Go.Proofs.Ytimcjkkbooinbaa
open Go.RowKit Go.Shelf

theorem exts_nil : exts [] = [] := rfl

/-- By length. -/
theorem exts_ind {P : List ByteArray → Prop} (h0 : P []) (h1 : ∀ k l, P (l.dropWhile noKey) → P (k :: l)) : ∀ l, P l := by
  have H : ∀ n (l : List ByteArray), l.length ≤ n → P l := by
    intro n
    induction n with
    | zero => intro l hl; obtain rfl := List.length_eq_zero_iff.1 (Nat.le_zero.1 hl); exact h0
    | succ n ih =>
      intro l hl
      cases l with
      | nil => exact h0
      | cons k l => exact h1 k l (ih _ (Nat.le_trans (drop_len l) (by simpa using hl)))
  exact fun l => H l.length l (Nat.le_refl _)

theorem exts_flat (l : List ByteArray) : ((exts l).flatMap fun e => e.1 :: e.2) = l := by
  refine exts_ind (P := fun l => ((exts l).flatMap fun e => e.1 :: e.2) = l) rfl (fun k l ih => ?_) l
  show ((exts (k :: l)).flatMap fun e => e.1 :: e.2) = k :: l
  rw [exts_cons, List.flatMap_cons, ih]
  show k :: (l.takeWhile noKey ++ l.dropWhile noKey) = k :: l
  rw [List.takeWhile_append_dropWhile]

theorem exts_small (l : List ByteArray) : (exts l).length ≤ l.length ∧ ∀ e ∈ exts l, e.1 ∈ l ∧ e.2.length ≤ l.length := by
  refine exts_ind (P := fun l => (exts l).length ≤ l.length ∧ ∀ e ∈ exts l, e.1 ∈ l ∧ e.2.length ≤ l.length) ⟨Nat.le_refl _, fun e he => by cases he⟩ (fun k l ih => ?_) l
  have hd := drop_len l
  have ht : (l.takeWhile noKey).length ≤ l.length := (List.takeWhile_sublist _).length_le
  rw [exts_cons]
  refine ⟨by simp only [List.length_cons]; omega, fun e he => ?_⟩
  rcases List.mem_cons.1 he with rfl | he
  · exact ⟨List.mem_cons_self, by simp only [List.length_cons]; omega⟩
  · obtain ⟨h1, h2⟩ := ih.2 e he
    exact ⟨List.mem_cons_of_mem _ ((List.dropWhile_sublist _).subset h1), by simp only [List.length_cons]; omega⟩

theorem writeL_read (l : List ByteArray) : writeL (readA l) (readE l) = l.map lowB := by
  unfold writeL readA readE
  rw [exts_flat, List.takeWhile_append_dropWhile]

theorem lowC_lowC (c : UInt8) : lowC (lowC c) = lowC c := by
  by_cases h : 65 ≤ c.toNat ∧ c.toNat ≤ 90
  · have e := lowC_yes h.1 h.2
    generalize hd : lowC c = d at e
    unfold lowC
    rw [if_neg (by omega)]
  · have e : lowC c = c := by unfold lowC; rw [if_neg h]
    rw [e, e]

theorem lowB_lowB (s : ByteArray) : lowB (lowB s) = lowB s := by
  unfold lowB
  simp only [List.map_map]
  congr 2
  exact List.map_congr_left fun c _ => lowC_lowC c

theorem map_low (l : List ByteArray) : (l.map lowB).map lowB = l.map lowB := by
  rw [List.map_map]; exact List.map_congr_left fun s _ => lowB_lowB s

theorem lowB_size (s : ByteArray) : (lowB s).size = s.size := by
  show (lowB s).data.size = s.data.size
  unfold lowB; simp

theorem readA_low (l : List ByteArray) : readA (l.map lowB) = readA l := by unfold readA; rw [map_low]
theorem readE_low (l : List ByteArray) : readE (l.map lowB) = readE l := by unfold readE; rw [map_low]

theorem readA_len (l : List ByteArray) : (readA l).length ≤ l.length := by
  have : (readA l).length ≤ (l.map lowB).length := (List.takeWhile_sublist _).length_le
  simpa using this

/-- How much has been read, at most. -/
theorem read_small {l : List ByteArray} {xs : List XE} (n m : Nat) (hx : xs.map XE.val = readE l) (hl : l.length ≤ n) (hz : ∀ s ∈ l, s.size ≤ m) : xs.length ≤ n ∧ ∀ x ∈ xs, x.key.size ≤ m ∧ x.subs.length ≤ n := by
  have hd : ((l.map lowB).dropWhile noKey).length ≤ l.length := Nat.le_trans (drop_len _) (by simp)
  obtain ⟨h1, h2⟩ := exts_small ((l.map lowB).dropWhile noKey)
  constructor
  · have := congrArg List.length hx
    rw [List.length_map] at this
    unfold readE at this
    omega
  · intro x hm
    have h := List.mem_map_of_mem (f := XE.val) hm
    rw [hx] at h
    obtain ⟨h3, h4⟩ := h2 _ h
    refine ⟨?_, Nat.le_trans h4 (by omega)⟩
    obtain ⟨s, hs, e⟩ := List.mem_map.1 ((List.dropWhile_sublist _).subset h3)
    have : x.key.size = s.size := by rw [← lowB_size s, e]; rfl
    rw [this]; exact hz s hs

theorem few_small (l : List ByteArray) (m : Nat) : (fewL (l.take m)).length ≤ m ∧ ∀ x ∈ fewL (l.take m), x.size ≤ 9 := by
  refine ⟨by simp [fewL]; omega, fun x hx => ?_⟩
  obtain ⟨y, _, rfl⟩ := List.mem_map.1 hx
  simp [ByteArray.size_extract]
  omega

end Go.Proofs.Ytimcjkkbooinbaa
