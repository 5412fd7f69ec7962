/- upTo: what stands ahead of the next key, and what stands behind. -/
import Derived.Test.YtimcjkkbooinbaaGe
namespace Go.Proofs.Ytimcjkkbooinbaa
open Go.RowKit Go.Shelf

theorem index_key (a : Option Addr) (cap : Nat) (l : List ByteArray) (w : World) (hl : l.length ≤ 1000000) (h : StrsAt w a l) :
    Calls Try.prog 41 #[.slice a l.length cap, .func (.func 42) #[] #[]] w fun e w' =>
      e = .returned (.int .i64 (if (l.takeWhile noKey).length < l.length then ((l.takeWhile noKey).length : Int) else -1)) ∧ ∃ q, w' = w.drewN q := by
  by_cases hx : l = []
  · subst hx
    refine (Try.slices_IndexFunc_empty (α := ByteArray) a cap _ w).mono ?_
    rintro e w' ⟨rfl, rfl⟩
    exact ⟨rfl, 0, rfl⟩
  · obtain ⟨b, off, rfl, hb, hc⟩ := h.some hx
    have eg : ∀ args w, (callFunc 42 args).run Try.prog w = .ok (.enter 42 args) w := enters_of Try.func42 (by kernel_rfl) rfl
    have hp : PredAt Try.prog 42 #[] Value.string (fun s : ByteArray => s.size == 2) w := fun W x _ => (isKey_any x W).mono fun e w' h => ⟨h.1, 0, h.2⟩
    refine (Try.slices_IndexFunc Value.string (fun s : ByteArray => s.size == 2) 42 #[] eg b off l.length cap l w hp (Nat.le_refl _) (by omega) (fun j hj => by rw [hc j hj]; simp [hj])).mono ?_
    rintro e w' ⟨rfl, hw⟩
    refine ⟨?_, hw⟩
    rw [List.take_length]
    unfold Lib.idxBy
    rw [idx_tw]
    simp only [Nat.zero_add]
    rfl

set_option maxHeartbeats 1000000 in
theorem upTo_any (a : Option Addr) (cap : Nat) (l : List ByteArray) (w : World) (hl : l.length ≤ 1000000) (hcap : l.length ≤ cap) (h : StrsAt w a l) :
    Calls Try.prog 24 #[.slice a l.length cap] w fun e w' => ∃ a2 c2, e = .returned (.tuple #[.slice a (l.takeWhile noKey).length (l.takeWhile noKey).length, .slice a2 (l.dropWhile noKey).length c2]) ∧
      (∀ W, StrsAt W a l → StrsAt W a (l.takeWhile noKey)) ∧ (∀ W, StrsAt W a l → StrsAt W a2 (l.dropWhile noKey)) ∧ (l.dropWhile noKey).length ≤ c2 ∧ ∃ q, w' = w.drewN q := by
  have HI := Lib.hid (index_key a cap l w hl h)
  have hle : (l.takeWhile noKey).length ≤ l.length := (List.takeWhile_sublist _).length_le
  have htd : l.takeWhile noKey = l.take (l.takeWhile noKey).length ∧ l.dropWhile noKey = l.drop (l.takeWhile noKey).length := by
    have e := List.takeWhile_append_dropWhile (p := noKey) (l := l)
    generalize l.takeWhile noKey = x at *
    generalize l.dropWhile noKey = y at *
    subst e
    simp
  obtain ⟨n, hn⟩ : ∃ n, (l.takeWhile noKey).length = n := ⟨_, rfl⟩
  rw [hn] at htd hle HI
  have hdl : (l.dropWhile noKey).length = l.length - n := by rw [htd.2, List.length_drop]
  have HTD := Lib.hid htd
  have HN := Lib.hid hn
  have HDL := Lib.hid hdl
  have hfin : ∀ a2 c2 q, ((cap = n ∧ a2 = a) ∨ (n < cap ∧ a2 = a.map (·.add n))) → c2 = cap - n → ∃ a2' c2', Ending.returned (.tuple #[.slice a n n, .slice a2 (l.length - n) c2]) = .returned (.tuple #[.slice a (l.takeWhile noKey).length (l.takeWhile noKey).length, .slice a2' (l.dropWhile noKey).length c2']) ∧
      (∀ W, StrsAt W a l → StrsAt W a (l.takeWhile noKey)) ∧ (∀ W, StrsAt W a l → StrsAt W a2' (l.dropWhile noKey)) ∧ (l.dropWhile noKey).length ≤ c2' ∧ ∃ q', w.drewN q = w.drewN q' := by
    intro a2 c2 q ha hc2
    subst hc2
    refine ⟨a2, cap - n, by rw [HN.out, HDL.out], ?_, ?_, by rw [HDL.out]; omega, q, rfl⟩
    · intro W hW; rw [HTD.out.1]; exact hW.take n
    · intro W hW
      rw [HTD.out.2]
      intro i hi
      rw [List.length_drop] at hi
      obtain ⟨b, off, e1, e2⟩ := hW (n + i) (by omega)
      rcases ha with ⟨h1, rfl⟩ | ⟨h1, rfl⟩
      · exact absurd hi (by omega)
      · exact ⟨b, off + n, by rw [e1, Option.map_some, add_plain], by rw [List.getElem_drop, Nat.add_assoc]; exact e2⟩
  have HF := Lib.hid hfin
  clear hn htd hdl h hfin
  go_enter Try.func24, Try.ntmps24
  go_wp2_with fail
  refine HI.out.mono ?_
  rintro e w' ⟨rfl, q, rfl⟩
  clear HI
  generalize hW : w.drewN q = W
  have HW := Lib.hid hW
  clear hW
  rcases Nat.lt_or_ge n l.length with hlt | hge
  · rw [if_pos hlt]
    have hnn : n ≤ cap := by omega
    rcases Nat.lt_or_ge n cap with hc | hc
    · have hne : ¬ cap = n := by omega
      go_wp2_with fail
      go_quiet (fail)
      go_wp2_with fail
      go_ret2
      rw [← HW.out, World.drewN_drewN]
      exact HF.out _ _ _ (.inr ⟨hc, rfl⟩) rfl
    · obtain rfl : cap = n := by omega
      exact absurd hlt (by omega)
  · rw [if_neg (by omega)]
    obtain rfl : n = l.length := by omega
    rcases Nat.lt_or_ge l.length cap with hc | hc
    · have hne : ¬ cap = l.length := by omega
      go_wp2_with fail
      go_quiet (fail)
      go_wp2_with fail
      go_ret2
      rw [← HW.out, World.drewN_drewN]
      have hf := HF.out (a.map (·.add l.length)) (cap - l.length) (q + nq) (.inr ⟨hc, rfl⟩) rfl
      simpa using hf
    · obtain rfl : cap = l.length := by omega
      go_wp2_with fail
      go_quiet (fail)
      go_wp2_with fail
      go_ret2
      rw [← HW.out, World.drewN_drewN]
      have hf := HF.out a (l.length - l.length) (q + nq) (by simp) (by simp)
      simpa using hf

end Go.Proofs.Ytimcjkkbooinbaa
