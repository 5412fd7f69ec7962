/- The document's Lower and Upper; small; upTo. -/
import Derived.Test.YtimcjkkbooinbaaGc
import Derived.Test.YtimcjkkbooinbaaShelf
import Derived.Laws.BytesArg
namespace Go.Proofs.Ytimcjkkbooinbaa
open Go.RowKit

theorem upperR_any (c : UInt8) (w : World) : Calls Try.prog 53 #[.int .u8 (c.toNat : Int)] w fun e w' => e = .returned (.int .u8 ((uppC c).toNat : Int)) ∧ w' = w := by
  have hc := c.toNat_lt
  have H1 := Lib.hid (@uppC_yes c)
  have H2 := Lib.hid (@uppC_no c)
  generalize uppC c = d at H1 H2 ⊢
  generalize c.toNat = n at hc H1 H2 ⊢
  by_cases h1 : 97 ≤ n
  · by_cases h2 : n ≤ 122
    · have H := Lib.hid (H1.out h1 h2)
      have e1 : (97 : Int) ≤ (n : Int) := by omega
      have e2 : (n : Int) ≤ 122 := by omega
      have HW := Lib.hid (show IntKind.u8.wrap (IntKind.u8.wrap ((n : Int) - 97) + 65) = (n : Int) - 32 by simp [IntKind.wrap, IntKind.bits, IntKind.signed]; omega)
      clear H1 H2
      go_enter Try.func53, Try.ntmps53
      go_wp2
      go_ret
      exact ⟨by rw [H.out, ← HW.out]; first | rfl | (congr 2; simp [IntKind.wrap, IntKind.bits, IntKind.signed]; omega), rfl⟩
    · have H := Lib.hid (H2.out (fun h => h2 h.2))
      have e2 : (122 : Int) < (n : Int) := by omega
      have e1 : (97 : Int) ≤ (n : Int) := by omega
      clear H1 H2
      go_enter Try.func53, Try.ntmps53
      go_wp2
      go_ret
      exact ⟨by rw [H.out]; rfl, rfl⟩
  · have H := Lib.hid (H2.out (fun h => h1 h.1))
    have e1 : (n : Int) < 97 := by omega
    clear H1 H2
    go_enter Try.func53, Try.ntmps53
    go_wp2
    go_ret
    exact ⟨by rw [H.out]; rfl, rfl⟩

/-- Bytes that the call itself has made. -/
def Own8 (w : World) (base : Nat) (v : Value) (l : List UInt8) : Prop := w.ownsRow base 5 1 v l.length (l.map fun c => .int .u8 (c.toNat : Int))

theorem Try.info8 : (Try.prog.info? 5).map (fun i => (i.zero, i.size, i.bytes)) = some (some (.int .u8 0), 1, 1) := by kernel_rfl

theorem append_8 {w : World} {ops : Array Oper} {rest : List Oper} {o : Oper} {a : Act} {Q : Exit → Act → World → Prop} (hgd : o.guard = none) (s x : Operand)
    (ho : o.op = .call { callee := .builtin .append, args := #[s, x], argTypes := #[48, 48] })
    (base : Nat) (v : Value) (l : List UInt8) (hs : a.eval s = v) (hown : Own8 w base v l) (b c : Nat) (y : UInt8) (hx : a.eval x = .slice (some ⟨b, 0, none⟩) 1 c)
    (hc : w.cell? ⟨b, 0, none⟩ = some (.int .u8 (y.toNat : Int))) (hlen : l.length + 1 ≤ 8796093022000) (hbase : base ≤ w.heap.size)
    (h : ∀ v' w', Own8 w' base v' (l ++ [y]) → w.grownBy w' v.ownBlock → wpList Try.prog ops Q rest (a.put o.dst v') w') : wpList Try.prog ops Q (o :: rest) a w := by
  obtain ⟨i0, hi, hz0, hz1, hz2⟩ := info_parts Try.info8
  refine wpList_append_own w hgd s x 48 ho base 5 i0 (.int .u8 0) 1 1 Try.underlying48 hi hz0 hz1 hz2 rfl (by decide) v l.length _ hs hown ⟨b, 0, none⟩ 1 c [.int .u8 (y.toNat : Int)] hx rfl ?_ ?_ (by unfold maxLen; omega) (by omega) hbase ?_
  · intro j u hu
    rcases j with _ | j
    · obtain rfl := Option.some.inj hu
      exact hc
    · simp at hu
  · intro u hu
    obtain rfl := List.mem_singleton.1 hu
    rfl
  · intro v' w' h1 h2 _
    exact h v' w' (by unfold Own8; simpa using h1) h2

theorem Own8.back {w : World} {base : Nat} {v : Value} {l : List UInt8} (h : Own8 w base v l) : (convert 48 9 v).run Try.prog w = .ok (.string ⟨l.toArray⟩) w := by
  rcases h.2 with ⟨rfl, h0⟩ | ⟨g, cap, cur, rfl, _⟩
  · obtain rfl : l = [] := List.length_eq_zero_iff.1 h0
    exact run_convert_bytes_nil (P := Try.prog) w 48 5 Try.underlying48 Try.underlying5 0 0 9 Try.underlying9
  · exact run_convert_bytes_back (P := Try.prog) w 48 9 5 ⟨g, 0, none⟩ cap l Try.underlying48 Try.underlying5 Try.underlying9
      (fun j hj => h.cells (g := g) rfl j (.int .u8 (l[j].toNat : Int)) (by simp [hj]))

theorem bytes_snoc (s : ByteArray) (k : Nat) (hk : k < s.size) (f : UInt8 → UInt8) : ((s.data.toList.take (k + 1)).map f) = ((s.data.toList.take k).map f) ++ [f s[k]] := by
  rw [List.take_succ_eq_append_getElem (by rw [Array.length_toList]; exact hk), List.map_append]; rfl

set_option maxHeartbeats 1000000 in
theorem refLower_any (s : ByteArray) (w : World) (hs : s.size ≤ 1000000) :
    Calls Try.prog 20 #[.string s] w fun e w' => e = .returned (.string (lowB s)) ∧ Below w.heap.size w w' := by
  go_enter Try.func20, Try.ntmps20
  go_wp2_with fail
  go_loopw [3, 4] (fun v i wr => ∃ k : Nat, i = .int .i64 k ∧ k ≤ s.size ∧ Hid (Own8 wr w.heap.size v ((s.data.toList.take k).map lowC)) ∧ Hid (Below w.heap.size w wr)) (fun _ i _ => s.size - (intOf i).toNat)
  case atStart => exact ⟨0, rfl, by omega, Lib.hid (World.ownsRow_nil _ _ _ _), Lib.hid (Below.refl _ _)⟩
  case round =>
    obtain ⟨k, rfl, hk, HO, HB⟩ := hrel
    by_cases hlt : k < s.size
    · have HSN := Lib.hid (bytes_snoc s k hlt lowC)
      have hlen : ((s.data.toList.take k).map lowC).length ≤ 1000000 := by simp; omega
      generalize (s.data.toList.take k).map lowC = l at HO HSN hlen
      have HLEN := Lib.hid hlen
      clear hlen
      go_wp2_with fail
      refine (lowerR_any s[k] wr).mono ?_
      rintro e w' ⟨rfl, hw⟩
      rw [hw]
      clear hw
      go_wp2_with (at_builtin; refine append_8 rfl _ _ rfl w.heap.size u3 l rfl (World.ownsRow.alloc HO.out _) wr.heap.size 1 (lowC s[k]) rfl (by simp) (Nat.le_trans (Nat.add_le_add_right HLEN.out 1) (by decide)) (by have := HB.out.size; simp; omega) ?_; intro v' w1 hown' hgrow)
      have HN := Lib.hid ((HB.out.alloc HB.out.size _).grown hgrow (by have := HB.out.size; simp; omega) (fun k hk => (World.ownsRow.lt HO.out k hk).1))
      have HO' := Lib.hid hown'
      clear hown' hgrow
      go_roundw
      case rel => exact ⟨k + 1, by go_num, by omega, by rw [HSN.out]; exact HO', HN⟩
      case measure => simp [intOf]; omega
    · obtain rfl : k = s.size := by omega
      have hcb := HO.out.back
      rw [List.take_of_length_le (by rw [Array.length_toList]; exact Nat.le_refl _)] at hcb
      have HLB := Lib.hid (show (⟨(s.data.toList.map lowC).toArray⟩ : ByteArray) = lowB s from rfl)
      rw [HLB.out] at hcb
      go_wp2_with fail
      go_ret
      exact ⟨rfl, HB.out⟩

end Go.Proofs.Ytimcjkkbooinbaa
