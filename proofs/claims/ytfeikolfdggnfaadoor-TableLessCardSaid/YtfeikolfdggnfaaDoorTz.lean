/- TableLess: for every input the law returns true, and its arguments read as they did: the row, and the tied card. -/
import Derived.Test.YtfeikolfdggnfaaDoorTy
import Derived.Test.YtfeikolfdggnfaaDoorTx
namespace Go.Proofs.YtfeikolfdggnfaaDoor
open Go.ChangeShapes Go.WideShapes Go.RowKit

set_option maxRecDepth 100000 in
theorem less_lifted (os : Os) (started : os.Started) (H : Type) (enc : TypeId × Value → H) :
    ReturnsInHanded {} Tryd.checked os 6 .any (fun w args => (Rows.tableLessSpec.pre enc Tryd.prog Tryd.f6 [] false w args ∧ laidMetH Tryd.prog Rows.tableLessRow.laid w) ∧ sizedMet enc Tryd.prog Tryd.f6 (OpenSpec.ofChange Rows.tableLessSpec) false w args)
      (Rows.tableLessSpec.post enc Tryd.prog Tryd.f6 false true false false) := by
  refine returnsInHanded_of_change_and (C := Tryd.checked) (X := fun w _ => laidMetH Tryd.prog Rows.tableLessRow.laid w) (fun _ _ _ hh h => h.of_heap hh) own started (by kernel_rfl) Tryd.func6
    (ChangeSpec.witness_at (enc := enc) (C := Tryd.checked) (os := os) (X := fun w _ => laidMetH Tryd.prog Rows.tableLessRow.laid w) false (laidWorld os) #[.slice none 0 0, .agg #[.int .i64 0, .int .i64 0, .int .i64 0]] 8 rfl (by kernel_rfl) (by kernel_rfl) (by kernel_rfl) (by kernel_rfl) (by kernel_rfl) (laidWorld_met os _)) ?_
  intro W base args ds gs before hval0 hW _ _ hL _
  have hval : ∀ (j : Nat) t v, Tryd.f6.params[j]? = some t → args[j]? = some v → Value.okWide Tryd.prog W .any base t v := hval0
  obtain ⟨p, q, hA0, hV, -, -, -⟩ := id hW
  have hA : DataW.TrodAll enc Tryd.prog W 0 (fun _ => true) true Tryd.f6.params.toList args.toList ds p := hA0
  rw [Tryd.params6] at hA hval
  obtain ⟨v0, v1, d0, d1, p0, p1, rfl, rfl, rfl, h0, h1⟩ := trodAll_two hA
  obtain ⟨rfl, rfl⟩ := trodVars_none hV
  obtain ⟨a, cap, l, rfl, hl, hz, hs⟩ := open_texts (hval 0 _ _ rfl rfl) h0
  obtain ⟨cs, rfl, hcs, hn⟩ := open_numbers Tryd.underlying47 (by kernel_rfl) (hval 1 _ _ rfl rfl) h1
  obtain ⟨q0, q1, q2, rfl⟩ := arr3 hcs hn
  refine (less_any a cap l q0 q1 q2 W (err_of_laid hL) hl hz hs).mono fun e W' ⟨he, hb⟩ => ?_
  subst he
  refine ⟨_, rfl, ?_⟩
  refine post_of_below ?_ (by kernel_rfl) rfl (by simp [Rows.tableLessSpec]) hW hb
  rw [Tryd.params6]
  intro t ht
  simp only [List.mem_cons, List.not_mem_nil, or_false] at ht
  rcases ht with rfl | rfl <;> exact ⟨by kernel_rfl, of_decide_eq_true (by kernel_rfl)⟩

theorem less_holds : Rows.TableLessSaid :=
  OpenClaim.holds_of_wide 6 Tryd.f6 rfl rfl rfl rfl rfl rfl rfl ⟨rfl, rfl, rfl, rfl, rfl⟩ rfl rfl rfl rfl rfl (by kernel_rfl) Tryd.func6 (by kernel_rfl)
    (of_decide_eq_true (by kernel_rfl)) (by unfold Func.isWrapper; rw [if_neg (of_decide_eq_false (by kernel_rfl))]; exact ⟨rfl, rfl⟩)
    (fun os started H enc _ => less_lifted os started H enc)

/-- The tied card. -/
theorem less_card : Rows.TableLessCardSaid :=
  Claim7.holds_tied_plain_at .later [] [.handle] true _ true
    less_holds (fun _ h => by cases h) (by kernel_rfl) (fun _ h => by cases h) tableLess_row_tie rfl ⟨rfl, rfl⟩ (by kernel_rfl) rfl
    (fun f fn hf hfn => by
      obtain rfl : f = 6 := Option.some.inj ((show Tryd.prog.funcNamed "isogloss/isoglosslaw11.TableLess" = some 6 by kernel_rfl).symm.trans hf) |>.symm
      obtain rfl : fn = Tryd.f6 := (Option.some.inj (Tryd.func6.symm.trans hfn)).symm
      refine ⟨by kernel_rfl, fun j t ht => ?_⟩
      rw [Tryd.params6] at ht
      have hm : t ∈ [22, 47] := by
        have := Array.mem_of_getElem? ht
        simpa using this
      simp only [List.mem_cons, List.not_mem_nil, or_false] at hm
      rcases hm with rfl | rfl
      · exact (show Tryd.prog.wantsStandIn 22 = false by kernel_rfl)
      · exact (show Tryd.prog.wantsStandIn 47 = false by kernel_rfl))
    (by kernel_rfl)
#print axioms less_card
end Go.Proofs.YtfeikolfdggnfaaDoor
