/- TableBuilds: for every input the law returns true, and its arguments read as they did: the row, and the tied card. -/
import Derived.Test.YtfeikolfdggnfaaDoorTy
import Derived.Test.YtfeikolfdggnfaaDoorFp
namespace Go.Proofs.YtfeikolfdggnfaaDoor
open Go.ChangeShapes Go.WideShapes Go.RowKit

set_option maxRecDepth 100000 in
theorem buildsL_lifted (os : Os) (started : os.Started) (H : Type) (enc : TypeId × Value → H) :
    ReturnsInHanded {} Tryd.checked os 7 .any (fun w args => (Rows.tableBuildsSpec.pre enc Tryd.prog Tryd.f7 [] false w args ∧ laidMetH Tryd.prog Rows.tableBuildsRow.laid w) ∧ sizedMet enc Tryd.prog Tryd.f7 (OpenSpec.ofChange Rows.tableBuildsSpec) false w args)
      (Rows.tableBuildsSpec.post enc Tryd.prog Tryd.f7 false true false false) := by
  refine returnsInHanded_of_change_and (C := Tryd.checked) (X := fun w _ => laidMetH Tryd.prog Rows.tableBuildsRow.laid w) (fun _ _ _ hh h => h.of_heap hh) own started (by kernel_rfl) Tryd.func7
    (ChangeSpec.witness_at (enc := enc) (C := Tryd.checked) (os := os) (X := fun w _ => laidMetH Tryd.prog Rows.tableBuildsRow.laid w) false (laidWorld os) #[.slice none 0 0, .string ⟨#[]⟩, .agg #[.int .i64 0, .int .i64 0, .int .i64 0, .int .i64 0]] 8 rfl (by kernel_rfl) (by kernel_rfl) (by kernel_rfl) (by kernel_rfl) (by kernel_rfl) (laidWorld_met os _)) ?_
  intro W base args ds gs before hval0 hW _ _ hL _
  have hval : ∀ (j : Nat) t v, Tryd.f7.params[j]? = some t → args[j]? = some v → Value.okWide Tryd.prog W .any base t v := hval0
  obtain ⟨p, q, hA0, hV, -, -, -⟩ := id hW
  have hA : DataW.TrodAll enc Tryd.prog W 0 (fun _ => true) true Tryd.f7.params.toList args.toList ds p := hA0
  rw [Tryd.params7] at hA hval
  obtain ⟨v0, v1, v2, d0, d1, d2, p0, p1, p2, rfl, rfl, rfl, h0, h1, h2⟩ := trodAll_three hA
  obtain ⟨rfl, rfl⟩ := trodVars_none hV
  obtain ⟨a, cap, l, rfl, hl, hz, hs⟩ := open_texts (hval 0 _ _ rfl rfl) h0
  obtain ⟨s, rfl, hsz⟩ := open_text (hval 1 _ _ rfl rfl) h1
  obtain ⟨cs, rfl, hcs, hn⟩ := open_numbers Tryd.underlying23 (by kernel_rfl) (hval 2 _ _ rfl rfl) h2
  obtain ⟨q0, q1, q2, q3, rfl⟩ := arr4 hcs hn
  refine (buildsL_any a cap l s q0 q1 q2 q3 W (err_of_laid hL) hl hz hs hsz).mono fun e W' ⟨he, hb⟩ => ?_
  subst he
  refine ⟨_, rfl, ?_⟩
  refine post_of_below ?_ (by kernel_rfl) rfl (by simp [Rows.tableBuildsSpec]) hW hb
  rw [Tryd.params7]
  intro t ht
  simp only [List.mem_cons, List.not_mem_nil, or_false] at ht
  rcases ht with rfl | rfl | rfl <;> exact ⟨by kernel_rfl, of_decide_eq_true (by kernel_rfl)⟩

theorem buildsL_holds : Rows.TableBuildsSaid :=
  OpenClaim.holds_of_wide 7 Tryd.f7 rfl rfl rfl rfl rfl rfl rfl ⟨rfl, rfl, rfl, rfl, rfl⟩ rfl rfl rfl rfl rfl (by kernel_rfl) Tryd.func7 (by kernel_rfl)
    (of_decide_eq_true (by kernel_rfl)) (by unfold Func.isWrapper; rw [if_neg (of_decide_eq_false (by kernel_rfl))]; exact ⟨rfl, rfl⟩)
    (fun os started H enc _ => buildsL_lifted os started H enc)

/-- The tied card. -/
theorem buildsL_card : Rows.TableBuildsCardSaid :=
  Claim7.holds_tied_plain_at .later [] [.handle] true _ true
    buildsL_holds (fun _ h => by cases h) (by kernel_rfl) (fun _ h => by cases h) tableBuilds_row_tie rfl ⟨rfl, rfl⟩ (by kernel_rfl) rfl
    (fun f fn hf hfn => by
      obtain rfl : f = 7 := Option.some.inj ((show Tryd.prog.funcNamed "isogloss/isoglosslaw11.TableBuilds" = some 7 by kernel_rfl).symm.trans hf) |>.symm
      obtain rfl : fn = Tryd.f7 := (Option.some.inj (Tryd.func7.symm.trans hfn)).symm
      refine ⟨by kernel_rfl, fun j t ht => ?_⟩
      rw [Tryd.params7] at ht
      have hm : t ∈ [22, 9, 23] := by
        have := Array.mem_of_getElem? ht
        simpa using this
      simp only [List.mem_cons, List.not_mem_nil, or_false] at hm
      rcases hm with rfl | rfl | rfl
      · exact (show Tryd.prog.wantsStandIn 22 = false by kernel_rfl)
      · exact (show Tryd.prog.wantsStandIn 9 = false by kernel_rfl)
      · exact (show Tryd.prog.wantsStandIn 23 = false by kernel_rfl))
    (by kernel_rfl)
#print axioms buildsL_card
end Go.Proofs.YtfeikolfdggnfaaDoor
