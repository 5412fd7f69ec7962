/- KeywordJoins: for every input the law returns true, and its arguments read as they did: the row. -/
import Derived.Test.YtimcjkkbooinbaaGy
import Derived.Test.YtimcjkkbooinbaaGv
namespace Go.Proofs.Ytimcjkkbooinbaa
open Go.ChangeShapes Go.WideShapes Go.RowKit

set_option maxRecDepth 100000 in
theorem joins_lifted (os : Os) (started : os.Started) (H : Type) (enc : TypeId × Value → H) :
    ReturnsInHanded {} Try.checked os 6 .any (Rows.keywordJoinsSpec.pre6 enc Try.prog Try.f6 Rows.keywordJoinsRow.domain false) (Rows.keywordJoinsSpec.post enc Try.prog Try.f6 false true false false) := by
  refine returnsInHanded_of_change (C := Try.checked) own started (by kernel_rfl) Try.func6
    (ChangeSpec.witness6 (enc := enc) (C := Try.checked) false ⟨#[], #[.slice none 0 0, .slice none 0 0], []⟩ 8 (by kernel_rfl) (by kernel_rfl) (by kernel_rfl) (by kernel_rfl)) ?_
  intro W base args ds gs before hval0 hW hcnd _
  have hval : ∀ (j : Nat) t v, Try.f6.params[j]? = some t → args[j]? = some v → Value.okWide Try.prog W .any base t v := hval0
  obtain ⟨p, q, hA0, hV, -, -, -⟩ := id hW
  have hA : DataW.TrodAll enc Try.prog W 0 (fun _ => true) true Try.f6.params.toList args.toList ds p := hA0
  rw [Try.params6] at hA hval
  obtain ⟨v0, v1, d0, d1, p0, p1, rfl, rfl, rfl, h0, h1⟩ := trodAll_two hA
  obtain ⟨rfl, rfl⟩ := trodVars_none hV
  obtain ⟨a, cap, l, rfl, hl, hz, hs⟩ := open_texts (hval 0 _ _ rfl rfl) h0
  obtain ⟨b, capb, m, rfl, hlm, hzm, hm⟩ := open_texts (hval 1 _ _ rfl rfl) h1
  refine (joins_any a b cap capb l m W hl hz hs hlm hzm hm).mono fun e W' ⟨he, hb⟩ => ?_
  subst he
  refine ⟨_, rfl, ?_⟩
  refine post_of_below ?_ (by kernel_rfl) rfl (by simp [Rows.keywordJoinsSpec]) hW hb
  rw [Try.params6]
  intro t ht
  simp only [List.mem_cons, List.not_mem_nil, or_false] at ht
  rcases ht with rfl | rfl <;> exact ⟨by kernel_rfl, of_decide_eq_true (by kernel_rfl)⟩

theorem joins_holds : Rows.KeywordJoinsSaid :=
  OpenClaim.holds_of_wide 6 Try.f6 rfl rfl rfl rfl rfl rfl rfl ⟨rfl, rfl, rfl, rfl, rfl⟩ rfl rfl rfl rfl rfl (by kernel_rfl) Try.func6 (by kernel_rfl)
    (of_decide_eq_true (by kernel_rfl)) (by unfold Func.isWrapper; rw [if_neg (of_decide_eq_false (by kernel_rfl))]; exact ⟨rfl, rfl⟩)
    (fun os started H enc _ => joins_lifted os started H enc)
#print axioms joins_holds
end Go.Proofs.Ytimcjkkbooinbaa
