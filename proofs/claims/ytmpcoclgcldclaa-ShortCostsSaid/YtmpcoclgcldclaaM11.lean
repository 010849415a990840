/- The law ShortCosts holds: of any word what it costs is what the document says. For every input; no condition. -/
import Derived.Test.YtmpcoclgcldclaaOpen
import Derived.Test.YtmpcoclgcldclaaFacts
import Derived.Test.YtmpcoclgcldclaaL11
namespace Go.Proofs.Ytmpcoclgcldclaa.shortCosts
open Go.ChangeShapes Go.WideShapes Go.ChangeAt Go.RowKit

set_option maxRecDepth 100000 in
theorem lifted (os : Os) (started : os.Started) (H : Type) (enc : TypeId × Value → H) :
    ReturnsInHanded {} Try.checked os 11 .any (Rows.shortCostsSpec.pre6 enc Try.prog Try.f11 Rows.shortCostsRow.domain false) (Rows.shortCostsSpec.post enc Try.prog Try.f11 false true false false) := by
  refine returnsInHanded_of_change (C := Try.checked) Try.own started (by kernel_rfl) Try.func11
    (ChangeSpec.witness6 (enc := enc) (C := Try.checked) false ⟨#[], #[.slice none 0 0, .slice none 0 0], []⟩ 8 (by kernel_rfl) (by kernel_rfl) (by kernel_rfl) (by kernel_rfl)) ?_
  intro W base args ds gs before hval0 hW hcnd _
  have hval : ∀ (j : Nat) t v, Try.f11.params[j]? = some t → args[j]? = some v → Value.okWide Try.prog W .any base t v := hval0
  have hW' := hW
  obtain ⟨p, q, hA0, hV, rfl, hfz, hnd⟩ := hW
  have hA : DataW.TrodAll enc Try.prog W 0 (fun _ => true) true Try.f11.params.toList args.toList ds p := hA0
  rw [Try.params11] at hA hval
  obtain ⟨v0, vs0, d0_, ds0, p0, q0, hargs, rfl, rfl, h0, r0_⟩ := trodAll_cons hA
  obtain ⟨v1, vs1, d1_, ds1, p1, q1, rfl, rfl, rfl, h1, r1_⟩ := trodAll_cons r0_
  obtain ⟨rfl, rfl, rfl⟩ := trodAll_nil r1_
  obtain rfl : args = #[v0, v1] := by cases args; simp_all
  obtain ⟨rfl, rfl⟩ := trodVars_none hV
  have k0 := h0
  have lt0 : ∀ x ∈ p0, x.block < W.heap.size := by obtain ⟨m, hm⟩ := k0; exact DataW.trod_lt m _ _ _ hm
  have k1 := h1
  have lt1 : ∀ x ∈ p1, x.block < W.heap.size := by obtain ⟨m, hm⟩ := k1; exact DataW.trod_lt m _ _ _ hm
  obtain ⟨a0, len0, cap0, rfl⟩ := okWide_slice Try.underlying22 (hval 0 22 v0 rfl rfl)
  obtain ⟨A0, c0, xs0, hv0, l0, r0, wf0⟩ : ∃ (A : Option Addr) (c : Nat) (xs : List Int), Value.slice a0 len0 cap0 = .slice A xs.length c ∧ xs.length ≤ 9223372036854775807 ∧ Rd W W.heap.size A (xs.map (Value.int .i64)) ∧ ∀ n ∈ xs, (Lit.int .i64 n).wf = true := by
    obtain ⟨fuel, hf⟩ := h0
    exact ints_read hf
  rw [hv0] at k0 hW' ⊢
  obtain ⟨a1, len1, cap1, rfl⟩ := okWide_slice Try.underlying22 (hval 1 22 v1 rfl rfl)
  obtain ⟨A1, c1, xs1, hv1, l1, r1, wf1⟩ : ∃ (A : Option Addr) (c : Nat) (xs : List Int), Value.slice a1 len1 cap1 = .slice A xs.length c ∧ xs.length ≤ 9223372036854775807 ∧ Rd W W.heap.size A (xs.map (Value.int .i64)) ∧ ∀ n ∈ xs, (Lit.int .i64 n).wf = true := by
    obtain ⟨fuel, hf⟩ := h1
    exact ints_read hf
  rw [hv1] at k1 hW' ⊢
  clear hA0 hval0
  refine (shortCosts_law xs0 xs1 A0 A1 c0 c1 W ⟨l0, r0⟩ ⟨l1, r1⟩).mono fun e W' ⟨he, bel⟩ => ?_
  subst he
  exact ⟨_, rfl, _, _, _, [], _, [], hW', trodAll_mk1 (shut_bool Try.underlying4 _), (trodAll_cons_mk (Below.trod Try.laidOut (by kernel_rfl) (of_decide_eq_true (by kernel_rfl)) k0 bel lt0) (trodAll_cons_mk (Below.trod Try.laidOut (by kernel_rfl) (of_decide_eq_true (by kernel_rfl)) k1 bel lt1) trodAll_mk0)), rfl, bel.frame _, fun h => by cases h⟩

theorem closed : joinedFacts Try.pinned.checked.prog 11 Try.f11 Rows.shortCostsSpec Rows.shortCostsRow = true := by
  unfold joinedFacts
  simp only [Bool.and_eq_true]
  exact ⟨⟨⟨⟨⟨⟨⟨⟨⟨⟨⟨⟨⟨⟨⟨⟨⟨⟨⟨⟨⟨⟨⟨⟨⟨⟨⟨⟨⟨⟨⟨(by as_aux_lemma => kernel_rfl), fact_laidOut⟩, fact_mapsRowed⟩, (by as_aux_lemma => kernel_rfl)⟩, (by as_aux_lemma => kernel_rfl)⟩, (by as_aux_lemma => kernel_rfl)⟩, fact_stops⟩, (by as_aux_lemma => kernel_rfl)⟩, fact_stopKnobs⟩, (by as_aux_lemma => kernel_rfl)⟩, (by as_aux_lemma => kernel_rfl)⟩, (by as_aux_lemma => kernel_rfl)⟩, (by as_aux_lemma => kernel_rfl)⟩, (by as_aux_lemma => kernel_rfl)⟩, (by as_aux_lemma => kernel_rfl)⟩, (by as_aux_lemma => kernel_rfl)⟩, (by as_aux_lemma => kernel_rfl)⟩, (by as_aux_lemma => kernel_rfl)⟩, (by as_aux_lemma => kernel_rfl)⟩, (by as_aux_lemma => kernel_rfl)⟩, (by as_aux_lemma => kernel_rfl)⟩, (by as_aux_lemma => kernel_rfl)⟩, fact_plainKeys⟩, (by as_aux_lemma => kernel_rfl)⟩, fact_stopsHeard⟩, fact_mayEnter⟩, fact_liftsFinal⟩, fact_make⟩, (by as_aux_lemma => kernel_rfl)⟩, (by as_aux_lemma => kernel_rfl)⟩, (by as_aux_lemma => kernel_rfl)⟩, (by as_aux_lemma => kernel_rfl)⟩

theorem over : Rows.shortCostsRow.holds Try.pinned (OpenSpec.ofChange Rows.shortCostsSpec) :=
  OpenClaim.holds_of_wide 11 Try.f11 rfl rfl rfl rfl rfl rfl rfl ⟨rfl, rfl, rfl, rfl, rfl⟩ rfl rfl rfl rfl rfl (by kernel_rfl) Try.func11 closed
    (of_decide_eq_true (by kernel_rfl)) (by unfold Func.isWrapper; first | (rw [if_pos (by decide +kernel)]; kernel_rfl) | (rw [if_neg (by decide +kernel)]; exact ⟨rfl, rfl⟩))
    (fun os started H enc _ => lifted os started H enc)

end Go.Proofs.Ytmpcoclgcldclaa.shortCosts
namespace Go.Proofs.Ytmpcoclgcldclaa
theorem shortCosts_holds : Rows.ShortCostsSaid := shortCosts.over
#print axioms shortCosts_holds
end Go.Proofs.Ytmpcoclgcldclaa
