/-
  Fresh: the row and the card. The condition is the row's own: the listed variables hold what the program's text lays; the card ties it.
-/
import Derived.Test.YtbdccfgeildebaaDoorArgs
namespace Go.Proofs.YtbdccfgeildebaaDoor
open Go.ChangeShapes Go.WideShapes Go.ChangeAt Go.RowKit Go.Deep Mem

/-- The door's own heap meets the condition. -/
theorem freshDoor_met (os : Os) (args : Array Value) : laidMetH Tryd.prog Rows.freshRow.laid ((World.doorLaid Tryd.prog 400 os).forCall (fun _ _ => 0) ⟨#[], args, []⟩).memory := by
  rw [MakeChecks.laidMetH_plain _ _ _ (by kernel_rfl)]
  exact laidMet_of_run' 8 (by kernel_rfl) (by kernel_rfl)

set_option maxRecDepth 100000 in
theorem fresh_lifted (os : Os) (started : os.Started) (H : Type) (enc : TypeId × Value → H) :
    ReturnsInHanded {} Tryd.checked os 5 .any (fun w args => (Rows.freshSpec.pre enc Tryd.prog Tryd.f5 [] false w args ∧ laidMetH Tryd.prog Rows.freshRow.laid w) ∧ sizedMet enc Tryd.prog Tryd.f5 (OpenSpec.ofChange Rows.freshSpec) false w args)
      (Rows.freshSpec.post enc Tryd.prog Tryd.f5 false true false false) := by
  refine returnsInHanded_of_change_and (C := Tryd.checked) (X := fun w _ => laidMetH Tryd.prog Rows.freshRow.laid w) (fun _ _ _ hh h => h.of_heap hh) t_own started (by kernel_rfl) Tryd.func5
    (ChangeSpec.witness_shaped (enc := enc) (C := Tryd.checked) (os := os) (X := fun w _ => laidMetH Tryd.prog Rows.freshRow.laid w) false (World.doorLaid Tryd.prog 400 os) #[.slice none 0 0] 8 rfl (World.shaped_of_RefB (by kernel_rfl) (by kernel_rfl)) (by kernel_rfl) (by kernel_rfl) (by kernel_rfl) (freshDoor_met os _)) ?_
  intro W base args ds gs before hval0 hW _ hsz hL _
  have hW' := hW
  obtain ⟨p, q, hA0, hV, rfl, hfz, hnd⟩ := hW
  have hA : DataW.TrodAll enc Tryd.prog W 0 (fun _ => true) true Tryd.f5.params.toList args.toList ds p := hA0
  have hval : ∀ (j : Nat) t v, Tryd.f5.params[j]? = some t → args[j]? = some v → Value.okWide Tryd.prog W .any base t v := hval0
  rw [Tryd.params5] at hA hval
  obtain ⟨v, d, rfl, rfl, h0⟩ := trodAll_one hA
  obtain ⟨rfl, rfl⟩ := trodVars_none hV
  rw [MakeChecks.laidMetH_plain _ _ _ (by kernel_rfl)] at hL
  obtain ⟨f, hs, ha⟩ := sentinels_of 4 (by omega) rfl (by
    intro x hx
    simp only [Rows.freshRow, List.mem_cons, List.not_mem_nil, or_false] at hx
    rcases hx with rfl | rfl | rfl | rfl <;> exact ⟨_, rfl⟩) hL
  obtain ⟨A, n, cap, rfl⟩ := okWide_slice Tryd.underlying23 (hval 0 23 v rfl rfl)
  have hlt : ∀ x ∈ p, x.block < W.heap.size := fun x hx => hW'.lt x (by simp [hx])
  have h0k := h0
  obtain ⟨hN, hops⟩ := script_of h0 (fun x hx => hlt x hx) (fun elems spare e => sized_slice (j := 0) (t := 23) (ts := Tryd.f5.params.toList ++ Rows.freshSpec.plain.varTypes Tryd.prog) hsz (by rw [Tryd.params5]; rfl) (by rw [e]; rfl) Tryd.underlying23)
  refine (fresh_calls A n cap W ⟨hs, ha, rfl⟩ hops hN).mono fun e W' ⟨he, hb⟩ => ?_
  subst he
  refine ⟨_, rfl, _, _, _, [], p, [], hW', ?_, ?_, ?_, hb.frame _, fun h => by cases h⟩
  · exact trodAll_mk1 (shut_bool Tryd.underlying4 true)
  · exact trodAll_mk1 (Below.trod t_laidOut (by kernel_rfl) (of_decide_eq_true (by kernel_rfl)) h0k hb hlt)
  · rfl

theorem fresh_row : Rows.FreshSaid :=
  OpenClaim.holds_of_wide 5 Tryd.f5 rfl rfl rfl rfl rfl rfl rfl ⟨rfl, rfl, rfl, rfl, rfl⟩ rfl rfl rfl rfl rfl (by kernel_rfl) Tryd.func5 (by kernel_rfl)
    (of_decide_eq_true (by kernel_rfl)) (by unfold Func.isWrapper; rw [if_neg (of_decide_eq_false (by kernel_rfl))]; exact ⟨rfl, rfl⟩)
    (fun os started H enc _ => fresh_lifted os started H enc)

theorem fresh_holds : Rows.FreshCardSaid :=
  Claim7.holds_tied_plain_at .later [] [.sentinel, .sentinel, .sentinel, .sentinel] true (true, "00b68b63fb54ff5ccc90bde9375f3cf1623dd4a5e1fabe16cad97d217ab62a87") true
    fresh_row (fun _ h => by cases h) (by kernel_rfl) (fun _ h => by cases h) fresh_row_tie rfl ⟨rfl, rfl⟩ (by kernel_rfl) rfl
    (fun f fn hf hfn => by
      obtain rfl : f = 5 := Option.some.inj ((show Tryd.prog.funcNamed "ratemill/ratemilllaw.Fresh" = some 5 by kernel_rfl).symm.trans hf) |>.symm
      obtain rfl : fn = Tryd.f5 := (Option.some.inj (Tryd.func5.symm.trans hfn)).symm
      exact ⟨by kernel_rfl, fun j t ht => by
        rw [Tryd.params5] at ht
        have e : t = 23 := by
          rcases j with _ | j
          · simpa using ht.symm
          · simp at ht
        rw [e]
        exact t_wants23⟩)
    (by kernel_rfl)
#print axioms fresh_holds
end Go.Proofs.YtbdccfgeildebaaDoor
