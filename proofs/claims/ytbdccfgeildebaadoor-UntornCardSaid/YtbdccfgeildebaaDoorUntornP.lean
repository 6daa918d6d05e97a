/-
  Untorn: the row and the card. The condition is the row's own: the listed variables hold what the program's text lays; the card ties it.
-/
import Derived.Test.YtbdccfgeildebaaDoorArgs
namespace Go.Proofs.YtbdccfgeildebaaDoor
open Go.ChangeShapes Go.WideShapes Go.ChangeAt Go.RowKit Go.Deep Mem

/-- The door's own heap meets the condition. -/
theorem untornDoor_met (os : Os) (args : Array Value) : laidMetH Tryd.prog Rows.untornRow.laid ((World.doorLaid Tryd.prog 400 os).forCall (fun _ _ => 0) ⟨#[], args, []⟩).memory := by
  rw [MakeChecks.laidMetH_plain _ _ _ (by kernel_rfl)]
  exact laidMet_of_run' 8 (by kernel_rfl) (by kernel_rfl)

set_option maxRecDepth 100000 in
theorem untorn_lifted (os : Os) (started : os.Started) (H : Type) (enc : TypeId × Value → H) :
    ReturnsInHanded {} Tryd.checked os 4 .any (fun w args => (Rows.untornSpec.pre enc Tryd.prog Tryd.f4 [] false w args ∧ laidMetH Tryd.prog Rows.untornRow.laid w) ∧ sizedMet enc Tryd.prog Tryd.f4 (OpenSpec.ofChange Rows.untornSpec) false w args)
      (Rows.untornSpec.post enc Tryd.prog Tryd.f4 false true false false) := by
  refine returnsInHanded_of_change_and (C := Tryd.checked) (X := fun w _ => laidMetH Tryd.prog Rows.untornRow.laid w) (fun _ _ _ hh h => h.of_heap hh) t_own started (by kernel_rfl) Tryd.func4
    (ChangeSpec.witness_shaped (enc := enc) (C := Tryd.checked) (os := os) (X := fun w _ => laidMetH Tryd.prog Rows.untornRow.laid w) false (World.doorLaid Tryd.prog 400 os) #[.slice none 0 0] 8 rfl (World.shaped_of_RefB (by kernel_rfl) (by kernel_rfl)) (by kernel_rfl) (by kernel_rfl) (by kernel_rfl) (untornDoor_met os _)) ?_
  intro W base args ds gs before hval0 hW _ hsz hL _
  have hW' := hW
  obtain ⟨p, q, hA0, hV, rfl, hfz, hnd⟩ := hW
  have hA : DataW.TrodAll enc Tryd.prog W 0 (fun _ => true) true Tryd.f4.params.toList args.toList ds p := hA0
  have hval : ∀ (j : Nat) t v, Tryd.f4.params[j]? = some t → args[j]? = some v → Value.okWide Tryd.prog W .any base t v := hval0
  rw [Tryd.params4] at hA hval
  obtain ⟨v, d, rfl, rfl, h0⟩ := trodAll_one hA
  obtain ⟨rfl, rfl⟩ := trodVars_none hV
  rw [MakeChecks.laidMetH_plain _ _ _ (by kernel_rfl)] at hL
  obtain ⟨f, hs, ha⟩ := sentinels_of 4 (by omega) rfl (by
    intro x hx
    simp only [Rows.untornRow, List.mem_cons, List.not_mem_nil, or_false] at hx
    rcases hx with rfl | rfl | rfl | rfl <;> exact ⟨_, rfl⟩) hL
  obtain ⟨A, n, cap, rfl⟩ := okWide_slice Tryd.underlying23 (hval 0 23 v rfl rfl)
  have hlt : ∀ x ∈ p, x.block < W.heap.size := fun x hx => hW'.lt x (by simp [hx])
  have h0k := h0
  obtain ⟨hN, hops⟩ := script_of h0 (fun x hx => hlt x hx) (fun elems spare e => sized_slice (j := 0) (t := 23) (ts := Tryd.f4.params.toList ++ Rows.untornSpec.plain.varTypes Tryd.prog) hsz (by rw [Tryd.params4]; rfl) (by rw [e]; rfl) Tryd.underlying23)
  refine (untorn_calls A n cap W ⟨hs, ha, rfl⟩ hops hN).mono fun e W' ⟨he, hb⟩ => ?_
  subst he
  refine ⟨_, rfl, _, _, _, [], p, [], hW', ?_, ?_, ?_, hb.frame _, fun h => by cases h⟩
  · exact trodAll_mk1 (shut_bool Tryd.underlying4 true)
  · exact trodAll_mk1 (Below.trod t_laidOut (by kernel_rfl) (of_decide_eq_true (by kernel_rfl)) h0k hb hlt)
  · rfl

theorem untorn_row : Rows.UntornSaid :=
  OpenClaim.holds_of_wide 4 Tryd.f4 rfl rfl rfl rfl rfl rfl rfl ⟨rfl, rfl, rfl, rfl, rfl⟩ rfl rfl rfl rfl rfl (by kernel_rfl) Tryd.func4 (by kernel_rfl)
    (of_decide_eq_true (by kernel_rfl)) (by unfold Func.isWrapper; rw [if_neg (of_decide_eq_false (by kernel_rfl))]; exact ⟨rfl, rfl⟩)
    (fun os started H enc _ => untorn_lifted os started H enc)

theorem untorn_holds : Rows.UntornCardSaid :=
  Claim7.holds_tied_plain_at .later [] [.sentinel, .sentinel, .sentinel, .sentinel] true (true, "00b68b63fb54ff5ccc90bde9375f3cf1623dd4a5e1fabe16cad97d217ab62a87") true
    untorn_row (fun _ h => by cases h) (by kernel_rfl) (fun _ h => by cases h) untorn_row_tie rfl ⟨rfl, rfl⟩ (by kernel_rfl) rfl
    (fun f fn hf hfn => by
      obtain rfl : f = 4 := Option.some.inj ((show Tryd.prog.funcNamed "ratemill/ratemilllaw.Untorn" = some 4 by kernel_rfl).symm.trans hf) |>.symm
      obtain rfl : fn = Tryd.f4 := (Option.some.inj (Tryd.func4.symm.trans hfn)).symm
      exact ⟨by kernel_rfl, fun j t ht => by
        rw [Tryd.params4] at ht
        have e : t = 23 := by
          rcases j with _ | j
          · simpa using ht.symm
          · simp at ht
        rw [e]
        exact t_wants23⟩)
    (by kernel_rfl)
#print axioms untorn_holds
end Go.Proofs.YtbdccfgeildebaaDoor
