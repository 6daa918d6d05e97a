/-
  ratemilllaw.Names returns true: the errors of each package are different ones. The condition is the row's own: the listed variables hold what the program's text lays; the card ties it.
-/
import Derived.Test.YtbdccfgeildebaaDoorNamesW
import Derived.Test.YtbdccfgeildebaaDoorCards
import Derived.Test.YtbdccfgeildebaaDoorTie
import Derived.ProofKit
import Derived.LaidMore
import Derived.OpenShut
import Derived.Stop.Joined
import Derived.SevenTiedAt
namespace Go.Proofs.YtbdccfgeildebaaDoor
open Go.ChangeShapes Go.WideShapes Go.ChangeAt Go.RowKit Mem

theorem t_own : ownKnob Tryd.prog.godebug = none := by kernel_rfl

def names17 : List String := ["ratemill/reg.ErrKind", "ratemill/reg.ErrWidth", "ratemill/reg.ErrBusy", "ratemill/reg.ErrIdle", "ratemill/mill.ErrLong", "ratemill/mill.ErrToken", "ratemill/mill.ErrSyntax", "ratemill/mill.ErrMany", "ratemill/mill.ErrTwice", "ratemill/mill.ErrName", "ratemill/mill.ErrType", "ratemill/mill.ErrPeriod", "ratemill/mill.ErrFree", "ratemill/mill.ErrCycle", "ratemill/mill.ErrFlow", "ratemill/mill.ErrInputs", "ratemill/mill.ErrOverrun"]

theorem t_globals : names17.map Tryd.prog.globalNamed = (List.range 17).map some := by kernel_rfl
theorem t_gtypes : (List.range 17).map (fun g => (Tryd.prog.globals[g]?).map (·.type)) = (List.range 17).map fun _ => some 33 := by kernel_rfl

theorem global_at (i : Nat) (x : String) (h : names17[i]? = some x) : Tryd.prog.globalNamed x = some i ∧ (Tryd.prog.globals[i]?).map (·.type) = some 33 := by
  have hi : i < 17 := by
    have := (List.getElem?_eq_some_iff.1 h).1
    simpa [names17] using this
  have h1 := congrArg (·[i]?) t_globals
  have h2 := congrArg (·[i]?) t_gtypes
  simp only [List.getElem?_map, h, Option.map_some, List.getElem?_range hi, Option.some.injEq] at h1 h2
  exact ⟨h1, h2⟩

/-- The list of the row, its first n. -/
theorem sentinels_of {W : World} {l : List (String × DataW Unit)} (n : Nat) (hn : n ≤ 17) (hl : l.map (·.1) = names17.take n) (hd : ∀ x ∈ l, ∃ text, x.2 = errD text) (h : laidMet Tryd.prog l W) :
    ∃ f : Nat → Addr, Sent W n f ∧ Apart17 W n f := by
  obtain ⟨ps, hv, hnd, hrows⟩ := h
  have hlen : l.length = n := by
    have := congrArg List.length hl
    simp [names17] at this
    omega
  have hat : ∀ (i : Nat) x, l[i]? = some x → names17[i]? = some x.1 ∧ i < n := fun i x hx => by
    have hin : i < n := by
      have := (List.getElem?_eq_some_iff.1 hx).1
      omega
    have := congrArg (·[i]?) hl
    simp only [List.getElem?_map, hx, Option.map_some, List.getElem?_take, if_pos hin] at this
    exact ⟨this.symm, hin⟩
  have hty : ∀ x ∈ l, ∀ g, Tryd.prog.globalNamed x.1 = some g → (Tryd.prog.globals[g]?).map (·.type) = some 33 := fun x hx g hg => by
    obtain ⟨i, hi⟩ := List.mem_iff_getElem?.1 hx
    obtain ⟨h1, h2⟩ := global_at i x.1 (hat i x hi).1
    rw [hg] at h1
    cases h1
    exact h2
  obtain ⟨ads, hal, hads, hb, hsub⟩ := addrs_of l ps hv hd hty hrows
  have hget : ∀ i, i < n → ∃ a x, ads[i]? = some a ∧ l[i]? = some x ∧ W.var? Tryd.prog x.1 = some #[.iface 99 (.pointer (some a))] := fun i hi => by
    have hx : l[i]? = some (l[i]'(by omega)) := List.getElem?_eq_getElem (by omega)
    obtain ⟨a, ha, hv⟩ := hads i _ hx
    exact ⟨a, _, ha, hx, hv⟩
  have hf : ∀ i, i < n → ads[i]? = some (ads.getD i ⟨0, 0, none⟩) := fun i hi => by
    obtain ⟨a, _, ha, _, _⟩ := hget i hi
    simp [List.getD, ha]
  refine ⟨fun i => ads.getD i ⟨0, 0, none⟩, fun i hi => ?_, ⟨fun i j hi hj hij => ne_of_sub hsub hnd i j _ _ (hf i hi) (hf j hj) hij, fun i hi => ?_⟩⟩
  · obtain ⟨a, x, ha, hx, hv⟩ := hget i hi
    have e : a = ads.getD i ⟨0, 0, none⟩ := Option.some.inj (ha.symm.trans (hf i hi))
    rw [e] at hv
    simpa using World.var?_cell (global_at i x.1 (hat i x hx).1).1 hv 0
  · exact (hb _ (List.mem_of_getElem? (hf i hi))).2

theorem namesW_calls (f : Nat → Addr) (w : World) (h : Sent w 17 f) (ha : Apart17 w 17 f) :
    Calls Tryd.prog 3 #[] w fun e w' => e = .returned (.bool true) ∧ Below w.heap.size w w' := by
  go_enter Tryd.func3, Tryd.ntmps3
  go_wp2_with (go_at_call 6; refine (different_calls f _ h ha).mono ?_; rintro e w' ⟨rfl, hb⟩)
  go_ret
  exact ⟨rfl, hb⟩

/-- The door's own heap meets the condition. -/
theorem namesDoor_met (os : Os) (args : Array Value) : laidMetH Tryd.prog Rows.namesRow.laid ((World.doorLaid Tryd.prog 400 os).forCall (fun _ _ => 0) ⟨#[], args, []⟩).memory := by
  rw [MakeChecks.laidMetH_plain _ _ _ (by kernel_rfl)]
  exact laidMet_of_run' 8 (by kernel_rfl) (by kernel_rfl)

set_option maxRecDepth 100000 in
theorem names_lifted (os : Os) (started : os.Started) (H : Type) (enc : TypeId × Value → H) :
    ReturnsInHanded {} Tryd.checked os 3 .any (fun w args => (Rows.namesSpec.pre enc Tryd.prog Tryd.f3 [] false w args ∧ laidMetH Tryd.prog Rows.namesRow.laid w) ∧ sizedMet enc Tryd.prog Tryd.f3 (OpenSpec.ofChange Rows.namesSpec) false w args)
      (Rows.namesSpec.post enc Tryd.prog Tryd.f3 false true false false) := by
  refine returnsInHanded_of_change_and (C := Tryd.checked) (X := fun w _ => laidMetH Tryd.prog Rows.namesRow.laid w) (fun _ _ _ hh h => h.of_heap hh) t_own started (by kernel_rfl) Tryd.func3
    (ChangeSpec.witness_shaped (enc := enc) (C := Tryd.checked) (os := os) (X := fun w _ => laidMetH Tryd.prog Rows.namesRow.laid w) false (World.doorLaid Tryd.prog 400 os) #[] 8 rfl (World.shaped_of_RefB (by kernel_rfl) (by kernel_rfl)) (by kernel_rfl) (by kernel_rfl) (by kernel_rfl) (namesDoor_met os _)) ?_
  intro W base args ds gs before _ hW _ _ hL _
  have hW' := hW
  obtain ⟨p, q, hA0, hV, rfl, hfz, hnd⟩ := hW
  have hA : DataW.TrodAll enc Tryd.prog W 0 (fun _ => true) true Tryd.f3.params.toList args.toList ds p := hA0
  rw [Tryd.params3] at hA
  obtain ⟨hargs, rfl, rfl⟩ := trodAll_nil hA
  obtain rfl : args = #[] := Array.toList_inj.1 hargs
  obtain ⟨rfl, rfl⟩ := trodVars_none hV
  rw [MakeChecks.laidMetH_plain _ _ _ (by kernel_rfl)] at hL
  obtain ⟨f, hs, ha⟩ := sentinels_of 17 (Nat.le_refl _) rfl (by
    intro x hx
    simp only [Rows.namesRow, List.mem_cons, List.not_mem_nil, or_false] at hx
    rcases hx with rfl | rfl | rfl | rfl | rfl | rfl | rfl | rfl | rfl | rfl | rfl | rfl | rfl | rfl | rfl | rfl | rfl <;> exact ⟨_, rfl⟩) hL
  refine (namesW_calls f W hs ha).mono fun e W' ⟨he, hb⟩ => ?_
  subst he
  refine ⟨_, rfl, _, _, _, [], [], [], hW', ?_, ?_, ?_, hb.frame _, fun h => by cases h⟩
  · exact trodAll_mk1 (shut_bool Tryd.underlying4 true)
  · exact trodAll_mk0
  · rfl

theorem names_row : Rows.NamesSaid :=
  OpenClaim.holds_of_wide 3 Tryd.f3 rfl rfl rfl rfl rfl rfl rfl ⟨rfl, rfl, rfl, rfl, rfl⟩ rfl rfl rfl rfl rfl (by kernel_rfl) Tryd.func3 (by kernel_rfl)
    (of_decide_eq_true (by kernel_rfl)) (by unfold Func.isWrapper; rw [if_neg (of_decide_eq_false (by kernel_rfl))]; exact ⟨rfl, rfl⟩)
    (fun os started H enc _ => names_lifted os started H enc)

theorem names_holds : Rows.NamesCardSaid :=
  Claim7.holds_tied_plain_at .later [] [.sentinel, .sentinel, .sentinel, .sentinel, .wider, .wider, .wider, .wider, .wider, .wider, .wider, .wider, .wider, .wider, .sentinel, .sentinel, .sentinel] true (true, "00b68b63fb54ff5ccc90bde9375f3cf1623dd4a5e1fabe16cad97d217ab62a87") true
    names_row (fun _ h => by cases h) (by kernel_rfl) (fun _ h => by cases h) names_row_tie rfl ⟨rfl, rfl⟩ (by kernel_rfl) rfl
    (fun f fn hf hfn => by
      obtain rfl : f = 3 := Option.some.inj ((show Tryd.prog.funcNamed "ratemill/ratemilllaw.Names" = some 3 by kernel_rfl).symm.trans hf) |>.symm
      obtain rfl : fn = Tryd.f3 := (Option.some.inj (Tryd.func3.symm.trans hfn)).symm
      exact ⟨by kernel_rfl, fun j t ht => by
        rw [Tryd.params3] at ht
        simp at ht⟩)
    (by kernel_rfl)
#print axioms names_holds
end Go.Proofs.YtbdccfgeildebaaDoor
