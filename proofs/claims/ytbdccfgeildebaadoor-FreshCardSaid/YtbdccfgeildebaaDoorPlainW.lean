/-
  Package plain's calls of a register, errors as numbers. Conditions: the register's blocks are there; the listed sentinels hold different pointers.
-/
import Derived.Test.YtbdccfgeildebaaDoorMeth
import Derived.Lib.SliceRun
namespace Go.Proofs.YtbdccfgeildebaaDoor
open Go.RowKit Mem Abs

theorem Sent.chg {w w1 : World} {n : Nat} {f : Nat → Addr} {S : Nat → Prop} (h : Sent w n f) (hc : Chg S w w1) (hS : ∀ k, k < n → ¬ S k := by intro _ _ h; exact h) : Sent w1 n f :=
  fun i hi => (World.cell?_of_block (w := w) (hc.block i (h.lt hi) (hS i hi))).trans (h i hi)
theorem Apart17.chg {w w1 : World} {n : Nat} {f : Nat → Addr} (h : Apart17 w n f) (hc : Chg (fun _ => False) w w1) : Apart17 w1 n f :=
  h.below (hc.below (Nat.le_refl _) fun _ h => h.elim) (Nat.le_refl _)

theorem number_nil (w : World) : Calls Tryd.prog 19 #[.nilIface] w fun e w' => e = .returned (.int .i64 0) ∧ w = w' := by
  go_enter Tryd.func19, Tryd.ntmps19
  go_wp2
  go_ret
  exact ⟨rfl, rfl⟩

set_option maxRecDepth 20000 in
set_option maxHeartbeats 1000000 in
theorem number_err (f : Nat → Addr) (k : Nat) (hk : k < 4) (w : World) (hs : Sent w 4 f) (ha : Apart17 w 4 f) :
    Calls Tryd.prog 19 #[.iface 99 (.pointer (some (f k)))] w fun e w' => e = .returned (.int .i64 ((k : Int) + 1)) ∧ Chg (fun _ => False) w w' := by
  have h0 := hs 0 (by omega)
  have h1 := hs 1 (by omega)
  have h2 := hs 2 (by omega)
  have h3 := hs 3 (by omega)
  have hrow : ∀ i, i < 4 → (w.alloc (.cells #[.iface 99 (.pointer (some (f 0))), .iface 99 (.pointer (some (f 1))), .iface 99 (.pointer (some (f 2))), .iface 99 (.pointer (some (f 3)))] 33)).cell? ⟨w.heap.size, i, none⟩ = some (.iface 99 (.pointer (some (f i)))) := fun i hi => ((Blk.new w 33 (regRow f)).cell i).trans (regRow_at f i hi)
  have HR := hid' hrow
  have HC := hid' (show Chg (fun _ => False) w (w.alloc (.cells #[.iface 99 (.pointer (some (f 0))), .iface 99 (.pointer (some (f 1))), .iface 99 (.pointer (some (f 2))), .iface 99 (.pointer (some (f 3)))] 33)) from (Chg.refl w).alloc _)
  have hap := hid' (show Apart17 (w.alloc (.cells #[.iface 99 (.pointer (some (f 0))), .iface 99 (.pointer (some (f 1))), .iface 99 (.pointer (some (f 2))), .iface 99 (.pointer (some (f 3)))] 33)) 4 f from ha.below (B := w.heap.size) ((Below.refl _ _).alloc (Nat.le_refl _) _) (Nat.le_refl _))
  clear hrow hs ha
  go_enter Tryd.func19, Tryd.ntmps19
  go_wp2_with fail
  go_loop [13] (fun s => ∃ i : Nat, i ≤ k ∧ s = .int .i64 i) (fun s => k - (intOf s).toNat)
  case atStart => exact ⟨0, by omega, rfl⟩
  case round =>
    obtain ⟨i, hi, rfl⟩ := hrel
    have hci := HR.out i (by omega)
    rcases Nat.lt_or_eq_of_le hi with hlt | heq
    · have he := eql_other hap.out k i hk (by omega) (by omega)
      go_wp2_with fail
      go_round
      case rel => exact ⟨i + 1, by omega, by go_num⟩
      case measure => simp [intOf]; omega
    · subst heq
      have he := eql_same (w := (w.alloc (.cells #[.iface 99 (.pointer (some (f 0))), .iface 99 (.pointer (some (f 1))), .iface 99 (.pointer (some (f 2))), .iface 99 (.pointer (some (f 3)))] 33))) (f i)
      go_wp2_with fail
      go_ret
      exact ⟨rfl, HC.out⟩

theorem plainRead_busy {B : Nat} {w : World} {br : Nat} {L : Lay} {σ : St} {f : Nat → Addr} (h : RegW B w br L σ) (hs : Sent w 4 f) (ha : Apart17 w 4 f) (hr : σ.rd = true) :
    Calls Tryd.prog 11 #[.pointer (some ⟨br, 0, none⟩)] w fun e w' => e = .returned (.int .i64 3) ∧ Chg (fun _ => False) w w' := by
  have c1 := hid' (readM_busy h hs hr)
  have c2 := hid' (number_err f 2 (by omega) w hs ha)
  clear h hs ha hr
  go_enter Tryd.func11, Tryd.ntmps11
  go_wp2_with (first | (go_at_call 20; refine c1.out.mono ?_; rintro e w' ⟨rfl, rfl⟩) | (go_at_call 19; refine c2.out.mono ?_; rintro e w1 ⟨rfl, hch⟩))
  go_ret
  exact ⟨rfl, hch⟩

/-- A register somewhere. -/
def RegOk (B : Nat) (w : World) (br : Nat) (σ : St) : Prop := ∃ L, RegW B w br L σ

theorem plainRead_ok {B : Nat} {w : World} {br : Nat} {L : Lay} {σ : St} (h : RegW B w br L σ) (hB : B ≤ w.heap.size) (hr : σ.rd = false) :
    Calls Tryd.prog 11 #[.pointer (some ⟨br, 0, none⟩)] w fun e w' => e = .returned (.int .i64 0) ∧ RegOk B w' br σ.read ∧ Chg (· = br) w w' := by
  have c1 := hid' (readM_ok h hB hr)
  clear h hB hr
  go_enter Tryd.func11, Tryd.ntmps11
  go_wp2_with (first | (go_at_call 20; refine c1.out.mono ?_; rintro e w1 ⟨rfl, hr, hch⟩) | (go_at_call 19; refine (number_nil _).mono ?_; rintro e w' ⟨rfl, rfl⟩))
  go_ret
  exact ⟨rfl, ⟨_, hr⟩, hch⟩

theorem plainStepW_idle {B : Nat} {w : World} {br : Nat} {L : Lay} {σ : St} {f : Nat → Addr} (h : RegW B w br L σ) (hs : Sent w 4 f) (ha : Apart17 w 4 f) (hr : σ.wr = false) :
    Calls Tryd.prog 14 #[.pointer (some ⟨br, 0, none⟩)] w fun e w' => e = .returned (.tuple #[.bool false, .int .i64 4]) ∧ Chg (fun _ => False) w w' := by
  have c1 := hid' (stepWM_idle h hs hr)
  have c2 := hid' (fun (w1 : World) (hc : Chg (fun _ => False) w w1) => number_err f 3 (by omega) w1 (hs.chg hc) (ha.chg hc))
  clear h hs ha hr
  go_enter Tryd.func14, Tryd.ntmps14
  go_wp2_with (first | (go_at_call 23; refine c1.out.mono ?_; rintro e w1 ⟨rfl, hch⟩) | (go_at_call 19; refine (c2.out _ hch).mono ?_; rintro e w2 ⟨rfl, hch2⟩))
  go_ret2
  exact ⟨rfl, hch.trans hch2⟩

theorem plainStepW_ok {B : Nat} {w : World} {br : Nat} {L : Lay} {σ : St} (h : RegW B w br L σ) (hr : σ.wr = true) :
    Calls Tryd.prog 14 #[.pointer (some ⟨br, 0, none⟩)] w fun e w' => e = .returned (.tuple #[.bool σ.overW, .int .i64 0]) ∧ RegOk B w' br σ.stepW ∧ Chg (fun k => k = br ∨ Own L σ.p k) w w' := by
  have c1 := hid' (stepWM_ok h hr)
  clear h hr
  go_enter Tryd.func14, Tryd.ntmps14
  go_wp2_with (first | (go_at_call 23; refine c1.out.mono ?_; rintro e w1 ⟨rfl, hr, hch⟩) | (go_at_call 19; refine (number_nil _).mono ?_; rintro e w' ⟨rfl, rfl⟩))
  go_ret2
  exact ⟨rfl, ⟨_, hr⟩, hch⟩

theorem append_nil_nil (ty : TypeId) (W : World) : (Builtin.append_ #[39, 39] ty #[.slice none 0 0, .slice none 0 0]).run Tryd.prog W = .ok (.slice none 0 0) W := by
  obtain ⟨i0, hi0, hz0, hz1, hz2⟩ := info_parts t_info38
  exact run_append_of_nil (P := Tryd.prog) W W.heap.size 39 ty 38 i0 1 Tryd.underlying39 hi0 (.slice none 0 0) 0 [] ⟨by simp, .inl ⟨rfl, rfl⟩⟩ 0
theorem clear_nil (ty : TypeId) (W : World) : (Builtin.clear_ #[39] ty #[.slice none 0 0]).run Tryd.prog W = .ok (.tuple #[]) W := by
  simp [Builtin.clear_, run_underlying Tryd.underlying39]

set_option maxRecDepth 20000 in
set_option maxHeartbeats 1000000 in
theorem plainStepR_idle {B : Nat} {w : World} {br : Nat} {L : Lay} {σ : St} {f : Nat → Addr} (h : RegW B w br L σ) (hs : Sent w 4 f) (ha : Apart17 w 4 f) (hr : σ.rd = false) :
    Calls Tryd.prog 12 #[.pointer (some ⟨br, 0, none⟩)] w fun e w' => e = .returned (.tuple #[.bool false, .slice none 0 0, .int .i64 4]) ∧ Chg (fun _ => False) w w' := by
  have c1 := hid' (stepRM_idle h hs hr)
  have c2 := hid' (fun (w1 : World) (hc : Chg (fun _ => False) w w1) => number_err f 3 (by omega) w1 (hs.chg hc) (ha.chg hc))
  have ap := append_nil_nil
  have cl := clear_nil
  clear h hs ha hr
  go_enter Tryd.func12, Tryd.ntmps12
  go_wp2_with (first | (go_at_call 21; refine c1.out.mono ?_; rintro e w1 ⟨rfl, hch⟩) | (go_at_call 19; refine (c2.out _ hch).mono ?_; rintro e w2 ⟨rfl, hch2⟩))
  go_ret3
  exact ⟨rfl, hch.trans hch2⟩

theorem Chg.setCells {S : Nat → Prop} {a : World} (b : Nat) (hb : S b ∨ a.heap.size ≤ b) : ∀ (vs : List Value) (o : Nat) (w : World), Chg S a w → Chg S a (w.setCells b o vs)
  | [], _, _, h => h
  | v :: vs, o, w, h => Chg.setCells b hb vs (o + 1) (w.setCell ⟨b, o, none⟩ v) (h.setCell hb v)

/-- 'clear' of a row that is known whole. -/
theorem clear_row {w : World} {b n c : Nat} {cur : Array Value} (hb : Blk w b 38 cur) (hn : 0 < n) (hc : n ≤ cur.size) (ty : TypeId) :
    (Builtin.clear_ #[39] ty #[.slice (some ⟨b, 0, none⟩) n c]).run Tryd.prog w = .ok (.tuple #[]) (w.setCells b 0 (List.replicate n (.int .u64 0))) :=
  Lib.run_clear_slice w 39 38 ty (.int .u64 0) Tryd.underlying39 (fun _ => by kernel_rfl) rfl rfl b 0 n c hn
    (fun j hj => by rw [Nat.zero_add, hb.cell, Array.getElem?_eq_getElem (by omega)]; rfl) (fun j _ => hb.frozen _)

theorem plainStepR_more {B : Nat} {w : World} {br : Nat} {L : Lay} {σ : St} (h : RegW B w br L σ) (hr : σ.rd = true) (ho : σ.overR = false) :
    Calls Tryd.prog 12 #[.pointer (some ⟨br, 0, none⟩)] w fun e w' => e = .returned (.tuple #[.bool false, .slice none 0 0, .int .i64 0]) ∧ RegOk B w' br σ.stepR ∧ Chg (fun k => k = br ∨ Own L σ.p k ∨ k = L.ob) w w' := by
  have c0 := stepRM_ok h hr
  rw [ho] at c0
  simp only [Bool.false_eq_true, if_false] at c0
  have c1 := hid' c0
  have ap := append_nil_nil
  have cl := clear_nil
  clear c0 h hr ho
  go_enter Tryd.func12, Tryd.ntmps12
  go_wp2_with (first | (go_at_call 21; refine c1.out.mono ?_; rintro e w1 ⟨rfl, hr, _, _, _, _, _, hch⟩) | (go_at_call 19; refine (number_nil _).mono ?_; rintro e w' ⟨rfl, rfl⟩))
  go_ret3
  exact ⟨rfl, ⟨_, hr⟩, hch⟩

/-- What StepRead of package plain leaves with the last step. -/
def ReadDone (B br : Nat) (L : Lay) (σ : St) (w : World) (e : Ending) (w' : World) : Prop :=
  ∃ g cap cur, e = .returned (.tuple #[.bool true, .slice (some ⟨g, 0, none⟩) σ.n cap, .int .i64 0]) ∧ w.heap.size ≤ g ∧ RowAt w' g σ.n σ.stepR.out cur ∧ RegOk B w' br σ.stepR ∧ Chg (fun k => k = br ∨ Own L σ.p k ∨ k = L.ob) w w'

theorem stepR_len {B : Nat} {w : World} {br : Nat} {L : Lay} {σ : St} (h : RegW B w br L σ) (hr : σ.rd = true) : σ.stepR.out.length = σ.n := by
  obtain ⟨o1, o2, o3, o4, o5, o6⟩ := h.out hr
  show (protR σ.n σ.rs σ.out σ.p).2.1.length = σ.n
  cases hq : σ.p with
  | four rows latest reading slot wp wq rp rq =>
    simp only [protR]
    (repeat' split) <;> simp [o3]
  | three rows front back mid fresh =>
    simp only [protR]
    (repeat' split) <;> simp [o3]
  | one word => simp [protR, o3]

set_option maxRecDepth 20000 in
set_option maxHeartbeats 1000000 in
theorem plainStepR_over {B : Nat} {w : World} {br : Nat} {L : Lay} {σ : St} (h : RegW B w br L σ) (hr : σ.rd = true) (ho : σ.overR = true) :
    Calls Tryd.prog 12 #[.pointer (some ⟨br, 0, none⟩)] w (ReadDone B br L σ w) := by
  obtain ⟨i0, hi0, hz0, hz1, hz2⟩ := info_parts t_info38
  have hob := (h.out hr).2.1.lt
  have hlen := hid' (stepR_len h hr)
  have hps := h.pos
  have hsm := h.small
  have c0 := stepRM_ok h hr
  rw [ho] at c0
  simp only [if_true] at c0
  have c1 := hid' c0
  have hrd : σ.stepR.rd = false := by simp [St.stepR]; exact ho
  have hpw : nrow σ.stepR.p = nrow σ.p := (nrow_R σ.n σ.rs σ.out σ.p).1
  have HP := hid' hpw
  have HD := hid' hrd
  have HW := hid' (show σ.stepR.wr = σ.wr from rfl)
  clear c0 h hr ho hrd hpw
  go_enter Tryd.func12, Tryd.ntmps12
  go_wp2_with (first
    | (go_at_call 21; refine c1.out.mono ?_; rintro e w1 ⟨rfl, hr', hb', n1, n2, n3, n4, hch'⟩; have hR := hid' hr'; have hb := hid' hb'; have hch := hid' hch'; have hsz := hch'.size; have hN := hid' (And.intro n1 (And.intro n2 n3)); have hrd1 := hid' ((RowAt.of_blk hb' hlen.out).reads (B := w1.heap.size) hb'.lt); clear hr' hb' hch' n1 n2 n3)
    | (at_builtin; refine wpList_append_any _ rfl (.const (.slice none 0 0)) (.tmp 15) _ rfl w1.heap.size 38 i0 _ 1 8 Tryd.underlying39 hi0 hz0 hz1 hz2 rfl (by omega) (.slice none 0 0) 0 [] rfl ⟨by simp, .inl ⟨rfl, rfl⟩⟩ w1.heap.size (some ⟨L.ob, 0, none⟩) σ.n σ.n (vals σ.stepR.out) rfl hrd1.out (vals_one _) (by simp only [maxLen]; omega) (by omega) (Nat.le_refl _) ?_; intro v1 w2 hown1 hg1 hat1; obtain ⟨g, cap, cur, hv, hgB, hrow'⟩ := own_row (by simpa using hown1) hps; rw [hv]; have hc2 := hid' (Chg.grown (S := fun _ => False) (Chg.refl _) hg1 (by simp [Value.ownBlock])); have hrow := hid' hrow'; have cl := clear_row (c := σ.n) (hc2.out.blk hb.out (fun h => h)) hps (by rw [u64s_size, hlen.out]; omega); clear hown1 hg1 hat1 hv hrow')
    | (go_at_call 19; refine (number_nil _).mono ?_; rintro e w' ⟨rfl, rfl⟩))
  go_ret3
  have hch2 : Chg (· = L.ob) w2 (w2.setCells L.ob 0 (List.replicate σ.n (Value.int IntKind.u64 0))) := Chg.setCells (S := (· = L.ob)) L.ob (.inl rfl) _ 0 w2 (Chg.refl _)
  have hreg2 := hR.out.keep hc2.out (fun _ _ h => h)
  have hreg3 := hreg2.keep hch2 (fun k hk e => by
    subst e
    rcases hk with e | e | ⟨e1, e2⟩ | ⟨e1, e2⟩
    · exact hN.out.2.1 e
    · exact hN.out.1 ((own_of HP.out _).1 e)
    · exact hN.out.2.2 (HW.out ▸ e1) e2
    · rw [HD.out] at e1; cases e1)
  exact ⟨g, cap, cur, rfl, Nat.le_trans hsz hgB, hrow.out.keep hch2 (by omega), ⟨_, hreg3⟩, (hch.out.trans (hc2.out.mono fun _ _ h => h.elim)).trans (hch2.mono fun k _ hk => .inr (.inr hk))⟩
end Go.Proofs.YtbdccfgeildebaaDoor
