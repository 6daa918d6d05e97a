/-
  StepWrite and StepRead of a register, as the plain machine's steps. Conditions: the register's blocks are there; the listed sentinels hold pointers.
-/
import Derived.Test.YtbdccfgeildebaaDoorSteps
namespace Go.Proofs.YtbdccfgeildebaaDoor
open Go.RowKit Mem Abs

/-- StepWrite, while nobody writes. -/
theorem stepWM_idle {B : Nat} {w : World} {br : Nat} {L : Lay} {σ : St} {f : Nat → Addr} (h : RegW B w br L σ) (hs : Sent w 4 f) (hr : σ.wr = false) :
    Calls Tryd.prog 23 #[.pointer (some ⟨br, 0, none⟩)] w fun e w' => e = .returned (.tuple #[.bool false, .iface 99 (.pointer (some (f 3)))]) ∧ Chg (fun _ => False) w w' := by
  have h6 : w.cell? ⟨br, 6, none⟩ = some (.bool false) := by rw [h.reg.cell]; simp [regCells, hr]
  have g3 := hs 3 (by omega)
  clear h hs hr
  go_enter Tryd.func23, Tryd.ntmps23
  go_wp2_with fail
  go_quiet (fail)
  go_wp2_with fail
  go_ret2
  exact ⟨rfl, (Chg.refl w).drewN _⟩

/-- StepRead, while nobody reads. -/
theorem stepRM_idle {B : Nat} {w : World} {br : Nat} {L : Lay} {σ : St} {f : Nat → Addr} (h : RegW B w br L σ) (hs : Sent w 4 f) (hr : σ.rd = false) :
    Calls Tryd.prog 21 #[.pointer (some ⟨br, 0, none⟩)] w fun e w' => e = .returned (.tuple #[.bool false, .slice none 0 0, .iface 99 (.pointer (some (f 3)))]) ∧ Chg (fun _ => False) w w' := by
  have h7 : w.cell? ⟨br, 7, none⟩ = some (.bool false) := by rw [h.reg.cell]; simp [regCells, hr]
  have g3 := hs 3 (by omega)
  clear h hs hr
  go_enter Tryd.func21, Tryd.ntmps21
  go_wp2_with fail
  go_quiet (fail)
  go_wp2_with fail
  go_ret3
  exact ⟨rfl, (Chg.refl w).drewN _⟩

theorem nrow_W (n ws : Nat) (pay : List Nat) (p : Prot) : nrow (protW n ws pay p).1 = nrow p ∧ ptrTy (protW n ws pay p).1 = ptrTy p ∧ wmax n (protW n ws pay p).1 = wmax n p ∧ rmax n (protW n ws pay p).1 = rmax n p := by
  cases p with
  | four rows latest reading slot wp wq rp rq => simp only [protW]; (repeat' split) <;> exact ⟨rfl, rfl, rfl, rfl⟩
  | three rows front back mid fresh => simp only [protW]; split <;> exact ⟨rfl, rfl, rfl, rfl⟩
  | one word => exact ⟨rfl, rfl, rfl, rfl⟩
theorem nrow_R (n rs : Nat) (out : List Nat) (p : Prot) : nrow (protR n rs out p).1 = nrow p ∧ ptrTy (protR n rs out p).1 = ptrTy p ∧ wmax n (protR n rs out p).1 = wmax n p ∧ rmax n (protR n rs out p).1 = rmax n p := by
  cases p with
  | four rows latest reading slot wp wq rp rq => simp only [protR]; (repeat' split) <;> exact ⟨rfl, rfl, rfl, rfl⟩
  | three rows front back mid fresh => simp only [protR]; (repeat' split) <;> exact ⟨rfl, rfl, rfl, rfl⟩
  | one word => exact ⟨rfl, rfl, rfl, rfl⟩

theorem own_of {L : Lay} {p p' : Prot} (h : nrow p' = nrow p) (k : Nat) : Own L p' k ↔ Own L p k := by
  unfold Own
  rw [h]

/-- The step's count stays in bounds. -/
theorem wmax_step {n ws : Nat} {pay : List Nat} {p : Prot} (h : ws ≤ wmax n p) (ho : (protW n ws pay p).2 = false) : ws + 1 ≤ wmax n p := by
  cases p with
  | four rows latest reading slot wp wq rp rq =>
    simp only [wmax] at h ⊢
    by_cases e : ws = n + 3
    · subst e; simp [protW] at ho
    · omega
  | three rows front back mid fresh =>
    simp only [wmax] at h ⊢
    by_cases e : ws = n
    · subst e; simp [protW] at ho
    · omega
  | one word => simp [protW] at ho
theorem rmax_step {n rs : Nat} {out : List Nat} {p : Prot} (h0 : 0 < n) (h : rs ≤ rmax n p) (ho : (protR n rs out p).2.2 = false) : rs + 1 ≤ rmax n p := by
  cases p with
  | four rows latest reading slot wp wq rp rq =>
    simp only [rmax] at h ⊢
    by_cases e : rs = n + 2
    · subst e
      have h2 : ¬ n = 0 := by omega
      simp [protR, h2] at ho
      omega
    · omega
  | three rows front back mid fresh =>
    simp only [rmax] at h ⊢
    by_cases e : rs = n
    · subst e
      have h2 : ¬ rs = 0 := by omega
      simp [protR, h2] at ho
    · omega
  | one word => simp [protR] at ho

theorem wmax_small (n : Nat) (p : Prot) (hn : n ≤ 4096) : wmax n p ≤ 4200 := by cases p <;> simp [wmax] <;> omega
theorem rmax_small (n : Nat) (p : Prot) (hn : n ≤ 4096) : rmax n p ≤ 4200 := by cases p <;> simp [rmax] <;> omega

/-- StepWrite, of whatever kind. -/
theorem stepWM_ok {B : Nat} {w : World} {br : Nat} {L : Lay} {σ : St} (h : RegW B w br L σ) (hr : σ.wr = true) :
    Calls Tryd.prog 23 #[.pointer (some ⟨br, 0, none⟩)] w fun e w' => e = .returned (.tuple #[.bool σ.overW, .nilIface]) ∧ RegW B w' br L σ.stepW ∧ Chg (fun k => k = br ∨ Own L σ.p k) w w' := by
  obtain ⟨⟨cp, hpv⟩, hpay, hpbr, hpbl, hpB⟩ := h.pay hr
  have hd := h.drew
  have hC := protW_calls (cp := cp) hd.prot hd.sep (hd.pay hr).2.1 h.pos h.small (h.wle hr)
  rw [← hpv] at hC
  have hn := h.prot.notBr h.reg
  have hws : σ.ws ≤ 4200 := Nat.le_trans (h.wle hr) (wmax_small _ _ h.small)
  have hreg := h.reg
  have key : Calls Tryd.prog 23 #[.pointer (some ⟨br, 0, none⟩)] w (StepWPost br σ.ws σ.overW (fun w' => ProtW w' L σ.n (protW σ.n σ.ws σ.pay σ.p).1) (Own L σ.p) w) := by
    unfold regCells at hreg
    rw [hr] at hreg
    unfold St.overW
    revert hC hreg hn
    cases σ.p with
    | four rows latest reading slot wp wq rp rq => exact fun hC hn hreg => stepW_core66 hreg hn hws hC
    | three rows front back mid fresh => exact fun hC hn hreg => stepW_core76 hreg hn hws hC
    | one word => exact fun hC hn hreg => stepW_core84 hreg hn hws hC
  refine key.mono ?_
  rintro e w' ⟨he, w1, hp1, hc1, rfl⟩
  obtain ⟨hnr, hpt, hwm, hrm⟩ := nrow_W σ.n σ.ws σ.pay σ.p
  have hcc : Chg (fun k => k = br ∨ Own L σ.p k) w ((w1.setCell ⟨br, 4, none⟩ (.int .i64 ((σ.ws : Int) + 1))).setCell ⟨br, 6, none⟩ (.bool (!σ.overW))) :=
    ((hc1.mono fun k _ hk => .inr hk).setCell (.inl (.inl rfl)) _).setCell (.inl (.inl rfl)) _
  have hc2 : Chg (· = br) w1 ((w1.setCell ⟨br, 4, none⟩ (.int .i64 ((σ.ws : Int) + 1))).setCell ⟨br, 6, none⟩ (.bool (!σ.overW))) :=
    Chg.setCell (S := (· = br)) (Chg.setCell (S := (· = br)) (Chg.refl _) (.inl rfl) _) (.inl rfl) _
  have hr1 := hc1.blk h.reg hn
  have hp2 := hp1.keep hc2 (fun k hk e => hn ((own_of hnr br).1 (by subst e; exact hk)))
  refine ⟨he, ⟨?_, hp2, fun i j hi hj => h.sep i j (by rwa [← hnr]) (by rwa [← hnr]), fun hw => ?_, fun hrd => ?_, h.lowr, fun k hk => h.low k ((own_of hnr k).1 hk), h.pos, h.small, fun hw => ?_, fun hrd => ?_⟩, hcc⟩
  · have := (hr1.set_ 4 (.int .i64 ((σ.ws : Int) + 1))).set_ 6 (.bool (!σ.overW))
    have e : regCells L σ.stepW = ((regCells L σ).setIfInBounds 4 (.int .i64 ((σ.ws : Int) + 1))).setIfInBounds 6 (.bool (!σ.overW)) := by
      simp [regCells, St.stepW, St.overW, hpt]
    rw [e]
    exact this
  · have hk := hpay.keep hcc hpbl (fun e => e.elim hpbr hpay.far)
    exact ⟨⟨cp, hpv⟩, ⟨hk.len, hk.cell, fun hk => hpay.far ((own_of hnr _).1 hk)⟩, hpbr, Nat.lt_of_lt_of_le hpbl hcc.size, hpB⟩
  · obtain ⟨o1, o2, o3, o4, o5, o6⟩ := h.out hrd
    exact ⟨o1, hcc.blk o2 (fun e => e.elim (fun e => Blk.ne_ o2 h.reg (by decide) e) o4), o3, fun hk => o4 ((own_of hnr _).1 hk), o5, fun _ => o6 hr⟩
  · have hov : (protW σ.n σ.ws σ.pay σ.p).2 = false := by simpa [St.stepW] using hw
    show σ.ws + 1 ≤ wmax σ.n (protW σ.n σ.ws σ.pay σ.p).1
    rw [hwm]
    exact wmax_step (h.wle hr) hov
  · show σ.rs ≤ rmax σ.n (protW σ.n σ.ws σ.pay σ.p).1
    rw [hrm]
    exact h.rle hrd

/-- StepRead, of whatever kind. -/
theorem stepRM_ok {B : Nat} {w : World} {br : Nat} {L : Lay} {σ : St} (h : RegW B w br L σ) (hr : σ.rd = true) :
    Calls Tryd.prog 21 #[.pointer (some ⟨br, 0, none⟩)] w fun e w' =>
      e = .returned (if σ.overR then .tuple #[.bool true, slc L.ob σ.n, .nilIface] else .tuple #[.bool false, .slice none 0 0, .nilIface]) ∧
      RegW B w' br L σ.stepR ∧ Blk w' L.ob 38 (u64s σ.stepR.out) ∧ ¬ Own L σ.p L.ob ∧ L.ob ≠ br ∧ (σ.wr = true → L.ob ≠ L.pb) ∧ B ≤ L.ob ∧ Chg (fun k => k = br ∨ Own L σ.p k ∨ k = L.ob) w w' := by
  obtain ⟨o1, o2, o3, o4, o5, o6⟩ := h.out hr
  have hd := h.drew
  have hC := protR_calls (co := σ.n) hd.prot (hd.out hr).2.1 o3 o4 h.pos h.small (h.rle hr)
  have hn := h.prot.notBr h.reg
  have hbo : L.ob ≠ br := Blk.ne_ o2 h.reg (by decide)
  have hrs : σ.rs ≤ 4200 := Nat.le_trans (h.rle hr) (rmax_small _ _ h.small)
  have hreg := h.reg
  have key : Calls Tryd.prog 21 #[.pointer (some ⟨br, 0, none⟩)] w (StepRPost br L.ob σ.n σ.n σ.rs σ.overR (fun w' => ProtW w' L σ.n (protR σ.n σ.rs σ.out σ.p).1 ∧ Blk w' L.ob 38 (u64s (protR σ.n σ.rs σ.out σ.p).2.1)) (fun k => Own L σ.p k ∨ k = L.ob) w) := by
    have hn' : ¬ (Own L σ.p br ∨ br = L.ob) := fun e => e.elim hn fun e => hbo e.symm
    unfold regCells at hreg
    rw [hr, o1] at hreg
    have hC' := hC.mono (R' := fun e w' => e = .returned (.bool (protR σ.n σ.rs σ.out σ.p).2.2) ∧ (ProtW w' L σ.n (protR σ.n σ.rs σ.out σ.p).1 ∧ Blk w' L.ob 38 (u64s (protR σ.n σ.rs σ.out σ.p).2.1)) ∧ Chg (fun k => Own L σ.p k ∨ k = L.ob) w.drew w') (fun e w' ⟨a, b, c, d⟩ => ⟨a, ⟨b, c⟩, d⟩)
    unfold St.overR
    revert hC' hreg hn'
    cases σ.p with
    | four rows latest reading slot wp wq rp rq => exact fun hreg hn' hC => stepR_core66 hreg hn' hrs hC
    | three rows front back mid fresh => exact fun hreg hn' hC => stepR_core76 hreg hn' hrs hC
    | one word => exact fun hreg hn' hC => stepR_core84 hreg hn' hrs hC
  refine key.mono ?_
  rintro e w' ⟨he, w1, k, ⟨hp1, hb1⟩, hc1, hw'⟩
  obtain ⟨hnr, hpt, hwm, hrm⟩ := nrow_R σ.n σ.rs σ.out σ.p
  have hr1 := hc1.blk h.reg (fun e => e.elim hn fun e => hbo e.symm)
  obtain ⟨hc2, hreg2⟩ : Chg (· = br) w1 w' ∧ Blk w' br 65 (regCells L σ.stepR) := by
    have e : regCells L σ.stepR = ((regCells L σ).setIfInBounds 5 (.int .i64 ((σ.rs : Int) + 1))).setIfInBounds 7 (.bool (!σ.overR)) := by
      simp [regCells, St.stepR, St.overR, hpt]
    rw [e]
    cases hov : σ.overR with
    | true =>
      rw [hov] at hw'
      simp only [if_true] at hw'
      rw [hw']
      exact ⟨(Chg.setCell (S := (· = br)) (Chg.setCell (S := (· = br)) (Chg.refl _) (.inl rfl) _) (.inl rfl) _).drewN k, ((hr1.set_ 5 _).set_ 7 _).drewN k⟩
    | false =>
      rw [hov] at hw'
      simp only [Bool.false_eq_true, if_false] at hw'
      rw [hw']
      refine ⟨(Chg.setCell (S := (· = br)) (Chg.refl _) (.inl rfl) _).drewN k, ?_⟩
      have := (hr1.set_ 5 (.int .i64 ((σ.rs : Int) + 1))).drewN k
      have e2 : ((regCells L σ).setIfInBounds 5 (.int .i64 ((σ.rs : Int) + 1))).setIfInBounds 7 (.bool (!false)) = (regCells L σ).setIfInBounds 5 (.int .i64 ((σ.rs : Int) + 1)) := by
        simp [regCells, hr]
      rw [e2]
      exact this
  have hcc : Chg (fun k => k = br ∨ Own L σ.p k ∨ k = L.ob) w w' := (hc1.mono fun k _ hk => .inr hk).trans (hc2.mono fun k _ hk => .inl hk)
  have hp2 := hp1.keep hc2 (fun k hk e => hn ((own_of hnr br).1 (by subst e; exact hk)))
  have hb2 := hc2.blk hb1 hbo
  refine ⟨he, ⟨hreg2, hp2, fun i j hi hj => h.sep i j (by rwa [← hnr]) (by rwa [← hnr]), fun hw => ?_, fun hrd => ?_, h.lowr, fun k hk => h.low k ((own_of hnr k).1 hk), h.pos, h.small, fun hw => ?_, fun hrd => ?_⟩, hb2, o4, hbo, o6, o5, hcc⟩
  · obtain ⟨p1, p2, p3, p4, p5⟩ := h.pay hw
    have hk := p2.keep hcc p4 (fun e => e.elim p3 fun e => e.elim p2.far fun e => o6 hw e.symm)
    exact ⟨p1, ⟨hk.len, hk.cell, fun hk => p2.far ((own_of hnr _).1 hk)⟩, p3, Nat.lt_of_lt_of_le p4 hcc.size, p5⟩
  · refine ⟨o1, hb2, ?_, fun hk => o4 ((own_of hnr _).1 hk), o5, o6⟩
    show (protR σ.n σ.rs σ.out σ.p).2.1.length = σ.n
    cases hq : σ.p with
    | four rows latest reading slot wp wq rp rq =>
      simp only [protR]
      (repeat' split) <;> simp [o3]
    | three rows front back mid fresh =>
      simp only [protR]
      (repeat' split) <;> simp [o3]
    | one word => simp [protR, o3]
  · show σ.ws ≤ wmax σ.n (protR σ.n σ.rs σ.out σ.p).1
    rw [hwm]
    exact h.wle hw
  · have hov : (protR σ.n σ.rs σ.out σ.p).2.2 = false := by simpa [St.stepR] using hrd
    show σ.rs + 1 ≤ rmax σ.n (protR σ.n σ.rs σ.out σ.p).1
    rw [hrm]
    exact rmax_step h.pos (h.rle hr) hov
end Go.Proofs.YtbdccfgeildebaaDoor
