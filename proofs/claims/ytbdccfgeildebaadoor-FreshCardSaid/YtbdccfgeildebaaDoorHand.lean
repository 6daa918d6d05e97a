/-
  Hands.hand: each kind of step. Conditions: the blocks are there; the plain machine's invariant; fewer than 2^42 writings.
-/
import Derived.Test.YtbdccfgeildebaaDoorHands
namespace Go.Proofs.YtbdccfgeildebaaDoor
open Go.RowKit Mem Abs

/-- What a step of a script leaves. -/
def HandPost (w0 : World) (bh br n : Nat) (h : Hs) (e : Ending) (w' : World) : Prop :=
  e = .returned (.tuple #[]) ∧ ∃ σ' h', HWs w0 bh br n σ' h' w' ∧ h'.begun ≤ h.begun + 1

/-- A store into the hands behind a call of the register. -/
theorem hands_set {w0 w w2 w3 : World} {bh br n : Nat} {σ σ' : St} {h h' : Hs} {L' : Lay} (hw : HWs w0 bh br n σ h w) (hc : Chg (fun k => bh + 1 ≤ k) w w2) (hr : RegW (bh + 1) w2 br L' σ') (hb : Blk w3 bh 28 (handCells n h')) (hc3 : Chg (· = bh) w2 w3)
    (hi : Inv σ' h') (hn : σ'.n = σ.n) : HWs w0 bh br n σ' h' w3 := by
  refine ⟨hb, ⟨L', hr.keep hc3 fun k hk e => ?_⟩, hi, hn.trans hw.nn, ?_, ?_⟩
  · subst e
    rcases hk with e | e | ⟨e1, e2⟩ | ⟨e1, e2⟩
    · have := hr.lowr; omega
    · have := hr.low _ e; omega
    · have := (hr.pay e1).2.2.2.2; omega
    · have := (hr.out e1).2.2.2.2.1; omega
  · have h1 := hw.size
    have h2 := hc.size
    exact (hw.low.trans (hc.below (B := bh) (by omega) fun k hk => by omega)).trans (hc3.below (B := bh) (by omega) fun k hk => by omega)
  · have h1 := hw.size
    have h2 := hc.size
    have h3 := hc3.size
    omega

set_option maxRecDepth 20000 in
set_option maxHeartbeats 2000000 in
theorem hand_write_busy {f : Nat → Addr} {w0 w : World} {bh br n : Nat} {σ : St} {h : Hs} (va vb vc vs vl vu : Value) (hB : Base f w0 bh) (hw : HWs w0 bh br n σ h w) (hr : σ.wr = true) (hbd : h.begun < 4398046511104) :
    Calls Tryd.prog 17 #[.pointer (some ⟨bh, 0, none⟩), .pointer (some ⟨br, 0, none⟩), .agg #[.int .i64 14, va, vb, vc, vs, vl, vu]] w (HandPost w0 bh br n h) := by
  have HA := hid' (hw.alloc (.cells #[.int .i64 14, va, vb, vc, vs, vl, vu] 48))
  obtain ⟨L, hreg⟩ := HA.out.reg
  have HReg := hid' hreg
  have hnn := HA.out.nn
  have hpos := hreg.pos
  have hsm := hreg.small
  have k0 : (w.alloc (.cells #[.int .i64 14, va, vb, vc, vs, vl, vu] 48)).cell? ⟨bh, 0, none⟩ = some (.int .i64 (n : Int)) := HA.out.hands.cell 0
  have k1 : (w.alloc (.cells #[.int .i64 14, va, vb, vc, vs, vl, vu] 48)).cell? ⟨bh, 1, none⟩ = some (.int .i64 (h.begun : Int)) := HA.out.hands.cell 1
  have PC := hid' (payload_calls bh (h.begun + 1) n (w.alloc (.cells #[.int .i64 14, va, vb, vc, vs, vl, vu] 48)) k0 (by omega) (by omega) (by omega))
  have ek : ((h.begun + 1 : Nat) : Int) = (h.begun : Int) + 1 := by omega
  rw [ek] at PC
  have LB := hid' HA.out.low
  have HSZ := hid' (show bh ≤ (w.alloc (.cells #[.int .i64 14, va, vb, vc, vs, vl, vu] 48)).heap.size by have := HA.out.size; omega)
  have HSB := hid' (show bh + 1 ≤ (w.alloc (.cells #[.int .i64 14, va, vb, vc, vs, vl, vu] 48)).heap.size from HA.out.size)
  have HBB := hid' hB
  have HRR := hid' hr
  obtain rfl := hnn
  clear hw hB hreg hr ek
  go_enter Tryd.func17, Tryd.ntmps17
  go_wp2_with (first
    | (go_at_call 16; refine PC.out.mono ?_; rintro e w1 ⟨g2, cap2, cur2, rfl, hg2', hr2', hch'⟩; have hg2 := hid' hg2'; have hr2 := hid' hr2'; have hch := hid' hch'; have HR1 := hid' (HReg.out.keep hch' (fun _ _ h => h)); have LB1 := hid' (LB.out.trans (hch'.below (B := bh) HSZ.out (fun _ h => h.elim))); clear hg2' hr2' hch')
    | (go_at_call 13; refine (plainWrite_busy HR1.out (HBB.out.sent' LB1.out) (HBB.out.apart' LB1.out) HRR.out hr2.out).mono ?_; rintro e w2 ⟨rfl, hch2'⟩; have hch2 := hid' hch2'; clear hch2'))
  go_end0
  have hcc : Chg (fun _ => False) (w.alloc (.cells #[.int .i64 14, va, vb, vc, vs, vl, vu] 48)) w2 := hch.out.trans hch2.out
  exact ⟨rfl, σ, h, HA.out.turn (hcc.mono fun _ _ h => h.elim) ⟨L, HReg.out.keep hcc fun _ _ h => h⟩ rfl HA.out.inv rfl, Nat.le_succ _⟩

set_option maxRecDepth 20000 in
set_option maxHeartbeats 2000000 in
theorem hand_write_ok {f : Nat → Addr} {w0 w : World} {bh br n : Nat} {σ : St} {h : Hs} (va vb vc vs vl vu : Value) (hB : Base f w0 bh) (hw : HWs w0 bh br n σ h w) (hr : σ.wr = false) (hbd : h.begun < 4398046511104) :
    Calls Tryd.prog 17 #[.pointer (some ⟨bh, 0, none⟩), .pointer (some ⟨br, 0, none⟩), .agg #[.int .i64 14, va, vb, vc, vs, vl, vu]] w (HandPost w0 bh br n h) := by
  have HA := hid' (hw.alloc (.cells #[.int .i64 14, va, vb, vc, vs, vl, vu] 48))
  obtain ⟨L, hreg⟩ := HA.out.reg
  have HReg := hid' hreg
  have hnn := HA.out.nn
  have hpos := hreg.pos
  have hsm := hreg.small
  have k0 : (w.alloc (.cells #[.int .i64 14, va, vb, vc, vs, vl, vu] 48)).cell? ⟨bh, 0, none⟩ = some (.int .i64 (n : Int)) := HA.out.hands.cell 0
  have k1 : (w.alloc (.cells #[.int .i64 14, va, vb, vc, vs, vl, vu] 48)).cell? ⟨bh, 1, none⟩ = some (.int .i64 (h.begun : Int)) := HA.out.hands.cell 1
  have PC := hid' (payload_calls bh (h.begun + 1) n (w.alloc (.cells #[.int .i64 14, va, vb, vc, vs, vl, vu] 48)) k0 (by omega) (by omega) (by omega))
  have ek : ((h.begun + 1 : Nat) : Int) = (h.begun : Int) + 1 := by omega
  rw [ek] at PC
  have LB := hid' HA.out.low
  have HSZ := hid' (show bh ≤ (w.alloc (.cells #[.int .i64 14, va, vb, vc, vs, vl, vu] 48)).heap.size by have := HA.out.size; omega)
  have HSB := hid' (show bh + 1 ≤ (w.alloc (.cells #[.int .i64 14, va, vb, vc, vs, vl, vu] 48)).heap.size from HA.out.size)
  have HBB := hid' hB
  have HRR := hid' hr
  obtain rfl := hnn
  clear hw hB hreg hr ek
  go_enter Tryd.func17, Tryd.ntmps17
  go_wp2_with (first
    | (go_at_call 16; refine PC.out.mono ?_; rintro e w1 ⟨g2, cap2, cur2, rfl, hg2', hr2', hch'⟩; have hg2 := hid' hg2'; have hr2 := hid' hr2'; have hch := hid' hch'; have HR1 := hid' (HReg.out.keep hch' (fun _ _ h => h)); have LB1 := hid' (LB.out.trans (hch'.below (B := bh) HSZ.out (fun _ h => h.elim))); clear hg2' hr2' hch')
    | (go_at_call 13; refine (plainWrite_ok HR1.out (Nat.le_trans HSB.out hch.out.size) HRR.out hr2.out).mono ?_; rintro e w2 ⟨rfl, hr3', hch2'⟩; have hr3 := hid' hr3'; have hch2 := hid' hch2'; have hb2 := hid' (hch2'.blk (hch.out.blk HA.out.hands (fun h => h)) (by have := HReg.out.lowr; omega)); have q1 : w2.cell? ⟨bh, 1, none⟩ = some (.int .i64 (h.begun : Int)) := hb2.out.cell 1; have f1 := hb2.out.frozen 1; clear hr3' hch2'))
  go_end0
  have hlow := HReg.out.lowr
  have hcc : Chg (fun k => bh + 1 ≤ k) (w.alloc (.cells #[.int .i64 14, va, vb, vc, vs, vl, vu] 48)) w2 := (hch.out.mono fun _ _ h => h.elim).trans (hch2.out.mono fun k _ e => by rw [e]; exact hlow)
  obtain ⟨L', hr4⟩ := hr3.out
  have hi := HA.out.inv.write HRR.out
  have hb3 : Blk (w2.setCell ⟨bh, 1, none⟩ (.int .i64 ((h.begun : Int) + 1))) bh 28 (handCells σ.n { h with begun := h.begun + 1 }) := hb2.out.set_ 1 _
  have hc3 : Chg (· = bh) w2 (w2.setCell ⟨bh, 1, none⟩ (.int .i64 ((h.begun : Int) + 1))) := Chg.setCell (S := (· = bh)) (Chg.refl w2) (.inl rfl) _
  refine ⟨rfl, _, { h with begun := h.begun + 1 }, ⟨hb3, ⟨L', hr4.keep hc3 fun k hk e => ?_⟩, hi, rfl, ?_, ?_⟩, Nat.le_refl _⟩
  · subst e
    rcases hk with e | e | ⟨e1, e2⟩ | ⟨e1, e2⟩
    · omega
    · have := hr4.low _ e; omega
    · have := (hr4.pay e1).2.2.2.2; omega
    · have := (hr4.out e1).2.2.2.2.1; omega
  · exact (LB.out.trans (hcc.below HSZ.out fun k hk => by omega)).setCell (Nat.le_refl _) _
  · have := hcc.size
    have := HSB.out
    simp [World.setCell]
    omega

set_option maxRecDepth 20000 in
set_option maxHeartbeats 2000000 in
theorem hand_stepW_idle {f : Nat → Addr} {w0 w : World} {bh br n : Nat} {σ : St} {h : Hs} (va vb vc vs vl vu : Value) (hB : Base f w0 bh) (hw : HWs w0 bh br n σ h w) (hr : σ.wr = false) :
    Calls Tryd.prog 17 #[.pointer (some ⟨bh, 0, none⟩), .pointer (some ⟨br, 0, none⟩), .agg #[.int .i64 15, va, vb, vc, vs, vl, vu]] w (HandPost w0 bh br n h) := by
  have HA := hid' (hw.alloc (.cells #[.int .i64 15, va, vb, vc, vs, vl, vu] 48))
  obtain ⟨L, hreg⟩ := HA.out.reg
  have HReg := hid' hreg
  have HC := hid' (plainStepW_idle hreg (hB.sent' HA.out.low) (hB.apart' HA.out.low) hr)
  clear hw hB hreg hr
  go_enter Tryd.func17, Tryd.ntmps17
  go_wp2_with (first | (go_at_call 14; refine HC.out.mono ?_; rintro e w2 ⟨rfl, hch2'⟩; have hch2 := hid' hch2'; clear hch2'))
  go_end0
  exact ⟨rfl, σ, h, HA.out.turn (hch2.out.mono fun _ _ h => h.elim) ⟨L, HReg.out.keep hch2.out fun _ _ h => h⟩ rfl HA.out.inv rfl, Nat.le_succ _⟩

set_option maxRecDepth 20000 in
set_option maxHeartbeats 2000000 in
theorem hand_stepW_false {w0 w : World} {bh br n : Nat} {σ : St} {h : Hs} (va vb vc vs vl vu : Value) (hw : HWs w0 bh br n σ h w) (hr : σ.wr = true) (hov : σ.overW = false) :
    Calls Tryd.prog 17 #[.pointer (some ⟨bh, 0, none⟩), .pointer (some ⟨br, 0, none⟩), .agg #[.int .i64 15, va, vb, vc, vs, vl, vu]] w (HandPost w0 bh br n h) := by
  have HA := hid' (hw.alloc (.cells #[.int .i64 15, va, vb, vc, vs, vl, vu] 48))
  obtain ⟨L, hreg⟩ := HA.out.reg
  have HReg := hid' hreg
  have hC0 := plainStepW_ok hreg hr
  rw [hov] at hC0
  have HC := hid' hC0
  have hi := HA.out.inv.stepW hr
  rw [hov] at hi
  have HI := hid' hi
  have HL := hid' (show ∀ k, (k = br ∨ Own L σ.p k) → bh + 1 ≤ k from fun k hk => hk.elim (fun e => by rw [e]; exact hreg.lowr) (hreg.low k))
  clear hw hreg hr hC0 hi hov
  go_enter Tryd.func17, Tryd.ntmps17
  go_wp2_with (first | (go_at_call 14; refine HC.out.mono ?_; rintro e w2 ⟨rfl, hr2', hch2'⟩; have hr2 := hid' hr2'; have hch2 := hid' (hch2'.mono fun k _ hk => HL.out k hk); have hb2 := hid' (hch2.out.blk HA.out.hands (by omega)); have q1 : w2.cell? ⟨bh, 1, none⟩ = some (.int .i64 (h.begun : Int)) := hb2.out.cell 1; have q2 : w2.cell? ⟨bh, 2, none⟩ = some (.int .i64 (h.ended : Int)) := hb2.out.cell 2; have f2 := hb2.out.frozen 2; clear hr2' hch2'))
  go_end0
  have ht := HA.out.turn (h' := h) hch2.out hr2.out rfl (by simpa using HI.out) rfl
  exact ⟨rfl, _, h, ht, Nat.le_succ _⟩

set_option maxRecDepth 20000 in
set_option maxHeartbeats 2000000 in
theorem hand_stepW_true {w0 w : World} {bh br n : Nat} {σ : St} {h : Hs} (va vb vc vs vl vu : Value) (hw : HWs w0 bh br n σ h w) (hr : σ.wr = true) (hov : σ.overW = true) :
    Calls Tryd.prog 17 #[.pointer (some ⟨bh, 0, none⟩), .pointer (some ⟨br, 0, none⟩), .agg #[.int .i64 15, va, vb, vc, vs, vl, vu]] w (HandPost w0 bh br n h) := by
  have HA := hid' (hw.alloc (.cells #[.int .i64 15, va, vb, vc, vs, vl, vu] 48))
  obtain ⟨L, hreg⟩ := HA.out.reg
  have HReg := hid' hreg
  have hC0 := plainStepW_ok hreg hr
  rw [hov] at hC0
  have HC := hid' hC0
  have hi := HA.out.inv.stepW hr
  rw [hov] at hi
  have HI := hid' hi
  have HL := hid' (show ∀ k, (k = br ∨ Own L σ.p k) → bh + 1 ≤ k from fun k hk => hk.elim (fun e => by rw [e]; exact hreg.lowr) (hreg.low k))
  clear hw hreg hr hC0 hi hov
  go_enter Tryd.func17, Tryd.ntmps17
  go_wp2_with (first | (go_at_call 14; refine HC.out.mono ?_; rintro e w2 ⟨rfl, hr2', hch2'⟩; have hr2 := hid' hr2'; have hch2 := hid' (hch2'.mono fun k _ hk => HL.out k hk); have hb2 := hid' (hch2.out.blk HA.out.hands (by omega)); have q1 : w2.cell? ⟨bh, 1, none⟩ = some (.int .i64 (h.begun : Int)) := hb2.out.cell 1; have q2 : w2.cell? ⟨bh, 2, none⟩ = some (.int .i64 (h.ended : Int)) := hb2.out.cell 2; have f2 := hb2.out.frozen 2; clear hr2' hch2'))
  go_end0
  have hi2 : Inv σ.stepW { h with ended := h.begun } := by simpa using HI.out
  obtain ⟨L', hr4⟩ := hr2.out
  have hb3 : Blk (w2.setCell ⟨bh, 2, none⟩ (.int .i64 (h.begun : Int))) bh 28 (handCells n { h with ended := h.begun }) := hb2.out.set_ 2 _
  have hc3 : Chg (· = bh) w2 (w2.setCell ⟨bh, 2, none⟩ (.int .i64 (h.begun : Int))) := Chg.setCell (S := (· = bh)) (Chg.refl w2) (.inl rfl) _
  exact ⟨rfl, _, { h with ended := h.begun }, hands_set HA.out hch2.out hr4 hb3 hc3 hi2 rfl, Nat.le_succ _⟩

set_option maxRecDepth 20000 in
set_option maxHeartbeats 2000000 in
theorem hand_read_busy {f : Nat → Addr} {w0 w : World} {bh br n : Nat} {σ : St} {h : Hs} (va vb vc vs vl vu : Value) (hB : Base f w0 bh) (hw : HWs w0 bh br n σ h w) (hr : σ.rd = true) :
    Calls Tryd.prog 17 #[.pointer (some ⟨bh, 0, none⟩), .pointer (some ⟨br, 0, none⟩), .agg #[.int .i64 16, va, vb, vc, vs, vl, vu]] w (HandPost w0 bh br n h) := by
  have HA := hid' (hw.alloc (.cells #[.int .i64 16, va, vb, vc, vs, vl, vu] 48))
  obtain ⟨L, hreg⟩ := HA.out.reg
  have HReg := hid' hreg
  have HC := hid' (plainRead_busy hreg (hB.sent' HA.out.low) (hB.apart' HA.out.low) hr)
  clear hw hB hreg hr
  go_enter Tryd.func17, Tryd.ntmps17
  go_wp2_with (first | (go_at_call 11; refine HC.out.mono ?_; rintro e w2 ⟨rfl, hch2'⟩; have hch2 := hid' hch2'; clear hch2'))
  go_end0
  exact ⟨rfl, σ, h, HA.out.turn (hch2.out.mono fun _ _ h => h.elim) ⟨L, HReg.out.keep hch2.out fun _ _ h => h⟩ rfl HA.out.inv rfl, Nat.le_succ _⟩

set_option maxRecDepth 20000 in
set_option maxHeartbeats 2000000 in
theorem hand_read_ok {w0 w : World} {bh br n : Nat} {σ : St} {h : Hs} (va vb vc vs vl vu : Value) (hw : HWs w0 bh br n σ h w) (hr : σ.rd = false) :
    Calls Tryd.prog 17 #[.pointer (some ⟨bh, 0, none⟩), .pointer (some ⟨br, 0, none⟩), .agg #[.int .i64 16, va, vb, vc, vs, vl, vu]] w (HandPost w0 bh br n h) := by
  have HA := hid' (hw.alloc (.cells #[.int .i64 16, va, vb, vc, vs, vl, vu] 48))
  obtain ⟨L, hreg⟩ := HA.out.reg
  have HReg := hid' hreg
  have HC := hid' (plainRead_ok hreg HA.out.size hr)
  have HI := hid' (HA.out.inv.read hr)
  have HL := hid' (show ∀ k, k = br → bh + 1 ≤ k from fun k e => by rw [e]; exact hreg.lowr)
  clear hw hreg hr
  go_enter Tryd.func17, Tryd.ntmps17
  go_wp2_with (first | (go_at_call 11; refine HC.out.mono ?_; rintro e w2 ⟨rfl, hr2', hch2'⟩; have hr2 := hid' hr2'; have hch2 := hid' (hch2'.mono fun k _ hk => HL.out k hk); have hb2 := hid' (hch2.out.blk HA.out.hands (by omega)); have q2 : w2.cell? ⟨bh, 2, none⟩ = some (.int .i64 (h.ended : Int)) := hb2.out.cell 2; have q3 : w2.cell? ⟨bh, 3, none⟩ = some (.int .i64 (h.floor : Int)) := hb2.out.cell 3; have f3 := hb2.out.frozen 3; clear hr2' hch2'))
  go_end0
  obtain ⟨L', hr4⟩ := hr2.out
  have hb3 : Blk (w2.setCell ⟨bh, 3, none⟩ (.int .i64 (h.ended : Int))) bh 28 (handCells n { h with floor := h.ended }) := hb2.out.set_ 3 _
  have hc3 : Chg (· = bh) w2 (w2.setCell ⟨bh, 3, none⟩ (.int .i64 (h.ended : Int))) := Chg.setCell (S := (· = bh)) (Chg.refl w2) (.inl rfl) _
  exact ⟨rfl, _, { h with floor := h.ended }, hands_set HA.out hch2.out hr4 hb3 hc3 HI.out rfl, Nat.le_succ _⟩

set_option maxRecDepth 20000 in
set_option maxHeartbeats 2000000 in
theorem hand_stepR_idle {f : Nat → Addr} {w0 w : World} {bh br n : Nat} {σ : St} {h : Hs} (va vb vc vs vl vu : Value) (hB : Base f w0 bh) (hw : HWs w0 bh br n σ h w) (hr : σ.rd = false) :
    Calls Tryd.prog 17 #[.pointer (some ⟨bh, 0, none⟩), .pointer (some ⟨br, 0, none⟩), .agg #[.int .i64 17, va, vb, vc, vs, vl, vu]] w (HandPost w0 bh br n h) := by
  have HA := hid' (hw.alloc (.cells #[.int .i64 17, va, vb, vc, vs, vl, vu] 48))
  obtain ⟨L, hreg⟩ := HA.out.reg
  have HReg := hid' hreg
  have HC := hid' (plainStepR_idle hreg (hB.sent' HA.out.low) (hB.apart' HA.out.low) hr)
  clear hw hB hreg hr
  go_enter Tryd.func17, Tryd.ntmps17
  go_wp2_with (first | (go_at_call 12; refine HC.out.mono ?_; rintro e w2 ⟨rfl, hch2'⟩; have hch2 := hid' hch2'; clear hch2'))
  go_end0
  exact ⟨rfl, σ, h, HA.out.turn (hch2.out.mono fun _ _ h => h.elim) ⟨L, HReg.out.keep hch2.out fun _ _ h => h⟩ rfl HA.out.inv rfl, Nat.le_succ _⟩

set_option maxRecDepth 20000 in
set_option maxHeartbeats 2000000 in
theorem hand_stepR_more {w0 w : World} {bh br n : Nat} {σ : St} {h : Hs} (va vb vc vs vl vu : Value) (hw : HWs w0 bh br n σ h w) (hr : σ.rd = true) (hov : σ.overR = false) :
    Calls Tryd.prog 17 #[.pointer (some ⟨bh, 0, none⟩), .pointer (some ⟨br, 0, none⟩), .agg #[.int .i64 17, va, vb, vc, vs, vl, vu]] w (HandPost w0 bh br n h) := by
  have HA := hid' (hw.alloc (.cells #[.int .i64 17, va, vb, vc, vs, vl, vu] 48))
  obtain ⟨L, hreg⟩ := HA.out.reg
  have HReg := hid' hreg
  have HC := hid' (plainStepR_more hreg hr hov)
  have HI := hid' (show Inv σ.stepR h from (HA.out.inv.stepR hr).elim (fun e => e.2) fun e => by rw [hov] at e; cases e.1)
  have HL := hid' (show ∀ k, (k = br ∨ Own L σ.p k ∨ k = L.ob) → bh + 1 ≤ k from fun k hk => hk.elim (fun e => by rw [e]; exact hreg.lowr) fun hk => hk.elim (hreg.low k) fun e => by rw [e]; exact (hreg.out hr).2.2.2.2.1)
  clear hw hreg hr hov
  go_enter Tryd.func17, Tryd.ntmps17
  go_wp2_with (first | (go_at_call 12; refine HC.out.mono ?_; rintro e w2 ⟨rfl, hr2', hch2'⟩; have hr2 := hid' hr2'; have hch2 := hid' (hch2'.mono fun k _ hk => HL.out k hk); clear hr2' hch2'))
  go_end0
  exact ⟨rfl, _, h, HA.out.turn hch2.out hr2.out rfl HI.out rfl, Nat.le_succ _⟩

set_option maxRecDepth 20000 in
set_option maxHeartbeats 2000000 in
theorem hand_stepR_over {w0 w : World} {bh br n : Nat} {σ : St} {h : Hs} (va vb vc vs vl vu : Value) (hw : HWs w0 bh br n σ h w) (hr : σ.rd = true) (hov : σ.overR = true) (hbd : h.begun ≤ 4398046511104) :
    Calls Tryd.prog 17 #[.pointer (some ⟨bh, 0, none⟩), .pointer (some ⟨br, 0, none⟩), .agg #[.int .i64 17, va, vb, vc, vs, vl, vu]] w (HandPost w0 bh br n h) := by
  have HA := hid' (hw.alloc (.cells #[.int .i64 17, va, vb, vc, vs, vl, vu] 48))
  obtain ⟨L, hreg⟩ := HA.out.reg
  have HReg := hid' hreg
  have HC := hid' (plainStepR_over hreg hr hov)
  obtain ⟨k, hk1, hk2, hk3, hk4, hk5⟩ := (HA.out.inv.stepR hr).elim (fun e => by rw [hov] at e; cases e.1) fun e => e.2
  have HI := hid' hk5
  have hnn := HA.out.nn
  have hpos := hreg.pos
  have hsm := hreg.small
  have HO := hid' hk1
  have HL := hid' (show ∀ k, (k = br ∨ Own L σ.p k ∨ k = L.ob) → bh + 1 ≤ k from fun k hk => hk.elim (fun e => by rw [e]; exact hreg.lowr) fun hk => hk.elim (hreg.low k) fun e => by rw [e]; exact (hreg.out hr).2.2.2.2.1)
  obtain rfl := hnn
  clear hw hreg hr hov hk1 hk5
  go_enter Tryd.func17, Tryd.ntmps17
  go_wp2_with (first
    | (go_at_call 12; refine HC.out.mono ?_; rintro e w2 ⟨g2, cap2, cur2, rfl, hg2', hrow', hr2', hch2'⟩; have hr2 := hid' hr2'; have hrow := hid' (show RowAt w2 g2 σ.n (payload k σ.n) cur2 from HO.out ▸ hrow'); have hch2 := hid' (hch2'.mono fun k _ hk => HL.out k hk); have hb2 := hid' (hch2.out.blk HA.out.hands (by omega)); have GC := hid' (got_calls bh g2 σ.n cap2 k h cur2 w2 hb2.out hrow.out hpos hsm (by omega) hk2 hk3 hk4); clear hr2' hch2' hrow' hg2')
    | (go_at_call 24; refine GC.out.mono ?_; rintro e w3 ⟨rfl, hb3', hc3'⟩; have hb3 := hid' hb3'; have hc3 := hid' hc3'; clear hb3' hc3'))
  go_end0
  obtain ⟨L', hr4⟩ := hr2.out
  exact ⟨rfl, _, { h with last := k }, hands_set HA.out hch2.out hr4 hb3.out hc3.out HI.out rfl, Nat.le_succ _⟩

set_option maxRecDepth 20000 in
set_option maxHeartbeats 2000000 in
theorem hand_other {w0 w : World} {bh br n : Nat} {σ : St} {h : Hs} (va vb vc vs vl vu : Value) (hw : HWs w0 bh br n σ h w) (kd : Int) (e1 : (kd == 14) = false) (e2 : (kd == 15) = false) (e3 : (kd == 16) = false) (e4 : (kd == 17) = false) :
    Calls Tryd.prog 17 #[.pointer (some ⟨bh, 0, none⟩), .pointer (some ⟨br, 0, none⟩), .agg #[.int .i64 kd, va, vb, vc, vs, vl, vu]] w (HandPost w0 bh br n h) := by
  have HA := hid' (hw.alloc (.cells #[.int .i64 kd, va, vb, vc, vs, vl, vu] 48))
  clear hw
  go_enter Tryd.func17, Tryd.ntmps17
  go_wp2_with fail
  go_end0
  exact ⟨rfl, σ, h, HA.out, Nat.le_succ _⟩

/-- Hands.hand, whatever the kind of step. -/
theorem hand_calls {f : Nat → Addr} {w0 w : World} {bh br n : Nat} {σ : St} {h : Hs} (kd : Int) (va vb vc vs vl vu : Value) (hB : Base f w0 bh) (hw : HWs w0 bh br n σ h w) (hbd : h.begun < 4398046511104) :
    Calls Tryd.prog 17 #[.pointer (some ⟨bh, 0, none⟩), .pointer (some ⟨br, 0, none⟩), .agg #[.int .i64 kd, va, vb, vc, vs, vl, vu]] w (HandPost w0 bh br n h) := by
  by_cases e1 : kd = 14
  · subst e1
    cases hr : σ.wr
    · exact hand_write_ok va vb vc vs vl vu hB hw hr hbd
    · exact hand_write_busy va vb vc vs vl vu hB hw hr hbd
  by_cases e2 : kd = 15
  · subst e2
    cases hr : σ.wr
    · exact hand_stepW_idle va vb vc vs vl vu hB hw hr
    cases hov : σ.overW
    · exact hand_stepW_false va vb vc vs vl vu hw hr hov
    · exact hand_stepW_true va vb vc vs vl vu hw hr hov
  by_cases e3 : kd = 16
  · subst e3
    cases hr : σ.rd
    · exact hand_read_ok va vb vc vs vl vu hw hr
    · exact hand_read_busy va vb vc vs vl vu hB hw hr
  by_cases e4 : kd = 17
  · subst e4
    cases hr : σ.rd
    · exact hand_stepR_idle va vb vc vs vl vu hB hw hr
    cases hov : σ.overR
    · exact hand_stepR_more va vb vc vs vl vu hw hr hov
    · exact hand_stepR_over va vb vc vs vl vu hw hr hov (Nat.le_of_lt hbd)
  exact hand_other va vb vc vs vl vu hw kd (by simpa using e1) (by simpa using e2) (by simpa using e3) (by simpa using e4)

end Go.Proofs.YtbdccfgeildebaaDoor
