/-
  Hands.got and Hands.hand. Conditions: the blocks are there; the plain machine's invariant; numbers in bounds.
-/
import Derived.Test.YtbdccfgeildebaaDoorHandW
namespace Go.Proofs.YtbdccfgeildebaaDoor
open Go.RowKit Mem Abs

/-- The hands' block, all right so far. -/
def handCells (n : Nat) (h : Hs) : Array Value :=
  #[.int .i64 (n : Int), .int .i64 (h.begun : Int), .int .i64 (h.ended : Int), .int .i64 (h.floor : Int), .int .i64 (h.last : Int), .bool true, .bool true]

set_option maxRecDepth 20000 in
set_option maxHeartbeats 2000000 in
theorem got_calls (bh g n cap k : Nat) (h : Hs) (cur : Array Value) (w : World) (hb : Blk w bh 28 (handCells n h)) (hrow : RowAt w g n (payload k n) cur) (hn : 0 < n) (hsm : n ≤ 4096) (hk : k ≤ 4398046511104)
    (h1 : h.floor ≤ k) (h2 : h.last ≤ k) (h3 : k ≤ h.begun) :
    Calls Tryd.prog 24 #[.pointer (some ⟨bh, 0, none⟩), .slice (some ⟨g, 0, none⟩) n cap] w fun e w' => e = .returned (.tuple #[]) ∧ Blk w' bh 28 (handCells n { h with last := k }) ∧ Chg (· = bh) w w' := by
  have c0 : w.cell? ⟨bh, 0, none⟩ = some (.int .i64 (n : Int)) := hb.cell 0
  have cg : w.cell? ⟨g, 0, none⟩ = some (.int .u64 ((k : Int) * 1000)) := by
    have := hrow.cell 0 (k * 1000 + 0) (payload_at k n 0 hn)
    simpa using this
  have d1 : (k : Int) * 1000 / 1000 = (k : Int) := by omega
  have i0 : (0 : Int) ≤ (k : Int) := by omega
  have i1 : (0 : Int) < (n : Int) := by omega
  have i2 : (h.floor : Int) ≤ (k : Int) := by omega
  have i3 : (h.last : Int) ≤ (k : Int) := by omega
  have i4 : (k : Int) ≤ (h.begun : Int) := by omega
  have i5 : (k : Int) ≤ 4398046511104 := by omega
  have HB := hid' hb
  have HR := hid' hrow
  have PC := hid' (payload_calls bh k n w c0 hn hsm hk)
  clear hb hrow
  go_enter Tryd.func24, Tryd.ntmps24
  go_wp2_with (first
    | (go_at_call 16; refine PC.out.mono ?_; rintro e w1 ⟨g2, cap2, cur2, rfl, hg2', hr2', hch'⟩; have hg2 := hid' hg2'; have hr2 := hid' hr2'; have hch := hid' hch'; clear hg2' hr2' hch')
    | (go_at_call 27; refine (words_calls g g2 n cap cap2 _ _ _ _ (HR.out.keep hch.out (fun h => h)) hr2.out hsm).mono ?_; rintro e w2 ⟨rfl, hch2'⟩; have hch2 := hid' (hch.out.trans hch2'); have hb2 := hid' (hch2.out.blk HB.out (fun h => h)); have k1 : w2.cell? ⟨bh, 1, none⟩ = some (.int .i64 (h.begun : Int)) := hb2.out.cell 1; have k3 : w2.cell? ⟨bh, 3, none⟩ = some (.int .i64 (h.floor : Int)) := hb2.out.cell 3; have k4 : w2.cell? ⟨bh, 4, none⟩ = some (.int .i64 (h.last : Int)) := hb2.out.cell 4; have k5 : w2.cell? ⟨bh, 5, none⟩ = some (.bool true) := hb2.out.cell 5; have k6 : w2.cell? ⟨bh, 6, none⟩ = some (.bool true) := hb2.out.cell 6; have f4 := hb2.out.frozen 4; have f5 := hb2.out.frozen 5; have f6 := hb2.out.frozen 6; clear hch2'))
  go_end0
  exact ⟨rfl, ((hb2.out.set_ 5 (.bool true)).set_ 6 (.bool true)).set_ 4 (.int .i64 (k : Int)),
    ((Chg.setCell (S := (· = bh)) (Chg.setCell (S := (· = bh)) (Chg.setCell (S := (· = bh)) (hch2.out.mono fun _ _ h => h.elim) (.inl rfl) _) (.inl rfl) _) (.inl rfl) _))⟩

/-- The hands and their register, in the world of a script's walk; w0 is the world in which the hands were made. -/
structure HWs (w0 : World) (bh br n : Nat) (σ : St) (h : Hs) (w : World) : Prop where
  hands : Blk w bh 28 (handCells n h)
  reg : RegOk (bh + 1) w br σ
  inv : Inv σ h
  nn : σ.n = n
  low : Below bh w0 w
  size : bh + 1 ≤ w.heap.size

/-- What is known of the world in which the hands were made. -/
structure Base (f : Nat → Addr) (w0 : World) (bh : Nat) : Prop where
  sent : Sent w0 4 f
  apart : Apart17 w0 4 f
  size : w0.heap.size = bh

theorem Base.sent' {f : Nat → Addr} {w0 w : World} {bh : Nat} (hb : Base f w0 bh) (hl : Below bh w0 w) : Sent w 4 f :=
  fun i hi => (World.cell?_of_block (w := w0) (hl.block i (by have := hb.sent.lt hi; have := hb.size; omega))).trans (hb.sent i hi)
theorem Base.apart' {f : Nat → Addr} {w0 w : World} {bh : Nat} (hb : Base f w0 bh) (hl : Below bh w0 w) : Apart17 w 4 f := hb.apart.below hl (Nat.le_of_eq hb.size)

theorem HWs.alloc {w0 w : World} {bh br n : Nat} {σ : St} {h : Hs} (hw : HWs w0 bh br n σ h w) (o : Obj) : HWs w0 bh br n σ h (w.alloc o) := by
  obtain ⟨L, hr⟩ := hw.reg
  exact ⟨hw.hands.alloc o, ⟨L, hr.keep (S := fun _ => False) ((Chg.refl w).alloc o) fun _ _ h => h⟩, hw.inv, hw.nn, hw.low.alloc (by have := hw.size; omega) o, by have := hw.size; simp; omega⟩

/-- The hands turn, the register and all below stay. -/
theorem HWs.turn {w0 w w' : World} {bh br n : Nat} {σ σ' : St} {h h' : Hs} (hw : HWs w0 bh br n σ h w) (hc : Chg (fun k => bh + 1 ≤ k) w w') (hr : RegOk (bh + 1) w' br σ') (hn : σ'.n = σ.n) (hi : Inv σ' h') (he : handCells n h' = handCells n h) : HWs w0 bh br n σ' h' w' :=
  ⟨he ▸ hc.blk hw.hands (by omega), hr, hi, hn.trans hw.nn, hw.low.trans (hc.below (by have := hw.size; omega) fun k hk => by omega), Nat.le_trans hw.size hc.size⟩

/-- A store into the hands. -/
theorem HWs.set_ {w0 w : World} {bh br n : Nat} {σ : St} {h h' : Hs} (hw : HWs w0 bh br n σ h w) (i : Nat) (u : Value) (hi : Inv σ h') (he : (handCells n h).setIfInBounds i u = handCells n h') : HWs w0 bh br n σ h' (w.setCell ⟨bh, i, none⟩ u) := by
  obtain ⟨L, hr⟩ := hw.reg
  have hc : Chg (· = bh) w (w.setCell ⟨bh, i, none⟩ u) := Chg.setCell (S := (· = bh)) (Chg.refl w) (.inl rfl) u
  refine ⟨he ▸ hw.hands.set_ i u, ⟨L, hr.keep hc fun k hk e => ?_⟩, hi, hw.nn, hw.low.setCell (Nat.le_refl _) u, by have := hw.size; simpa [World.setCell] using this⟩
  subst e
  rcases hk with e | e | ⟨e1, e2⟩ | ⟨e1, e2⟩
  · have := hr.lowr; omega
  · have := hr.low _ e; omega
  · have := (hr.pay e1).2.2.2.2; omega
  · have := (hr.out e1).2.2.2.2.1; omega
end Go.Proofs.YtbdccfgeildebaaDoor
