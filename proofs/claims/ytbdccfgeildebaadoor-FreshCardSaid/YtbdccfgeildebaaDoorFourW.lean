/-
  The small steps of a writing of kind 1, each as what it does to the register's own block. Conditions: the blocks are there.
-/
import Derived.Test.YtbdccfgeildebaaDoorAtom
import Derived.Deep.RegionHeld3
import Derived.Deep.DeepCutAuto
import Derived.Lib.Hide
namespace Go.Proofs.YtbdccfgeildebaaDoor
open Go.RowKit Mem

/-- Of what was there nothing has turned but the blocks of S. -/
structure Chg (S : Nat → Prop) (w w' : World) : Prop where
  os : w'.os = w.os
  tape : w'.tape = w.tape
  output : w'.output = w.output
  size : w.heap.size ≤ w'.heap.size
  block : ∀ k, k < w.heap.size → ¬ S k → w'.heap[k]? = w.heap[k]?

theorem Chg.refl {S : Nat → Prop} (w : World) : Chg S w w := ⟨rfl, rfl, rfl, Nat.le_refl _, fun _ _ _ => rfl⟩
theorem Chg.trans {S : Nat → Prop} {a b c : World} (h : Chg S a b) (k : Chg S b c) : Chg S a c :=
  ⟨k.os.trans h.os, k.tape.trans h.tape, k.output.trans h.output, Nat.le_trans h.size k.size, fun i hi hs => (k.block i (Nat.lt_of_lt_of_le hi h.size) hs).trans (h.block i hi hs)⟩
theorem Chg.mono {S T : Nat → Prop} {w w' : World} (h : Chg S w w') (hs : ∀ k, k < w.heap.size → S k → T k) : Chg T w w' :=
  ⟨h.os, h.tape, h.output, h.size, fun i hi ht => h.block i hi fun s => ht (hs i hi s)⟩
theorem Chg.drew {S : Nat → Prop} {a w : World} (h : Chg S a w) : Chg S a w.drew := ⟨h.os, h.tape, h.output, h.size, h.block⟩
theorem Chg.drewN {S : Nat → Prop} {a w : World} (h : Chg S a w) (n : Nat) : Chg S a (w.drewN n) := ⟨h.os, h.tape, h.output, h.size, h.block⟩
theorem Chg.alloc {S : Nat → Prop} {a w : World} (h : Chg S a w) (o : Obj) : Chg S a (w.alloc o) :=
  ⟨h.os, h.tape, h.output, Nat.le_trans h.size (by simp), fun i hi hs => (Below.heap_alloc _ _ _ (Nat.lt_of_lt_of_le hi h.size)).trans (h.block i hi hs)⟩
theorem Chg.setCell {S : Nat → Prop} {a w : World} (h : Chg S a w) {p : Addr} (hp : S p.block ∨ a.heap.size ≤ p.block) (u : Value) : Chg S a (w.setCell p u) :=
  ⟨h.os, h.tape, h.output, by simpa [World.setCell] using h.size, fun i hi hs => (Below.heap_setCell _ _ _ _ (by
    rintro rfl
    rcases hp with hp | hp
    · exact hs hp
    · omega)).trans (h.block i hi hs)⟩
theorem Chg.grown {S : Nat → Prop} {a w w' : World} {row : Option Nat} (h : Chg S a w) (hg : w.grownBy w' row) (hr : ∀ k, row = some k → S k ∨ a.heap.size ≤ k) : Chg S a w' :=
  ⟨hg.os.trans h.os, hg.tape.trans h.tape, hg.output.trans h.output, Nat.le_trans h.size hg.size, fun i hi hs => (hg.block i (Nat.lt_of_lt_of_le hi h.size) (fun e => by
    rcases hr i e.symm with hp | hp
    · exact hs hp
    · omega)).trans (h.block i hi hs)⟩
theorem Chg.below {S : Nat → Prop} {w w' : World} {B : Nat} (h : Chg S w w') (hB : B ≤ w.heap.size) (hs : ∀ k, S k → B ≤ k) : Below B w w' :=
  ⟨h.os, h.tape, h.output, h.size, fun k hk => h.block k (by omega) fun s => by have := hs k s; omega⟩
theorem Chg.of_below {S : Nat → Prop} {w w' : World} (h : Below w.heap.size w w') : Chg S w w' :=
  ⟨h.os, h.tape, h.output, h.size, fun k hk _ => h.block k hk⟩
theorem Chg.blk {S : Nat → Prop} {w w' : World} (h : Chg S w w') {g : Nat} {t : TypeId} {cs : Array Value} (hb : Blk w g t cs) (hg : ¬ S g) : Blk w' g t cs := (h.block g hb.lt hg).trans hb

theorem keep_far {w : World} {a p : Addr} {u v : Value} (h : w.cell? p = some v) (hne : p ≠ a) : (w.setCell a u).drew.cell? p = some v :=
  (World.cell?_setCell_other w a p u (fun e => hne (by simpa using e.symm))).trans h

/-- A bit as an integer. -/
def bi (b : Bool) : Int := if b then 1 else 0
/-- Which of the four slots. -/
def ix (p q : Bool) : Nat := (if p then 2 else 0) + (if q then 1 else 0)

/-- The register's own block, kind 1. -/
def fourCells (s0 s1 s2 s3 : Value) (latest reading t0 t1 wp wq rp rq : Bool) : Array Value :=
  #[s0, s1, s2, s3, .int .i32 (bi latest), .int .i32 (bi reading), .int .i32 (bi t0), .int .i32 (bi t1), .int .i32 (bi wp), .int .i32 (bi wq), .int .i32 (bi rp), .int .i32 (bi rq)]

theorem bi_not (b : Bool) : 1 - bi b = bi (!b) := by cases b <;> rfl
theorem bi_pick (p t0 t1 : Bool) : (if p then bi t1 else bi t0) = bi (if p then t1 else t0) := by cases p <;> rfl

theorem wrap_not (b : Bool) : wrap32 (1 - bi b) = bi (!b) := by cases b <;> simp [wrap32, bi]

set_option maxHeartbeats 1000000 in
theorem fourW0 (bp : Nat) (A : Option Addr) (n c : Nat) (s0 s1 s2 s3 : Value) (latest reading t0 t1 wp wq rp rq : Bool) (w : World) (hb : Blk w bp 75 (fourCells s0 s1 s2 s3 latest reading t0 t1 wp wq rp rq)) :
    Calls Tryd.prog 46 #[.pointer (some ⟨bp, 0, none⟩), .int .i64 0, .slice A n c] w fun e w' => e = .returned (.bool false) ∧ Blk w' bp 75 (fourCells s0 s1 s2 s3 latest reading t0 t1 (!reading) wq rp rq) ∧ Chg (· = bp) w w' := by
  have h5 : w.cell? ⟨bp, 5, none⟩ = some (.int .i32 (bi reading)) := hb.cell 5
  have h8 : w.cell? ⟨bp, 8, none⟩ = some (.int .i32 (bi wp)) := hb.cell 8
  have f8 := hb.frozen 8
  have HF := Lib.hid (show Blk (w.setCell ⟨bp, 8, none⟩ (.int .i32 (bi (!reading)))) bp 75 (fourCells s0 s1 s2 s3 latest reading t0 t1 (!reading) wq rp rq) from hb.set_ 8 _)
  have hw := wrap_not reading
  clear hb
  go_enter Tryd.func46, Tryd.ntmps46
  go_wp2_with (go_at_call 47; refine (load32 _ _ _ _ h5).mono ?_; rintro e w' ⟨rfl, rfl⟩)
  go_ret
  exact ⟨rfl, HF.out, Chg.setCell (S := (· = bp)) (Chg.refl _) (.inl rfl) _⟩

theorem keep_blk {w : World} {a p : Addr} {u v : Value} (h : w.cell? p = some v) (hne : p.block ≠ a.block) : (w.setCell a u).drew.cell? p = some v :=
  keep_far h fun e => hne (by rw [e])

theorem wrap_not' (b : Bool) : IntKind.i32.wrap (1 - bi b) = bi (!b) := by cases b <;> simp [bi, IntKind.wrap_i32]

set_option maxHeartbeats 1000000 in
theorem fourW1_0 (bp : Nat) (A : Option Addr) (n c : Nat) (s0 s1 s2 s3 : Value) (latest reading t0 t1 wq rp rq : Bool) (w : World) (hb : Blk w bp 75 (fourCells s0 s1 s2 s3 latest reading t0 t1 false wq rp rq)) :
    Calls Tryd.prog 46 #[.pointer (some ⟨bp, 0, none⟩), .int .i64 1, .slice A n c] w fun e w' => e = .returned (.bool false) ∧ Blk w' bp 75 (fourCells s0 s1 s2 s3 latest reading t0 t1 false (!t0) rp rq) ∧ Chg (· = bp) w w' := by
  have h8 : w.cell? ⟨bp, 8, none⟩ = some (.int .i32 0) := hb.cell 8
  have h6 : w.cell? ⟨bp, 6, none⟩ = some (.int .i32 (bi t0)) := hb.cell 6
  have h9 : w.cell? ⟨bp, 9, none⟩ = some (.int .i32 (bi wq)) := hb.cell 9
  have f9 := hb.frozen 9
  have HF := Lib.hid (show Blk (w.setCell ⟨bp, 9, none⟩ (.int .i32 (bi (!t0)))) bp 75 (fourCells s0 s1 s2 s3 latest reading t0 t1 false (!t0) rp rq) from hb.set_ 9 _)
  have hw := wrap_not' t0
  clear hb
  go_enter Tryd.func46, Tryd.ntmps46
  go_wp2_with fail
  go_region_held3 (fun w' => w'.cell? ⟨bp, 8, none⟩ = some (.int .i32 0) ∧ w'.cell? ⟨bp, 6, none⟩ = some (.int .i32 (bi t0))) (first | exact ⟨h8, h6⟩ | exact ⟨keep_far h8 (by simp), keep_far h6 (by simp)⟩)
    (first | (go_at_call 47; refine (load32 _ _ (bi t0) _ ?_).mono ?_; (simp [*]); rintro e w' ⟨rfl, rfl⟩))
  go_wp2_with fail
  go_ret
  exact ⟨rfl, HF.out, (Chg.setCell (S := (· = bp)) (Chg.refl _) (.inl rfl) _).drew⟩

set_option maxHeartbeats 1000000 in
theorem fourW1_1 (bp : Nat) (A : Option Addr) (n c : Nat) (s0 s1 s2 s3 : Value) (latest reading t0 t1 wq rp rq : Bool) (w : World) (hb : Blk w bp 75 (fourCells s0 s1 s2 s3 latest reading t0 t1 true wq rp rq)) :
    Calls Tryd.prog 46 #[.pointer (some ⟨bp, 0, none⟩), .int .i64 1, .slice A n c] w fun e w' => e = .returned (.bool false) ∧ Blk w' bp 75 (fourCells s0 s1 s2 s3 latest reading t0 t1 true (!t1) rp rq) ∧ Chg (· = bp) w w' := by
  have h8 : w.cell? ⟨bp, 8, none⟩ = some (.int .i32 1) := hb.cell 8
  have h6 : w.cell? ⟨bp, 7, none⟩ = some (.int .i32 (bi t1)) := hb.cell 7
  have h9 : w.cell? ⟨bp, 9, none⟩ = some (.int .i32 (bi wq)) := hb.cell 9
  have f9 := hb.frozen 9
  have HF := Lib.hid (show Blk (w.setCell ⟨bp, 9, none⟩ (.int .i32 (bi (!t1)))) bp 75 (fourCells s0 s1 s2 s3 latest reading t0 t1 true (!t1) rp rq) from hb.set_ 9 _)
  have hw := wrap_not' t1
  clear hb
  go_enter Tryd.func46, Tryd.ntmps46
  go_wp2_with fail
  go_region_held3 (fun w' => w'.cell? ⟨bp, 8, none⟩ = some (.int .i32 1) ∧ w'.cell? ⟨bp, 7, none⟩ = some (.int .i32 (bi t1))) (first | exact ⟨h8, h6⟩ | exact ⟨keep_far h8 (by simp), keep_far h6 (by simp)⟩)
    (first | (go_at_call 47; refine (load32 _ _ (bi t1) _ ?_).mono ?_; (simp [*]); rintro e w' ⟨rfl, rfl⟩))
  go_wp2_with fail
  go_ret
  exact ⟨rfl, HF.out, (Chg.setCell (S := (· = bp)) (Chg.refl _) (.inl rfl) _).drew⟩

set_option maxHeartbeats 2000000 in
theorem fourW2_00 (bp g pb n cp s : Nat) (s1 s2 s3 : Value) (latest reading t0 t1 rp rq : Bool) (v : Int) (cs : Array Value) (w : World) (hb : Blk w bp 75 (fourCells (.slice (some ⟨g, 0, none⟩) n n) s1 s2 s3 latest reading t0 t1 false false rp rq))
    (hg : Blk w g 38 cs) (hsz : cs.size = n) (hv : w.cell? ⟨pb, s - 2, none⟩ = some (.int .u64 v)) (h2 : 2 ≤ s) (hlt : s < n + 2) (hn : n ≤ 4096) (n1 : g ≠ bp) (n2 : g ≠ pb) :
    Calls Tryd.prog 46 #[.pointer (some ⟨bp, 0, none⟩), .int .i64 (s : Int), .slice (some ⟨pb, 0, none⟩) n cp] w fun e w' => e = .returned (.bool false) ∧ Blk w' g 38 (cs.setIfInBounds (s - 2) (.int .u64 v)) ∧ Chg (· = g) w w' := by
  have h8 : w.cell? ⟨bp, 8, none⟩ = some (.int .i32 0) := hb.cell 8
  have h9 : w.cell? ⟨bp, 9, none⟩ = some (.int .i32 0) := hb.cell 9
  have hk : w.cell? ⟨bp, 0, none⟩ = some (.slice (some ⟨g, 0, none⟩) n n) := hb.cell 0
  obtain ⟨old, hc⟩ : ∃ old, w.cell? ⟨g, s - 2, none⟩ = some old := ⟨_, (hg.cell _).trans (Array.getElem?_eq_getElem (by omega))⟩
  have hf := hg.frozen (s - 2)
  have HF := Lib.hid (hg.set_ (s - 2) (.int .u64 v))
  have e0 : (((s : Nat) : Int) == 0) = false := beq_eq_false_iff_ne.2 (by omega)
  have e1 : (((s : Nat) : Int) == 1) = false := beq_eq_false_iff_ne.2 (by omega)
  clear hb hg hsz
  have i1 : (2 : Int) ≤ (s : Int) := by omega
  have i2 : (0 : Int) ≤ (s : Int) - 2 := by omega
  have i3 : (s : Int) - 2 < (n : Int) := by omega
  have i4 : (s : Int) < (n : Int) + 2 := by omega
  have i5 : IntKind.i64.wrap ((s : Int) - 2) = (s : Int) - 2 := IntWalk.i64_in _ (by omega)
  have i6 : ((s : Int) - 2).toNat = s - 2 := by omega
  go_enter Tryd.func46, Tryd.ntmps46
  go_wp2_with fail
  go_region_held3 (fun w' => w'.cell? ⟨bp, 8, none⟩ = some (.int .i32 0) ∧ w'.cell? ⟨bp, 9, none⟩ = some (.int .i32 0) ∧ w'.cell? ⟨bp, 0, none⟩ = some (.slice (some ⟨g, 0, none⟩) n n) ∧ w'.cell? ⟨pb, s - 2, none⟩ = some (.int .u64 v)) (first | exact ⟨h8, h9, hk, hv⟩ | exact ⟨keep_blk h8 (Ne.symm n1), keep_blk h9 (Ne.symm n1), keep_blk hk (Ne.symm n1), keep_blk hv (Ne.symm n2)⟩)
    (first | fail)
  go_wp2_with fail
  go_ret
  exact ⟨rfl, HF.out, (Chg.setCell (S := (· = g)) (Chg.refl _) (.inl rfl) _).drew⟩

set_option maxHeartbeats 2000000 in
theorem fourW2_01 (bp g pb n cp s : Nat) (s0 s2 s3 : Value) (latest reading t0 t1 rp rq : Bool) (v : Int) (cs : Array Value) (w : World) (hb : Blk w bp 75 (fourCells s0 (.slice (some ⟨g, 0, none⟩) n n) s2 s3 latest reading t0 t1 false true rp rq))
    (hg : Blk w g 38 cs) (hsz : cs.size = n) (hv : w.cell? ⟨pb, s - 2, none⟩ = some (.int .u64 v)) (h2 : 2 ≤ s) (hlt : s < n + 2) (hn : n ≤ 4096) (n1 : g ≠ bp) (n2 : g ≠ pb) :
    Calls Tryd.prog 46 #[.pointer (some ⟨bp, 0, none⟩), .int .i64 (s : Int), .slice (some ⟨pb, 0, none⟩) n cp] w fun e w' => e = .returned (.bool false) ∧ Blk w' g 38 (cs.setIfInBounds (s - 2) (.int .u64 v)) ∧ Chg (· = g) w w' := by
  have h8 : w.cell? ⟨bp, 8, none⟩ = some (.int .i32 0) := hb.cell 8
  have h9 : w.cell? ⟨bp, 9, none⟩ = some (.int .i32 1) := hb.cell 9
  have hk : w.cell? ⟨bp, 1, none⟩ = some (.slice (some ⟨g, 0, none⟩) n n) := hb.cell 1
  obtain ⟨old, hc⟩ : ∃ old, w.cell? ⟨g, s - 2, none⟩ = some old := ⟨_, (hg.cell _).trans (Array.getElem?_eq_getElem (by omega))⟩
  have hf := hg.frozen (s - 2)
  have HF := Lib.hid (hg.set_ (s - 2) (.int .u64 v))
  have e0 : (((s : Nat) : Int) == 0) = false := beq_eq_false_iff_ne.2 (by omega)
  have e1 : (((s : Nat) : Int) == 1) = false := beq_eq_false_iff_ne.2 (by omega)
  clear hb hg hsz
  have i1 : (2 : Int) ≤ (s : Int) := by omega
  have i2 : (0 : Int) ≤ (s : Int) - 2 := by omega
  have i3 : (s : Int) - 2 < (n : Int) := by omega
  have i4 : (s : Int) < (n : Int) + 2 := by omega
  have i5 : IntKind.i64.wrap ((s : Int) - 2) = (s : Int) - 2 := IntWalk.i64_in _ (by omega)
  have i6 : ((s : Int) - 2).toNat = s - 2 := by omega
  go_enter Tryd.func46, Tryd.ntmps46
  go_wp2_with fail
  go_region_held3 (fun w' => w'.cell? ⟨bp, 8, none⟩ = some (.int .i32 0) ∧ w'.cell? ⟨bp, 9, none⟩ = some (.int .i32 1) ∧ w'.cell? ⟨bp, 1, none⟩ = some (.slice (some ⟨g, 0, none⟩) n n) ∧ w'.cell? ⟨pb, s - 2, none⟩ = some (.int .u64 v)) (first | exact ⟨h8, h9, hk, hv⟩ | exact ⟨keep_blk h8 (Ne.symm n1), keep_blk h9 (Ne.symm n1), keep_blk hk (Ne.symm n1), keep_blk hv (Ne.symm n2)⟩)
    (first | fail)
  go_wp2_with fail
  go_ret
  exact ⟨rfl, HF.out, (Chg.setCell (S := (· = g)) (Chg.refl _) (.inl rfl) _).drew⟩

set_option maxHeartbeats 2000000 in
theorem fourW2_10 (bp g pb n cp s : Nat) (s0 s1 s3 : Value) (latest reading t0 t1 rp rq : Bool) (v : Int) (cs : Array Value) (w : World) (hb : Blk w bp 75 (fourCells s0 s1 (.slice (some ⟨g, 0, none⟩) n n) s3 latest reading t0 t1 true false rp rq))
    (hg : Blk w g 38 cs) (hsz : cs.size = n) (hv : w.cell? ⟨pb, s - 2, none⟩ = some (.int .u64 v)) (h2 : 2 ≤ s) (hlt : s < n + 2) (hn : n ≤ 4096) (n1 : g ≠ bp) (n2 : g ≠ pb) :
    Calls Tryd.prog 46 #[.pointer (some ⟨bp, 0, none⟩), .int .i64 (s : Int), .slice (some ⟨pb, 0, none⟩) n cp] w fun e w' => e = .returned (.bool false) ∧ Blk w' g 38 (cs.setIfInBounds (s - 2) (.int .u64 v)) ∧ Chg (· = g) w w' := by
  have h8 : w.cell? ⟨bp, 8, none⟩ = some (.int .i32 1) := hb.cell 8
  have h9 : w.cell? ⟨bp, 9, none⟩ = some (.int .i32 0) := hb.cell 9
  have hk : w.cell? ⟨bp, 2, none⟩ = some (.slice (some ⟨g, 0, none⟩) n n) := hb.cell 2
  obtain ⟨old, hc⟩ : ∃ old, w.cell? ⟨g, s - 2, none⟩ = some old := ⟨_, (hg.cell _).trans (Array.getElem?_eq_getElem (by omega))⟩
  have hf := hg.frozen (s - 2)
  have HF := Lib.hid (hg.set_ (s - 2) (.int .u64 v))
  have e0 : (((s : Nat) : Int) == 0) = false := beq_eq_false_iff_ne.2 (by omega)
  have e1 : (((s : Nat) : Int) == 1) = false := beq_eq_false_iff_ne.2 (by omega)
  clear hb hg hsz
  have i1 : (2 : Int) ≤ (s : Int) := by omega
  have i2 : (0 : Int) ≤ (s : Int) - 2 := by omega
  have i3 : (s : Int) - 2 < (n : Int) := by omega
  have i4 : (s : Int) < (n : Int) + 2 := by omega
  have i5 : IntKind.i64.wrap ((s : Int) - 2) = (s : Int) - 2 := IntWalk.i64_in _ (by omega)
  have i6 : ((s : Int) - 2).toNat = s - 2 := by omega
  go_enter Tryd.func46, Tryd.ntmps46
  go_wp2_with fail
  go_region_held3 (fun w' => w'.cell? ⟨bp, 8, none⟩ = some (.int .i32 1) ∧ w'.cell? ⟨bp, 9, none⟩ = some (.int .i32 0) ∧ w'.cell? ⟨bp, 2, none⟩ = some (.slice (some ⟨g, 0, none⟩) n n) ∧ w'.cell? ⟨pb, s - 2, none⟩ = some (.int .u64 v)) (first | exact ⟨h8, h9, hk, hv⟩ | exact ⟨keep_blk h8 (Ne.symm n1), keep_blk h9 (Ne.symm n1), keep_blk hk (Ne.symm n1), keep_blk hv (Ne.symm n2)⟩)
    (first | fail)
  go_wp2_with fail
  go_ret
  exact ⟨rfl, HF.out, (Chg.setCell (S := (· = g)) (Chg.refl _) (.inl rfl) _).drew⟩

set_option maxHeartbeats 2000000 in
theorem fourW2_11 (bp g pb n cp s : Nat) (s0 s1 s2 : Value) (latest reading t0 t1 rp rq : Bool) (v : Int) (cs : Array Value) (w : World) (hb : Blk w bp 75 (fourCells s0 s1 s2 (.slice (some ⟨g, 0, none⟩) n n) latest reading t0 t1 true true rp rq))
    (hg : Blk w g 38 cs) (hsz : cs.size = n) (hv : w.cell? ⟨pb, s - 2, none⟩ = some (.int .u64 v)) (h2 : 2 ≤ s) (hlt : s < n + 2) (hn : n ≤ 4096) (n1 : g ≠ bp) (n2 : g ≠ pb) :
    Calls Tryd.prog 46 #[.pointer (some ⟨bp, 0, none⟩), .int .i64 (s : Int), .slice (some ⟨pb, 0, none⟩) n cp] w fun e w' => e = .returned (.bool false) ∧ Blk w' g 38 (cs.setIfInBounds (s - 2) (.int .u64 v)) ∧ Chg (· = g) w w' := by
  have h8 : w.cell? ⟨bp, 8, none⟩ = some (.int .i32 1) := hb.cell 8
  have h9 : w.cell? ⟨bp, 9, none⟩ = some (.int .i32 1) := hb.cell 9
  have hk : w.cell? ⟨bp, 3, none⟩ = some (.slice (some ⟨g, 0, none⟩) n n) := hb.cell 3
  obtain ⟨old, hc⟩ : ∃ old, w.cell? ⟨g, s - 2, none⟩ = some old := ⟨_, (hg.cell _).trans (Array.getElem?_eq_getElem (by omega))⟩
  have hf := hg.frozen (s - 2)
  have HF := Lib.hid (hg.set_ (s - 2) (.int .u64 v))
  have e0 : (((s : Nat) : Int) == 0) = false := beq_eq_false_iff_ne.2 (by omega)
  have e1 : (((s : Nat) : Int) == 1) = false := beq_eq_false_iff_ne.2 (by omega)
  clear hb hg hsz
  have i1 : (2 : Int) ≤ (s : Int) := by omega
  have i2 : (0 : Int) ≤ (s : Int) - 2 := by omega
  have i3 : (s : Int) - 2 < (n : Int) := by omega
  have i4 : (s : Int) < (n : Int) + 2 := by omega
  have i5 : IntKind.i64.wrap ((s : Int) - 2) = (s : Int) - 2 := IntWalk.i64_in _ (by omega)
  have i6 : ((s : Int) - 2).toNat = s - 2 := by omega
  go_enter Tryd.func46, Tryd.ntmps46
  go_wp2_with fail
  go_region_held3 (fun w' => w'.cell? ⟨bp, 8, none⟩ = some (.int .i32 1) ∧ w'.cell? ⟨bp, 9, none⟩ = some (.int .i32 1) ∧ w'.cell? ⟨bp, 3, none⟩ = some (.slice (some ⟨g, 0, none⟩) n n) ∧ w'.cell? ⟨pb, s - 2, none⟩ = some (.int .u64 v)) (first | exact ⟨h8, h9, hk, hv⟩ | exact ⟨keep_blk h8 (Ne.symm n1), keep_blk h9 (Ne.symm n1), keep_blk hk (Ne.symm n1), keep_blk hv (Ne.symm n2)⟩)
    (first | fail)
  go_wp2_with fail
  go_ret
  exact ⟨rfl, HF.out, (Chg.setCell (S := (· = g)) (Chg.refl _) (.inl rfl) _).drew⟩

set_option maxHeartbeats 2000000 in
theorem fourW3_0 (bp n c : Nat) (A : Option Addr) (s0 s1 s2 s3 : Value) (latest reading t0 t1 wq rp rq : Bool) (w : World) (hb : Blk w bp 75 (fourCells s0 s1 s2 s3 latest reading t0 t1 false wq rp rq)) (hn : n ≤ 4096) (hn0 : 0 < n) :
    Calls Tryd.prog 46 #[.pointer (some ⟨bp, 0, none⟩), .int .i64 ((n : Int) + 2), .slice A n c] w fun e w' => e = .returned (.bool false) ∧ Blk w' bp 75 (fourCells s0 s1 s2 s3 latest reading wq t1 false wq rp rq) ∧ Chg (· = bp) w w' := by
  have h8 : w.cell? ⟨bp, 8, none⟩ = some (.int .i32 0) := hb.cell 8
  have h9 : w.cell? ⟨bp, 9, none⟩ = some (.int .i32 (bi wq)) := hb.cell 9
  have h6 : w.cell? ⟨bp, 6, none⟩ = some (.int .i32 (bi t0)) := hb.cell 6
  have f6 := hb.frozen 6
  have HF := Lib.hid (show Blk (w.setCell ⟨bp, 6, none⟩ (.int .i32 (bi wq))) bp 75 (fourCells s0 s1 s2 s3 latest reading wq t1 false wq rp rq) from hb.set_ 6 _)
  have e0 : (((n : Nat) : Int) + 2 == 0) = false := beq_eq_false_iff_ne.2 (by omega)
  have e1 : (((n : Nat) : Int) + 2 == 1) = false := beq_eq_false_iff_ne.2 (by omega)
  clear hb
  go_enter Tryd.func46, Tryd.ntmps46
  go_wp2_with fail
  go_region_held3 (fun w' => w'.cell? ⟨bp, 8, none⟩ = some (.int .i32 0) ∧ w'.cell? ⟨bp, 9, none⟩ = some (.int .i32 (bi wq))) (first | exact ⟨h8, h9⟩ | exact ⟨keep_far h8 (by simp), keep_far h9 (by simp)⟩)
    (first | (go_at_call 48; refine (store32 _ _ (bi wq) (.int .i32 (bi t0)) _ ?_ ?_).mono ?_; (simp [*]); (simp [*]); rintro e w' ⟨rfl, rfl⟩))
  go_wp2_with fail
  go_ret
  exact ⟨rfl, HF.out, (Chg.setCell (S := (· = bp)) (Chg.refl _) (.inl rfl) _).drew⟩

set_option maxHeartbeats 2000000 in
theorem fourW3_1 (bp n c : Nat) (A : Option Addr) (s0 s1 s2 s3 : Value) (latest reading t0 t1 wq rp rq : Bool) (w : World) (hb : Blk w bp 75 (fourCells s0 s1 s2 s3 latest reading t0 t1 true wq rp rq)) (hn : n ≤ 4096) (hn0 : 0 < n) :
    Calls Tryd.prog 46 #[.pointer (some ⟨bp, 0, none⟩), .int .i64 ((n : Int) + 2), .slice A n c] w fun e w' => e = .returned (.bool false) ∧ Blk w' bp 75 (fourCells s0 s1 s2 s3 latest reading t0 wq true wq rp rq) ∧ Chg (· = bp) w w' := by
  have h8 : w.cell? ⟨bp, 8, none⟩ = some (.int .i32 1) := hb.cell 8
  have h9 : w.cell? ⟨bp, 9, none⟩ = some (.int .i32 (bi wq)) := hb.cell 9
  have h6 : w.cell? ⟨bp, 7, none⟩ = some (.int .i32 (bi t1)) := hb.cell 7
  have f6 := hb.frozen 7
  have HF := Lib.hid (show Blk (w.setCell ⟨bp, 7, none⟩ (.int .i32 (bi wq))) bp 75 (fourCells s0 s1 s2 s3 latest reading t0 wq true wq rp rq) from hb.set_ 7 _)
  have e0 : (((n : Nat) : Int) + 2 == 0) = false := beq_eq_false_iff_ne.2 (by omega)
  have e1 : (((n : Nat) : Int) + 2 == 1) = false := beq_eq_false_iff_ne.2 (by omega)
  clear hb
  go_enter Tryd.func46, Tryd.ntmps46
  go_wp2_with fail
  go_region_held3 (fun w' => w'.cell? ⟨bp, 8, none⟩ = some (.int .i32 1) ∧ w'.cell? ⟨bp, 9, none⟩ = some (.int .i32 (bi wq))) (first | exact ⟨h8, h9⟩ | exact ⟨keep_far h8 (by simp), keep_far h9 (by simp)⟩)
    (first | (go_at_call 48; refine (store32 _ _ (bi wq) (.int .i32 (bi t1)) _ ?_ ?_).mono ?_; (simp [*]); (simp [*]); rintro e w' ⟨rfl, rfl⟩))
  go_wp2_with fail
  go_ret
  exact ⟨rfl, HF.out, (Chg.setCell (S := (· = bp)) (Chg.refl _) (.inl rfl) _).drew⟩

set_option maxHeartbeats 2000000 in
theorem fourW4 (bp n c : Nat) (A : Option Addr) (s0 s1 s2 s3 : Value) (latest reading t0 t1 wp wq rp rq : Bool) (w : World) (hb : Blk w bp 75 (fourCells s0 s1 s2 s3 latest reading t0 t1 wp wq rp rq)) (hn : n ≤ 4096) (hn0 : 0 < n) :
    Calls Tryd.prog 46 #[.pointer (some ⟨bp, 0, none⟩), .int .i64 ((n : Int) + 3), .slice A n c] w fun e w' => e = .returned (.bool true) ∧ Blk w' bp 75 (fourCells s0 s1 s2 s3 wp reading t0 t1 wp wq rp rq) ∧ Chg (· = bp) w w' := by
  have h8 : w.cell? ⟨bp, 8, none⟩ = some (.int .i32 (bi wp)) := hb.cell 8
  have h4 : w.cell? ⟨bp, 4, none⟩ = some (.int .i32 (bi latest)) := hb.cell 4
  have f4 := hb.frozen 4
  have HF := Lib.hid (show Blk (w.setCell ⟨bp, 4, none⟩ (.int .i32 (bi wp))) bp 75 (fourCells s0 s1 s2 s3 wp reading t0 t1 wp wq rp rq) from hb.set_ 4 _)
  have e0 : (((n : Nat) : Int) + 3 == 0) = false := beq_eq_false_iff_ne.2 (by omega)
  have e1 : (((n : Nat) : Int) + 3 == 1) = false := beq_eq_false_iff_ne.2 (by omega)
  have e2 : (((n : Nat) : Int) + 3 == (n : Int) + 2) = false := beq_eq_false_iff_ne.2 (by omega)
  clear hb
  go_enter Tryd.func46, Tryd.ntmps46
  go_wp2_with fail
  go_region_held3 (fun w' => w'.cell? ⟨bp, 8, none⟩ = some (.int .i32 (bi wp))) (first | exact h8 | exact keep_far h8 (by simp))
    (first | (go_at_call 48; refine (store32 _ _ (bi wp) (.int .i32 (bi latest)) _ ?_ ?_).mono ?_; (simp [*]); (simp [*]); rintro e w' ⟨rfl, rfl⟩))
  go_wp2_with fail
  go_ret
  exact ⟨rfl, HF.out, (Chg.setCell (S := (· = bp)) (Chg.refl _) (.inl rfl) _).drew⟩

end Go.Proofs.YtbdccfgeildebaaDoor
