/-
  The small steps of a reading of kind 1, each as what it does to the register's own block and to the row that is read into. Conditions: the blocks are there.
-/
import Derived.Test.YtbdccfgeildebaaDoorFourW
namespace Go.Proofs.YtbdccfgeildebaaDoor
open Go.RowKit Mem

set_option maxHeartbeats 1000000 in
theorem fourR0 (bp : Nat) (A : Option Addr) (n c : Nat) (s0 s1 s2 s3 : Value) (latest reading t0 t1 wp wq rp rq : Bool) (w : World) (hb : Blk w bp 75 (fourCells s0 s1 s2 s3 latest reading t0 t1 wp wq rp rq)) :
    Calls Tryd.prog 45 #[.pointer (some ⟨bp, 0, none⟩), .int .i64 0, .slice A n c] w fun e w' => e = .returned (.bool false) ∧ Blk w' bp 75 (fourCells s0 s1 s2 s3 latest reading t0 t1 wp wq latest rq) ∧ Chg (· = bp) w w' := by
  have h4 : w.cell? ⟨bp, 4, none⟩ = some (.int .i32 (bi latest)) := hb.cell 4
  have h10 : w.cell? ⟨bp, 10, none⟩ = some (.int .i32 (bi rp)) := hb.cell 10
  have f10 := hb.frozen 10
  have HF := Lib.hid (show Blk (w.setCell ⟨bp, 10, none⟩ (.int .i32 (bi latest))) bp 75 (fourCells s0 s1 s2 s3 latest reading t0 t1 wp wq latest rq) from hb.set_ 10 _)
  clear hb
  go_enter Tryd.func45, Tryd.ntmps45
  go_wp2_with (go_at_call 47; refine (load32 _ _ _ _ h4).mono ?_; rintro e w' ⟨rfl, rfl⟩)
  go_ret
  exact ⟨rfl, HF.out, Chg.setCell (S := (· = bp)) (Chg.refl _) (.inl rfl) _⟩

set_option maxHeartbeats 1000000 in
theorem fourR1 (bp : Nat) (A : Option Addr) (n c : Nat) (s0 s1 s2 s3 : Value) (latest reading t0 t1 wp wq rp rq : Bool) (w : World) (hb : Blk w bp 75 (fourCells s0 s1 s2 s3 latest reading t0 t1 wp wq rp rq)) :
    Calls Tryd.prog 45 #[.pointer (some ⟨bp, 0, none⟩), .int .i64 1, .slice A n c] w fun e w' => e = .returned (.bool false) ∧ Blk w' bp 75 (fourCells s0 s1 s2 s3 latest rp t0 t1 wp wq rp rq) ∧ Chg (· = bp) w w' := by
  have h10 : w.cell? ⟨bp, 10, none⟩ = some (.int .i32 (bi rp)) := hb.cell 10
  have h5 : w.cell? ⟨bp, 5, none⟩ = some (.int .i32 (bi reading)) := hb.cell 5
  have f5 := hb.frozen 5
  have HF := Lib.hid (show Blk (w.setCell ⟨bp, 5, none⟩ (.int .i32 (bi rp))) bp 75 (fourCells s0 s1 s2 s3 latest rp t0 t1 wp wq rp rq) from hb.set_ 5 _)
  clear hb
  go_enter Tryd.func45, Tryd.ntmps45
  go_wp2_with fail
  go_region_held3 (fun w' => w'.cell? ⟨bp, 10, none⟩ = some (.int .i32 (bi rp))) (first | exact h10 | exact keep_far h10 (by simp))
    (first | (go_at_call 48; refine (store32 _ _ (bi rp) (.int .i32 (bi reading)) _ ?_ ?_).mono ?_; (simp [*]); (simp [*]); rintro e w' ⟨rfl, rfl⟩))
  go_wp2_with fail
  go_ret
  exact ⟨rfl, HF.out, (Chg.setCell (S := (· = bp)) (Chg.refl _) (.inl rfl) _).drew⟩

set_option maxHeartbeats 1000000 in
theorem fourR2_0 (bp : Nat) (A : Option Addr) (n c : Nat) (s0 s1 s2 s3 : Value) (latest reading t0 t1 wp wq rq : Bool) (w : World) (hb : Blk w bp 75 (fourCells s0 s1 s2 s3 latest reading t0 t1 wp wq false rq)) :
    Calls Tryd.prog 45 #[.pointer (some ⟨bp, 0, none⟩), .int .i64 2, .slice A n c] w fun e w' => e = .returned (.bool false) ∧ Blk w' bp 75 (fourCells s0 s1 s2 s3 latest reading t0 t1 wp wq false t0) ∧ Chg (· = bp) w w' := by
  have h10 : w.cell? ⟨bp, 10, none⟩ = some (.int .i32 0) := hb.cell 10
  have h6 : w.cell? ⟨bp, 6, none⟩ = some (.int .i32 (bi t0)) := hb.cell 6
  have h11 : w.cell? ⟨bp, 11, none⟩ = some (.int .i32 (bi rq)) := hb.cell 11
  have f11 := hb.frozen 11
  have HF := Lib.hid (show Blk (w.setCell ⟨bp, 11, none⟩ (.int .i32 (bi t0))) bp 75 (fourCells s0 s1 s2 s3 latest reading t0 t1 wp wq false t0) from hb.set_ 11 _)
  clear hb
  go_enter Tryd.func45, Tryd.ntmps45
  go_wp2_with fail
  go_region_held3 (fun w' => w'.cell? ⟨bp, 10, none⟩ = some (.int .i32 0) ∧ w'.cell? ⟨bp, 6, none⟩ = some (.int .i32 (bi t0))) (first | exact ⟨h10, h6⟩ | exact ⟨keep_far h10 (by simp), keep_far h6 (by simp)⟩)
    (first | (go_at_call 47; refine (load32 _ _ (bi t0) _ ?_).mono ?_; (simp [*]); rintro e w' ⟨rfl, rfl⟩))
  go_wp2_with fail
  go_ret
  exact ⟨rfl, HF.out, (Chg.setCell (S := (· = bp)) (Chg.refl _) (.inl rfl) _).drew⟩

set_option maxHeartbeats 1000000 in
theorem fourR2_1 (bp : Nat) (A : Option Addr) (n c : Nat) (s0 s1 s2 s3 : Value) (latest reading t0 t1 wp wq rq : Bool) (w : World) (hb : Blk w bp 75 (fourCells s0 s1 s2 s3 latest reading t0 t1 wp wq true rq)) :
    Calls Tryd.prog 45 #[.pointer (some ⟨bp, 0, none⟩), .int .i64 2, .slice A n c] w fun e w' => e = .returned (.bool false) ∧ Blk w' bp 75 (fourCells s0 s1 s2 s3 latest reading t0 t1 wp wq true t1) ∧ Chg (· = bp) w w' := by
  have h10 : w.cell? ⟨bp, 10, none⟩ = some (.int .i32 1) := hb.cell 10
  have h6 : w.cell? ⟨bp, 7, none⟩ = some (.int .i32 (bi t1)) := hb.cell 7
  have h11 : w.cell? ⟨bp, 11, none⟩ = some (.int .i32 (bi rq)) := hb.cell 11
  have f11 := hb.frozen 11
  have HF := Lib.hid (show Blk (w.setCell ⟨bp, 11, none⟩ (.int .i32 (bi t1))) bp 75 (fourCells s0 s1 s2 s3 latest reading t0 t1 wp wq true t1) from hb.set_ 11 _)
  clear hb
  go_enter Tryd.func45, Tryd.ntmps45
  go_wp2_with fail
  go_region_held3 (fun w' => w'.cell? ⟨bp, 10, none⟩ = some (.int .i32 1) ∧ w'.cell? ⟨bp, 7, none⟩ = some (.int .i32 (bi t1))) (first | exact ⟨h10, h6⟩ | exact ⟨keep_far h10 (by simp), keep_far h6 (by simp)⟩)
    (first | (go_at_call 47; refine (load32 _ _ (bi t1) _ ?_).mono ?_; (simp [*]); rintro e w' ⟨rfl, rfl⟩))
  go_wp2_with fail
  go_ret
  exact ⟨rfl, HF.out, (Chg.setCell (S := (· = bp)) (Chg.refl _) (.inl rfl) _).drew⟩

set_option maxHeartbeats 2000000 in
theorem fourR3_00 (bp g ob n co s : Nat) (s1 s2 s3 : Value) (latest reading t0 t1 wp wq : Bool) (v : Int) (os : Array Value) (w : World) (hb : Blk w bp 75 (fourCells (.slice (some ⟨g, 0, none⟩) n n) s1 s2 s3 latest reading t0 t1 wp wq false false))
    (ho : Blk w ob 38 os) (hsz : os.size = n) (hv : w.cell? ⟨g, s - 3, none⟩ = some (.int .u64 v)) (h2 : 3 ≤ s) (hlt : s < n + 3) (hn : n ≤ 4096) (n1 : ob ≠ bp) (n2 : ob ≠ g) :
    Calls Tryd.prog 45 #[.pointer (some ⟨bp, 0, none⟩), .int .i64 (s : Int), .slice (some ⟨ob, 0, none⟩) n co] w fun e w' => e = .returned (.bool ((s : Int) - 3 == (n : Int) - 1)) ∧ Blk w' ob 38 (os.setIfInBounds (s - 3) (.int .u64 v)) ∧ Chg (· = ob) w w' := by
  have h10 : w.cell? ⟨bp, 10, none⟩ = some (.int .i32 0) := hb.cell 10
  have h11 : w.cell? ⟨bp, 11, none⟩ = some (.int .i32 0) := hb.cell 11
  have hk : w.cell? ⟨bp, 0, none⟩ = some (.slice (some ⟨g, 0, none⟩) n n) := hb.cell 0
  obtain ⟨old, hc⟩ : ∃ old, w.cell? ⟨ob, s - 3, none⟩ = some old := ⟨_, (ho.cell _).trans (Array.getElem?_eq_getElem (by omega))⟩
  have hf := ho.frozen (s - 3)
  have HF := Lib.hid (ho.set_ (s - 3) (.int .u64 v))
  have e0 : (((s : Nat) : Int) == 0) = false := beq_eq_false_iff_ne.2 (by omega)
  have e1 : (((s : Nat) : Int) == 1) = false := beq_eq_false_iff_ne.2 (by omega)
  have e2 : (((s : Nat) : Int) == 2) = false := beq_eq_false_iff_ne.2 (by omega)
  clear hb ho hsz
  have i1 : (3 : Int) ≤ (s : Int) := by omega
  have i2 : (0 : Int) ≤ (s : Int) - 3 := by omega
  have i3 : (s : Int) - 3 < (n : Int) := by omega
  have i4 : (s : Int) < (n : Int) + 3 := by omega
  have i5 : IntKind.i64.wrap ((s : Int) - 3) = (s : Int) - 3 := IntWalk.i64_in _ (by omega)
  have i6 : ((s : Int) - 3).toNat = s - 3 := by omega
  go_enter Tryd.func45, Tryd.ntmps45
  go_wp2_with fail
  go_region_held3 (fun w' => w'.cell? ⟨bp, 10, none⟩ = some (.int .i32 0) ∧ w'.cell? ⟨bp, 11, none⟩ = some (.int .i32 0) ∧ w'.cell? ⟨bp, 0, none⟩ = some (.slice (some ⟨g, 0, none⟩) n n) ∧ w'.cell? ⟨g, s - 3, none⟩ = some (.int .u64 v)) (first | exact ⟨h10, h11, hk, hv⟩ | exact ⟨keep_blk h10 (Ne.symm n1), keep_blk h11 (Ne.symm n1), keep_blk hk (Ne.symm n1), keep_blk hv (Ne.symm n2)⟩)
    (first | fail)
  go_wp2_with fail
  go_ret
  exact ⟨rfl, HF.out, (Chg.setCell (S := (· = ob)) (Chg.refl _) (.inl rfl) _).drew⟩

set_option maxHeartbeats 2000000 in
theorem fourR3_01 (bp g ob n co s : Nat) (s0 s2 s3 : Value) (latest reading t0 t1 wp wq : Bool) (v : Int) (os : Array Value) (w : World) (hb : Blk w bp 75 (fourCells s0 (.slice (some ⟨g, 0, none⟩) n n) s2 s3 latest reading t0 t1 wp wq false true))
    (ho : Blk w ob 38 os) (hsz : os.size = n) (hv : w.cell? ⟨g, s - 3, none⟩ = some (.int .u64 v)) (h2 : 3 ≤ s) (hlt : s < n + 3) (hn : n ≤ 4096) (n1 : ob ≠ bp) (n2 : ob ≠ g) :
    Calls Tryd.prog 45 #[.pointer (some ⟨bp, 0, none⟩), .int .i64 (s : Int), .slice (some ⟨ob, 0, none⟩) n co] w fun e w' => e = .returned (.bool ((s : Int) - 3 == (n : Int) - 1)) ∧ Blk w' ob 38 (os.setIfInBounds (s - 3) (.int .u64 v)) ∧ Chg (· = ob) w w' := by
  have h10 : w.cell? ⟨bp, 10, none⟩ = some (.int .i32 0) := hb.cell 10
  have h11 : w.cell? ⟨bp, 11, none⟩ = some (.int .i32 1) := hb.cell 11
  have hk : w.cell? ⟨bp, 1, none⟩ = some (.slice (some ⟨g, 0, none⟩) n n) := hb.cell 1
  obtain ⟨old, hc⟩ : ∃ old, w.cell? ⟨ob, s - 3, none⟩ = some old := ⟨_, (ho.cell _).trans (Array.getElem?_eq_getElem (by omega))⟩
  have hf := ho.frozen (s - 3)
  have HF := Lib.hid (ho.set_ (s - 3) (.int .u64 v))
  have e0 : (((s : Nat) : Int) == 0) = false := beq_eq_false_iff_ne.2 (by omega)
  have e1 : (((s : Nat) : Int) == 1) = false := beq_eq_false_iff_ne.2 (by omega)
  have e2 : (((s : Nat) : Int) == 2) = false := beq_eq_false_iff_ne.2 (by omega)
  clear hb ho hsz
  have i1 : (3 : Int) ≤ (s : Int) := by omega
  have i2 : (0 : Int) ≤ (s : Int) - 3 := by omega
  have i3 : (s : Int) - 3 < (n : Int) := by omega
  have i4 : (s : Int) < (n : Int) + 3 := by omega
  have i5 : IntKind.i64.wrap ((s : Int) - 3) = (s : Int) - 3 := IntWalk.i64_in _ (by omega)
  have i6 : ((s : Int) - 3).toNat = s - 3 := by omega
  go_enter Tryd.func45, Tryd.ntmps45
  go_wp2_with fail
  go_region_held3 (fun w' => w'.cell? ⟨bp, 10, none⟩ = some (.int .i32 0) ∧ w'.cell? ⟨bp, 11, none⟩ = some (.int .i32 1) ∧ w'.cell? ⟨bp, 1, none⟩ = some (.slice (some ⟨g, 0, none⟩) n n) ∧ w'.cell? ⟨g, s - 3, none⟩ = some (.int .u64 v)) (first | exact ⟨h10, h11, hk, hv⟩ | exact ⟨keep_blk h10 (Ne.symm n1), keep_blk h11 (Ne.symm n1), keep_blk hk (Ne.symm n1), keep_blk hv (Ne.symm n2)⟩)
    (first | fail)
  go_wp2_with fail
  go_ret
  exact ⟨rfl, HF.out, (Chg.setCell (S := (· = ob)) (Chg.refl _) (.inl rfl) _).drew⟩

set_option maxHeartbeats 2000000 in
theorem fourR3_10 (bp g ob n co s : Nat) (s0 s1 s3 : Value) (latest reading t0 t1 wp wq : Bool) (v : Int) (os : Array Value) (w : World) (hb : Blk w bp 75 (fourCells s0 s1 (.slice (some ⟨g, 0, none⟩) n n) s3 latest reading t0 t1 wp wq true false))
    (ho : Blk w ob 38 os) (hsz : os.size = n) (hv : w.cell? ⟨g, s - 3, none⟩ = some (.int .u64 v)) (h2 : 3 ≤ s) (hlt : s < n + 3) (hn : n ≤ 4096) (n1 : ob ≠ bp) (n2 : ob ≠ g) :
    Calls Tryd.prog 45 #[.pointer (some ⟨bp, 0, none⟩), .int .i64 (s : Int), .slice (some ⟨ob, 0, none⟩) n co] w fun e w' => e = .returned (.bool ((s : Int) - 3 == (n : Int) - 1)) ∧ Blk w' ob 38 (os.setIfInBounds (s - 3) (.int .u64 v)) ∧ Chg (· = ob) w w' := by
  have h10 : w.cell? ⟨bp, 10, none⟩ = some (.int .i32 1) := hb.cell 10
  have h11 : w.cell? ⟨bp, 11, none⟩ = some (.int .i32 0) := hb.cell 11
  have hk : w.cell? ⟨bp, 2, none⟩ = some (.slice (some ⟨g, 0, none⟩) n n) := hb.cell 2
  obtain ⟨old, hc⟩ : ∃ old, w.cell? ⟨ob, s - 3, none⟩ = some old := ⟨_, (ho.cell _).trans (Array.getElem?_eq_getElem (by omega))⟩
  have hf := ho.frozen (s - 3)
  have HF := Lib.hid (ho.set_ (s - 3) (.int .u64 v))
  have e0 : (((s : Nat) : Int) == 0) = false := beq_eq_false_iff_ne.2 (by omega)
  have e1 : (((s : Nat) : Int) == 1) = false := beq_eq_false_iff_ne.2 (by omega)
  have e2 : (((s : Nat) : Int) == 2) = false := beq_eq_false_iff_ne.2 (by omega)
  clear hb ho hsz
  have i1 : (3 : Int) ≤ (s : Int) := by omega
  have i2 : (0 : Int) ≤ (s : Int) - 3 := by omega
  have i3 : (s : Int) - 3 < (n : Int) := by omega
  have i4 : (s : Int) < (n : Int) + 3 := by omega
  have i5 : IntKind.i64.wrap ((s : Int) - 3) = (s : Int) - 3 := IntWalk.i64_in _ (by omega)
  have i6 : ((s : Int) - 3).toNat = s - 3 := by omega
  go_enter Tryd.func45, Tryd.ntmps45
  go_wp2_with fail
  go_region_held3 (fun w' => w'.cell? ⟨bp, 10, none⟩ = some (.int .i32 1) ∧ w'.cell? ⟨bp, 11, none⟩ = some (.int .i32 0) ∧ w'.cell? ⟨bp, 2, none⟩ = some (.slice (some ⟨g, 0, none⟩) n n) ∧ w'.cell? ⟨g, s - 3, none⟩ = some (.int .u64 v)) (first | exact ⟨h10, h11, hk, hv⟩ | exact ⟨keep_blk h10 (Ne.symm n1), keep_blk h11 (Ne.symm n1), keep_blk hk (Ne.symm n1), keep_blk hv (Ne.symm n2)⟩)
    (first | fail)
  go_wp2_with fail
  go_ret
  exact ⟨rfl, HF.out, (Chg.setCell (S := (· = ob)) (Chg.refl _) (.inl rfl) _).drew⟩

set_option maxHeartbeats 2000000 in
theorem fourR3_11 (bp g ob n co s : Nat) (s0 s1 s2 : Value) (latest reading t0 t1 wp wq : Bool) (v : Int) (os : Array Value) (w : World) (hb : Blk w bp 75 (fourCells s0 s1 s2 (.slice (some ⟨g, 0, none⟩) n n) latest reading t0 t1 wp wq true true))
    (ho : Blk w ob 38 os) (hsz : os.size = n) (hv : w.cell? ⟨g, s - 3, none⟩ = some (.int .u64 v)) (h2 : 3 ≤ s) (hlt : s < n + 3) (hn : n ≤ 4096) (n1 : ob ≠ bp) (n2 : ob ≠ g) :
    Calls Tryd.prog 45 #[.pointer (some ⟨bp, 0, none⟩), .int .i64 (s : Int), .slice (some ⟨ob, 0, none⟩) n co] w fun e w' => e = .returned (.bool ((s : Int) - 3 == (n : Int) - 1)) ∧ Blk w' ob 38 (os.setIfInBounds (s - 3) (.int .u64 v)) ∧ Chg (· = ob) w w' := by
  have h10 : w.cell? ⟨bp, 10, none⟩ = some (.int .i32 1) := hb.cell 10
  have h11 : w.cell? ⟨bp, 11, none⟩ = some (.int .i32 1) := hb.cell 11
  have hk : w.cell? ⟨bp, 3, none⟩ = some (.slice (some ⟨g, 0, none⟩) n n) := hb.cell 3
  obtain ⟨old, hc⟩ : ∃ old, w.cell? ⟨ob, s - 3, none⟩ = some old := ⟨_, (ho.cell _).trans (Array.getElem?_eq_getElem (by omega))⟩
  have hf := ho.frozen (s - 3)
  have HF := Lib.hid (ho.set_ (s - 3) (.int .u64 v))
  have e0 : (((s : Nat) : Int) == 0) = false := beq_eq_false_iff_ne.2 (by omega)
  have e1 : (((s : Nat) : Int) == 1) = false := beq_eq_false_iff_ne.2 (by omega)
  have e2 : (((s : Nat) : Int) == 2) = false := beq_eq_false_iff_ne.2 (by omega)
  clear hb ho hsz
  have i1 : (3 : Int) ≤ (s : Int) := by omega
  have i2 : (0 : Int) ≤ (s : Int) - 3 := by omega
  have i3 : (s : Int) - 3 < (n : Int) := by omega
  have i4 : (s : Int) < (n : Int) + 3 := by omega
  have i5 : IntKind.i64.wrap ((s : Int) - 3) = (s : Int) - 3 := IntWalk.i64_in _ (by omega)
  have i6 : ((s : Int) - 3).toNat = s - 3 := by omega
  go_enter Tryd.func45, Tryd.ntmps45
  go_wp2_with fail
  go_region_held3 (fun w' => w'.cell? ⟨bp, 10, none⟩ = some (.int .i32 1) ∧ w'.cell? ⟨bp, 11, none⟩ = some (.int .i32 1) ∧ w'.cell? ⟨bp, 3, none⟩ = some (.slice (some ⟨g, 0, none⟩) n n) ∧ w'.cell? ⟨g, s - 3, none⟩ = some (.int .u64 v)) (first | exact ⟨h10, h11, hk, hv⟩ | exact ⟨keep_blk h10 (Ne.symm n1), keep_blk h11 (Ne.symm n1), keep_blk hk (Ne.symm n1), keep_blk hv (Ne.symm n2)⟩)
    (first | fail)
  go_wp2_with fail
  go_ret
  exact ⟨rfl, HF.out, (Chg.setCell (S := (· = ob)) (Chg.refl _) (.inl rfl) _).drew⟩

end Go.Proofs.YtbdccfgeildebaaDoor
