/-
  The small steps of kinds 2 and 3, each as what it does to the register's own block and rows. Conditions: the blocks are there.
-/
import Derived.Test.YtbdccfgeildebaaDoorFourW
import Derived.Deep.RegionLaw
namespace Go.Proofs.YtbdccfgeildebaaDoor
open Go.RowKit Mem

/-- The middle word: the buffer's number, and 4 more if it is fresh. -/
def encM (m : Nat) (fresh : Bool) : Int := (m : Int) + (if fresh then 4 else 0)

/-- The register's own block, kind 2. -/
def threeCells (s0 s1 s2 : Value) (front back mid : Nat) (fresh : Bool) : Array Value :=
  #[s0, s1, s2, .int .u32 (front : Int), .int .u32 (back : Int), .int .u32 (encM mid fresh)]

theorem enc_or (b : Nat) (h : b < 3) : bits .or .u32 (b : Int) 4 = encM b true := by
  rcases (by omega : b = 0 ∨ b = 1 ∨ b = 2) with rfl | rfl | rfl <;> decide
theorem enc_clear (m : Nat) (fresh : Bool) (h : m < 3) : bits .andNot .u32 (encM m fresh) 4 = (m : Int) := by
  rcases (by omega : m = 0 ∨ m = 1 ∨ m = 2) with rfl | rfl | rfl <;> cases fresh <;> decide
theorem enc_and (m : Nat) (fresh : Bool) (h : m < 3) : bits .and .u32 (encM m fresh) 4 = if fresh then 4 else 0 := by
  rcases (by omega : m = 0 ∨ m = 1 ∨ m = 2) with rfl | rfl | rfl <;> cases fresh <;> decide

set_option maxHeartbeats 2000000 in
theorem threeWn (bp : Nat) (A : Option Addr) (n c : Nat) (s0 s1 s2 : Value) (front back mid : Nat) (fresh : Bool) (w : World) (hb : Blk w bp 82 (threeCells s0 s1 s2 front back mid fresh)) (hbk : back < 3) (hm : mid < 3) :
    Calls Tryd.prog 52 #[.pointer (some ⟨bp, 0, none⟩), .int .i64 (n : Int), .slice A n c] w fun e w' => e = .returned (.bool true) ∧ Blk w' bp 82 (threeCells s0 s1 s2 front mid back true) ∧ Chg (· = bp) w w' := by
  have h4 : w.cell? ⟨bp, 4, none⟩ = some (.int .u32 (back : Int)) := hb.cell 4
  have h5 : w.cell? ⟨bp, 5, none⟩ = some (.int .u32 (encM mid fresh)) := hb.cell 5
  have f4 := hb.frozen 4
  have f5 := hb.frozen 5
  have g1 := enc_or back hbk
  have g2 := enc_clear mid fresh hm
  have HF := Lib.hid (show Blk ((w.setCell ⟨bp, 5, none⟩ (.int .u32 (encM back true))).setCell ⟨bp, 4, none⟩ (.int .u32 (mid : Int))) bp 82 (threeCells s0 s1 s2 front mid back true) from (hb.set_ 5 _).set_ 4 _)
  clear hb
  go_enter Tryd.func52, Tryd.ntmps52
  go_wp2_with fail
  go_region_law (first | (go_simp; go_at_call 54; refine (swapu32 _ _ (encM mid fresh) (encM back true) _ ?_ ?_).mono ?_; (simp [*]); (simp [*]); rintro e w' ⟨rfl, rfl⟩))
  all_goals (go_wp2_with fail; go_ret)
  all_goals exact ⟨rfl, HF.out, (Chg.setCell (S := (· = bp)) (Chg.setCell (S := (· = bp)) (Chg.refl _) (.inl rfl) _) (.inl rfl) _).drew⟩

set_option maxHeartbeats 2000000 in
theorem threeWs_0 (bp g pb n cp s : Nat) (s1 s2 : Value) (front mid : Nat) (fresh : Bool) (v : Int) (cs : Array Value) (w : World) (hb : Blk w bp 82 (threeCells (.slice (some ⟨g, 0, none⟩) n n) s1 s2 front 0 mid fresh))
    (hg : Blk w g 38 cs) (hsz : cs.size = n) (hv : w.cell? ⟨pb, s, none⟩ = some (.int .u64 v)) (hlt : s < n) (n1 : g ≠ bp) (n2 : g ≠ pb) :
    Calls Tryd.prog 52 #[.pointer (some ⟨bp, 0, none⟩), .int .i64 (s : Int), .slice (some ⟨pb, 0, none⟩) n cp] w fun e w' => e = .returned (.bool false) ∧ Blk w' g 38 (cs.setIfInBounds s (.int .u64 v)) ∧ Chg (· = g) w w' := by
  have h4 : w.cell? ⟨bp, 4, none⟩ = some (.int .u32 0) := hb.cell 4
  have hk : w.cell? ⟨bp, 0, none⟩ = some (.slice (some ⟨g, 0, none⟩) n n) := hb.cell 0
  obtain ⟨old, hc⟩ : ∃ old, w.cell? ⟨g, s, none⟩ = some old := ⟨_, (hg.cell _).trans (Array.getElem?_eq_getElem (by omega))⟩
  have hf := hg.frozen s
  have HF := Lib.hid (hg.set_ s (.int .u64 v))
  clear hb hg hsz
  have i2 : (0 : Int) ≤ (s : Int) := by omega
  have i3 : (s : Int) < (n : Int) := by omega
  go_enter Tryd.func52, Tryd.ntmps52
  go_wp2_with fail
  go_region_held3 (fun w' => w'.cell? ⟨bp, 4, none⟩ = some (.int .u32 0) ∧ w'.cell? ⟨bp, 0, none⟩ = some (.slice (some ⟨g, 0, none⟩) n n) ∧ w'.cell? ⟨pb, s, none⟩ = some (.int .u64 v)) (first | exact ⟨h4, hk, hv⟩ | exact ⟨keep_blk h4 (Ne.symm n1), keep_blk hk (Ne.symm n1), keep_blk hv (Ne.symm n2)⟩)
    (first | fail)
  go_wp2_with fail
  go_ret
  exact ⟨rfl, HF.out, (Chg.setCell (S := (· = g)) (Chg.refl _) (.inl rfl) _).drew⟩

set_option maxHeartbeats 2000000 in
theorem threeWs_1 (bp g pb n cp s : Nat) (s0 s2 : Value) (front mid : Nat) (fresh : Bool) (v : Int) (cs : Array Value) (w : World) (hb : Blk w bp 82 (threeCells s0 (.slice (some ⟨g, 0, none⟩) n n) s2 front 1 mid fresh))
    (hg : Blk w g 38 cs) (hsz : cs.size = n) (hv : w.cell? ⟨pb, s, none⟩ = some (.int .u64 v)) (hlt : s < n) (n1 : g ≠ bp) (n2 : g ≠ pb) :
    Calls Tryd.prog 52 #[.pointer (some ⟨bp, 0, none⟩), .int .i64 (s : Int), .slice (some ⟨pb, 0, none⟩) n cp] w fun e w' => e = .returned (.bool false) ∧ Blk w' g 38 (cs.setIfInBounds s (.int .u64 v)) ∧ Chg (· = g) w w' := by
  have h4 : w.cell? ⟨bp, 4, none⟩ = some (.int .u32 1) := hb.cell 4
  have hk : w.cell? ⟨bp, 1, none⟩ = some (.slice (some ⟨g, 0, none⟩) n n) := hb.cell 1
  obtain ⟨old, hc⟩ : ∃ old, w.cell? ⟨g, s, none⟩ = some old := ⟨_, (hg.cell _).trans (Array.getElem?_eq_getElem (by omega))⟩
  have hf := hg.frozen s
  have HF := Lib.hid (hg.set_ s (.int .u64 v))
  clear hb hg hsz
  have i2 : (0 : Int) ≤ (s : Int) := by omega
  have i3 : (s : Int) < (n : Int) := by omega
  go_enter Tryd.func52, Tryd.ntmps52
  go_wp2_with fail
  go_region_held3 (fun w' => w'.cell? ⟨bp, 4, none⟩ = some (.int .u32 1) ∧ w'.cell? ⟨bp, 1, none⟩ = some (.slice (some ⟨g, 0, none⟩) n n) ∧ w'.cell? ⟨pb, s, none⟩ = some (.int .u64 v)) (first | exact ⟨h4, hk, hv⟩ | exact ⟨keep_blk h4 (Ne.symm n1), keep_blk hk (Ne.symm n1), keep_blk hv (Ne.symm n2)⟩)
    (first | fail)
  go_wp2_with fail
  go_ret
  exact ⟨rfl, HF.out, (Chg.setCell (S := (· = g)) (Chg.refl _) (.inl rfl) _).drew⟩

set_option maxHeartbeats 2000000 in
theorem threeWs_2 (bp g pb n cp s : Nat) (s0 s1 : Value) (front mid : Nat) (fresh : Bool) (v : Int) (cs : Array Value) (w : World) (hb : Blk w bp 82 (threeCells s0 s1 (.slice (some ⟨g, 0, none⟩) n n) front 2 mid fresh))
    (hg : Blk w g 38 cs) (hsz : cs.size = n) (hv : w.cell? ⟨pb, s, none⟩ = some (.int .u64 v)) (hlt : s < n) (n1 : g ≠ bp) (n2 : g ≠ pb) :
    Calls Tryd.prog 52 #[.pointer (some ⟨bp, 0, none⟩), .int .i64 (s : Int), .slice (some ⟨pb, 0, none⟩) n cp] w fun e w' => e = .returned (.bool false) ∧ Blk w' g 38 (cs.setIfInBounds s (.int .u64 v)) ∧ Chg (· = g) w w' := by
  have h4 : w.cell? ⟨bp, 4, none⟩ = some (.int .u32 2) := hb.cell 4
  have hk : w.cell? ⟨bp, 2, none⟩ = some (.slice (some ⟨g, 0, none⟩) n n) := hb.cell 2
  obtain ⟨old, hc⟩ : ∃ old, w.cell? ⟨g, s, none⟩ = some old := ⟨_, (hg.cell _).trans (Array.getElem?_eq_getElem (by omega))⟩
  have hf := hg.frozen s
  have HF := Lib.hid (hg.set_ s (.int .u64 v))
  clear hb hg hsz
  have i2 : (0 : Int) ≤ (s : Int) := by omega
  have i3 : (s : Int) < (n : Int) := by omega
  go_enter Tryd.func52, Tryd.ntmps52
  go_wp2_with fail
  go_region_held3 (fun w' => w'.cell? ⟨bp, 4, none⟩ = some (.int .u32 2) ∧ w'.cell? ⟨bp, 2, none⟩ = some (.slice (some ⟨g, 0, none⟩) n n) ∧ w'.cell? ⟨pb, s, none⟩ = some (.int .u64 v)) (first | exact ⟨h4, hk, hv⟩ | exact ⟨keep_blk h4 (Ne.symm n1), keep_blk hk (Ne.symm n1), keep_blk hv (Ne.symm n2)⟩)
    (first | fail)
  go_wp2_with fail
  go_ret
  exact ⟨rfl, HF.out, (Chg.setCell (S := (· = g)) (Chg.refl _) (.inl rfl) _).drew⟩

set_option maxHeartbeats 2000000 in
theorem threeR0_no (bp : Nat) (A : Option Addr) (n c : Nat) (s0 s1 s2 : Value) (front back mid : Nat) (w : World) (hb : Blk w bp 82 (threeCells s0 s1 s2 front back mid false)) (hm : mid < 3) :
    Calls Tryd.prog 51 #[.pointer (some ⟨bp, 0, none⟩), .int .i64 0, .slice A n c] w fun e w' => e = .returned (.bool false) ∧ w = w' := by
  have h5 : w.cell? ⟨bp, 5, none⟩ = some (.int .u32 (encM mid false)) := hb.cell 5
  have g3 : bits .and .u32 (encM mid false) 4 = 0 := enc_and mid false hm
  clear hb
  go_enter Tryd.func51, Tryd.ntmps51
  go_wp2_with (go_at_call 53; refine (loadu32 _ _ _ _ h5).mono ?_; rintro e w' ⟨rfl, rfl⟩)
  go_ret
  exact ⟨rfl, rfl⟩

theorem enc_plain (m : Nat) : encM m false = (m : Int) := by simp [encM]

set_option maxHeartbeats 2000000 in
theorem threeR0_yes (bp : Nat) (A : Option Addr) (n c : Nat) (s0 s1 s2 : Value) (front back mid : Nat) (w : World) (hb : Blk w bp 82 (threeCells s0 s1 s2 front back mid true)) (hm : mid < 3) :
    Calls Tryd.prog 51 #[.pointer (some ⟨bp, 0, none⟩), .int .i64 0, .slice A n c] w fun e w' => e = .returned (.bool false) ∧ Blk w' bp 82 (threeCells s0 s1 s2 mid back front false) ∧ Chg (· = bp) w w' := by
  have h3 : w.cell? ⟨bp, 3, none⟩ = some (.int .u32 (front : Int)) := hb.cell 3
  have h5 : w.cell? ⟨bp, 5, none⟩ = some (.int .u32 (encM mid true)) := hb.cell 5
  have f3 := hb.frozen 3
  have f5 := hb.frozen 5
  have g2 := enc_clear mid true hm
  have g3 : bits .and .u32 (encM mid true) 4 = 4 := enc_and mid true hm
  have HF := Lib.hid (show Blk ((w.setCell ⟨bp, 5, none⟩ (.int .u32 (front : Int))).setCell ⟨bp, 3, none⟩ (.int .u32 (mid : Int))) bp 82 (threeCells s0 s1 s2 mid back front false) from by
    have := (hb.set_ 5 (.int .u32 (front : Int))).set_ 3 (.int .u32 (mid : Int))
    rw [show threeCells s0 s1 s2 mid back front false = #[s0, s1, s2, .int .u32 (mid : Int), .int .u32 (back : Int), .int .u32 (front : Int)] from by simp [threeCells, enc_plain]]
    exact this)
  clear hb
  go_enter Tryd.func51, Tryd.ntmps51
  go_wp2_with (go_at_call 53; refine (loadu32 _ _ _ _ h5).mono ?_; rintro e w' ⟨rfl, rfl⟩)
  go_region_law (first | (go_simp; go_at_call 54; refine (swapu32 _ _ (encM mid true) (front : Int) _ ?_ ?_).mono ?_; (simp [*]); (simp [*]); rintro e w' ⟨rfl, rfl⟩))
  all_goals (go_wp2_with fail; go_ret)
  all_goals exact ⟨rfl, HF.out, (Chg.setCell (S := (· = bp)) (Chg.setCell (S := (· = bp)) (Chg.refl _) (.inl rfl) _) (.inl rfl) _).drew⟩

set_option maxHeartbeats 2000000 in
theorem threeRs_0 (bp g ob n co s : Nat) (s1 s2 : Value) (back mid : Nat) (fresh : Bool) (v : Int) (os : Array Value) (w : World) (hb : Blk w bp 82 (threeCells (.slice (some ⟨g, 0, none⟩) n n) s1 s2 0 back mid fresh))
    (ho : Blk w ob 38 os) (hsz : os.size = n) (hv : w.cell? ⟨g, s - 1, none⟩ = some (.int .u64 v)) (h1 : 1 ≤ s) (hlt : s < n + 1) (hn : n ≤ 4096) (n1 : ob ≠ bp) (n2 : ob ≠ g) :
    Calls Tryd.prog 51 #[.pointer (some ⟨bp, 0, none⟩), .int .i64 (s : Int), .slice (some ⟨ob, 0, none⟩) n co] w fun e w' => e = .returned (.bool ((s : Int) == (n : Int))) ∧ Blk w' ob 38 (os.setIfInBounds (s - 1) (.int .u64 v)) ∧ Chg (· = ob) w w' := by
  have h3 : w.cell? ⟨bp, 3, none⟩ = some (.int .u32 0) := hb.cell 3
  have hk : w.cell? ⟨bp, 0, none⟩ = some (.slice (some ⟨g, 0, none⟩) n n) := hb.cell 0
  obtain ⟨old, hc⟩ : ∃ old, w.cell? ⟨ob, s - 1, none⟩ = some old := ⟨_, (ho.cell _).trans (Array.getElem?_eq_getElem (by omega))⟩
  have hf := ho.frozen (s - 1)
  have HF := Lib.hid (ho.set_ (s - 1) (.int .u64 v))
  have e0 : (((s : Nat) : Int) == 0) = false := beq_eq_false_iff_ne.2 (by omega)
  clear hb ho hsz
  have i1 : (1 : Int) ≤ (s : Int) := by omega
  have i2 : (0 : Int) ≤ (s : Int) - 1 := by omega
  have i3 : (s : Int) - 1 < (n : Int) := by omega
  have i4 : (s : Int) < (n : Int) + 1 := by omega
  have i5 : IntKind.i64.wrap ((s : Int) - 1) = (s : Int) - 1 := IntWalk.i64_in _ (by omega)
  have i6 : ((s : Int) - 1).toNat = s - 1 := by omega
  go_enter Tryd.func51, Tryd.ntmps51
  go_wp2_with fail
  go_region_held3 (fun w' => w'.cell? ⟨bp, 3, none⟩ = some (.int .u32 0) ∧ w'.cell? ⟨bp, 0, none⟩ = some (.slice (some ⟨g, 0, none⟩) n n) ∧ w'.cell? ⟨g, s - 1, none⟩ = some (.int .u64 v)) (first | exact ⟨h3, hk, hv⟩ | exact ⟨keep_blk h3 (Ne.symm n1), keep_blk hk (Ne.symm n1), keep_blk hv (Ne.symm n2)⟩)
    (first | fail)
  go_wp2_with fail
  go_ret
  exact ⟨rfl, HF.out, (Chg.setCell (S := (· = ob)) (Chg.refl _) (.inl rfl) _).drew⟩

set_option maxHeartbeats 2000000 in
theorem threeRs_1 (bp g ob n co s : Nat) (s0 s2 : Value) (back mid : Nat) (fresh : Bool) (v : Int) (os : Array Value) (w : World) (hb : Blk w bp 82 (threeCells s0 (.slice (some ⟨g, 0, none⟩) n n) s2 1 back mid fresh))
    (ho : Blk w ob 38 os) (hsz : os.size = n) (hv : w.cell? ⟨g, s - 1, none⟩ = some (.int .u64 v)) (h1 : 1 ≤ s) (hlt : s < n + 1) (hn : n ≤ 4096) (n1 : ob ≠ bp) (n2 : ob ≠ g) :
    Calls Tryd.prog 51 #[.pointer (some ⟨bp, 0, none⟩), .int .i64 (s : Int), .slice (some ⟨ob, 0, none⟩) n co] w fun e w' => e = .returned (.bool ((s : Int) == (n : Int))) ∧ Blk w' ob 38 (os.setIfInBounds (s - 1) (.int .u64 v)) ∧ Chg (· = ob) w w' := by
  have h3 : w.cell? ⟨bp, 3, none⟩ = some (.int .u32 1) := hb.cell 3
  have hk : w.cell? ⟨bp, 1, none⟩ = some (.slice (some ⟨g, 0, none⟩) n n) := hb.cell 1
  obtain ⟨old, hc⟩ : ∃ old, w.cell? ⟨ob, s - 1, none⟩ = some old := ⟨_, (ho.cell _).trans (Array.getElem?_eq_getElem (by omega))⟩
  have hf := ho.frozen (s - 1)
  have HF := Lib.hid (ho.set_ (s - 1) (.int .u64 v))
  have e0 : (((s : Nat) : Int) == 0) = false := beq_eq_false_iff_ne.2 (by omega)
  clear hb ho hsz
  have i1 : (1 : Int) ≤ (s : Int) := by omega
  have i2 : (0 : Int) ≤ (s : Int) - 1 := by omega
  have i3 : (s : Int) - 1 < (n : Int) := by omega
  have i4 : (s : Int) < (n : Int) + 1 := by omega
  have i5 : IntKind.i64.wrap ((s : Int) - 1) = (s : Int) - 1 := IntWalk.i64_in _ (by omega)
  have i6 : ((s : Int) - 1).toNat = s - 1 := by omega
  go_enter Tryd.func51, Tryd.ntmps51
  go_wp2_with fail
  go_region_held3 (fun w' => w'.cell? ⟨bp, 3, none⟩ = some (.int .u32 1) ∧ w'.cell? ⟨bp, 1, none⟩ = some (.slice (some ⟨g, 0, none⟩) n n) ∧ w'.cell? ⟨g, s - 1, none⟩ = some (.int .u64 v)) (first | exact ⟨h3, hk, hv⟩ | exact ⟨keep_blk h3 (Ne.symm n1), keep_blk hk (Ne.symm n1), keep_blk hv (Ne.symm n2)⟩)
    (first | fail)
  go_wp2_with fail
  go_ret
  exact ⟨rfl, HF.out, (Chg.setCell (S := (· = ob)) (Chg.refl _) (.inl rfl) _).drew⟩

set_option maxHeartbeats 2000000 in
theorem threeRs_2 (bp g ob n co s : Nat) (s0 s1 : Value) (back mid : Nat) (fresh : Bool) (v : Int) (os : Array Value) (w : World) (hb : Blk w bp 82 (threeCells s0 s1 (.slice (some ⟨g, 0, none⟩) n n) 2 back mid fresh))
    (ho : Blk w ob 38 os) (hsz : os.size = n) (hv : w.cell? ⟨g, s - 1, none⟩ = some (.int .u64 v)) (h1 : 1 ≤ s) (hlt : s < n + 1) (hn : n ≤ 4096) (n1 : ob ≠ bp) (n2 : ob ≠ g) :
    Calls Tryd.prog 51 #[.pointer (some ⟨bp, 0, none⟩), .int .i64 (s : Int), .slice (some ⟨ob, 0, none⟩) n co] w fun e w' => e = .returned (.bool ((s : Int) == (n : Int))) ∧ Blk w' ob 38 (os.setIfInBounds (s - 1) (.int .u64 v)) ∧ Chg (· = ob) w w' := by
  have h3 : w.cell? ⟨bp, 3, none⟩ = some (.int .u32 2) := hb.cell 3
  have hk : w.cell? ⟨bp, 2, none⟩ = some (.slice (some ⟨g, 0, none⟩) n n) := hb.cell 2
  obtain ⟨old, hc⟩ : ∃ old, w.cell? ⟨ob, s - 1, none⟩ = some old := ⟨_, (ho.cell _).trans (Array.getElem?_eq_getElem (by omega))⟩
  have hf := ho.frozen (s - 1)
  have HF := Lib.hid (ho.set_ (s - 1) (.int .u64 v))
  have e0 : (((s : Nat) : Int) == 0) = false := beq_eq_false_iff_ne.2 (by omega)
  clear hb ho hsz
  have i1 : (1 : Int) ≤ (s : Int) := by omega
  have i2 : (0 : Int) ≤ (s : Int) - 1 := by omega
  have i3 : (s : Int) - 1 < (n : Int) := by omega
  have i4 : (s : Int) < (n : Int) + 1 := by omega
  have i5 : IntKind.i64.wrap ((s : Int) - 1) = (s : Int) - 1 := IntWalk.i64_in _ (by omega)
  have i6 : ((s : Int) - 1).toNat = s - 1 := by omega
  go_enter Tryd.func51, Tryd.ntmps51
  go_wp2_with fail
  go_region_held3 (fun w' => w'.cell? ⟨bp, 3, none⟩ = some (.int .u32 2) ∧ w'.cell? ⟨bp, 2, none⟩ = some (.slice (some ⟨g, 0, none⟩) n n) ∧ w'.cell? ⟨g, s - 1, none⟩ = some (.int .u64 v)) (first | exact ⟨h3, hk, hv⟩ | exact ⟨keep_blk h3 (Ne.symm n1), keep_blk hk (Ne.symm n1), keep_blk hv (Ne.symm n2)⟩)
    (first | fail)
  go_wp2_with fail
  go_ret
  exact ⟨rfl, HF.out, (Chg.setCell (S := (· = ob)) (Chg.refl _) (.inl rfl) _).drew⟩

set_option maxHeartbeats 2000000 in
theorem oneW (bp pb n cp s : Nat) (v x : Int) (w : World) (hb : Blk w bp 89 #[.int .u64 x]) (hv : w.cell? ⟨pb, 0, none⟩ = some (.int .u64 v)) (hn : n ≤ 4096) (hn0 : 0 < n) (n1 : pb ≠ bp) :
    Calls Tryd.prog 58 #[.pointer (some ⟨bp, 0, none⟩), .int .i64 (s : Int), .slice (some ⟨pb, 0, none⟩) n cp] w fun e w' => e = .returned (.bool true) ∧ Blk w' bp 89 #[.int .u64 v] ∧ Chg (· = bp) w w' := by
  have h0 : w.cell? ⟨bp, 0, none⟩ = some (.int .u64 x) := hb.cell 0
  have f0 := hb.frozen 0
  have HF := Lib.hid (show Blk (w.setCell ⟨bp, 0, none⟩ (.int .u64 v)) bp 89 #[.int .u64 v] from hb.set_ 0 _)
  clear hb
  have i2 : (0 : Int) < (n : Int) := by omega
  go_enter Tryd.func58, Tryd.ntmps58
  go_wp2_with fail
  go_region_held3 (fun w' => w'.cell? ⟨pb, 0, none⟩ = some (.int .u64 v)) (first | exact hv | exact keep_blk hv n1)
    (first | (go_at_call 26; refine (storeu64 _ _ v (.int .u64 x) _ ?_ ?_).mono ?_; (simp [*]); (simp [*]); rintro e w' ⟨rfl, rfl⟩))
  go_wp2_with fail
  go_ret
  exact ⟨rfl, HF.out, (Chg.setCell (S := (· = bp)) (Chg.refl _) (.inl rfl) _).drew⟩

set_option maxHeartbeats 2000000 in
theorem oneR (bp ob n co s : Nat) (x : Int) (os : Array Value) (w : World) (hb : Blk w bp 89 #[.int .u64 x]) (ho : Blk w ob 38 os) (hsz : os.size = n) (hn : n ≤ 4096) (hn0 : 0 < n) :
    Calls Tryd.prog 57 #[.pointer (some ⟨bp, 0, none⟩), .int .i64 (s : Int), .slice (some ⟨ob, 0, none⟩) n co] w fun e w' => e = .returned (.bool true) ∧ Blk w' ob 38 (os.setIfInBounds 0 (.int .u64 x)) ∧ Chg (· = ob) w w' := by
  have h0 : w.cell? ⟨bp, 0, none⟩ = some (.int .u64 x) := hb.cell 0
  obtain ⟨old, hc⟩ : ∃ old, w.cell? ⟨ob, 0, none⟩ = some old := ⟨_, (ho.cell _).trans (Array.getElem?_eq_getElem (by omega))⟩
  have hf := ho.frozen 0
  have HF := Lib.hid (ho.set_ 0 (.int .u64 x))
  clear hb ho hsz
  have i2 : (0 : Int) < (n : Int) := by omega
  go_enter Tryd.func57, Tryd.ntmps57
  go_wp2_with (go_at_call 59; refine (loadu64 _ _ _ _ h0).mono ?_; rintro e w' ⟨rfl, rfl⟩)
  go_ret
  exact ⟨rfl, HF.out, Chg.setCell (S := (· = ob)) (Chg.refl _) (.inl rfl) _⟩

end Go.Proofs.YtbdccfgeildebaaDoor
