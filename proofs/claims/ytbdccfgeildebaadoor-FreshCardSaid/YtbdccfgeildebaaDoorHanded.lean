/-
  handed: it returns true. No condition.
-/
import Derived.Test.YtbdccfgeildebaaDoorScript
import Derived.Test.YtbdccfgeildebaaDoorRun
namespace Go.Proofs.YtbdccfgeildebaaDoor
open Go.RowKit Mem Abs

theorem RegOk.room {B : Nat} {w : World} {br : Nat} {σ : St} (h : RegOk B w br σ) : B ≤ w.heap.size := by
  obtain ⟨L, h⟩ := h
  have := h.lowr
  have := h.reg.lt
  omega

theorem hd_read {B : Nat} {w : World} {br v : Nat} {σ : St} (h : RegOk B w br σ) (hh : Holds v σ) :
    Calls Tryd.prog 11 #[.pointer (some ⟨br, 0, none⟩)] w fun e w' => e = .returned (.int .i64 0) ∧ RegOk B w' br σ.read ∧ Below B w w' := by
  have hB := h.room
  obtain ⟨L, h⟩ := h
  exact (plainRead_ok h hB hh.2.1).mono fun e w' ⟨h1, h2, h3⟩ => ⟨h1, h2, h3.below hB fun k e => e ▸ h.lowr⟩

theorem hd_more {B : Nat} {w : World} {br : Nat} {σ : St} (h : RegOk B w br σ) (hr : σ.rd = true) (ho : σ.overR = false) :
    Calls Tryd.prog 12 #[.pointer (some ⟨br, 0, none⟩)] w fun e w' => e = .returned (.tuple #[.bool false, .slice none 0 0, .int .i64 0]) ∧ RegOk B w' br σ.stepR ∧ Below B w w' := by
  have hB := h.room
  obtain ⟨L, h⟩ := h
  refine (plainStepR_more h hr ho).mono fun e w' ⟨h1, h2, h3⟩ => ⟨h1, h2, h3.below hB fun k e => ?_⟩
  rcases e with e | e | e
  · exact e ▸ h.lowr
  · exact h.low k e
  · exact e ▸ (h.out hr).2.2.2.2.1

def OverPost (B br v : Nat) (σ : St) (w : World) (e : Ending) (w' : World) : Prop :=
  ∃ g cap cur, e = .returned (.tuple #[.bool true, .slice (some ⟨g, 0, none⟩) 1 cap, .int .i64 0]) ∧ RowAt w' g 1 [v] cur ∧ RegOk B w' br σ.stepR ∧ Below B w w'
theorem hd_over {B : Nat} {w : World} {br v : Nat} {σ : St} (h : RegOk B w br σ) (hr : σ.rd = true) (ho : σ.overR = true) (hn : σ.n = 1) (hv : σ.stepR.out = [v]) :
    Calls Tryd.prog 12 #[.pointer (some ⟨br, 0, none⟩)] w (OverPost B br v σ w) := by
  have hB := h.room
  obtain ⟨L, h⟩ := h
  refine (plainStepR_over h hr ho).mono fun e w' ⟨g, cap, cur, h1, _, h2, h3, h4⟩ => ⟨g, cap, cur, by rw [h1, hn], by rw [hn, hv] at h2; exact h2, h3, h4.below hB fun k e => ?_⟩
  rcases e with e | e | e
  · exact e ▸ h.lowr
  · exact h.low k e
  · exact e ▸ (h.out hr).2.2.2.2.1

theorem hd_write {B : Nat} {w : World} {br v g cap x : Nat} {σ : St} {cur : Array Value} (h : RegOk B w br σ) (hh : Holds v σ) (hrow : RowAt w g 1 [x] cur) :
    Calls Tryd.prog 13 #[.pointer (some ⟨br, 0, none⟩), .slice (some ⟨g, 0, none⟩) 1 cap] w fun e w' => e = .returned (.int .i64 0) ∧ RegOk B w' br (σ.write [x]) ∧ Below B w w' := by
  have hB := h.room
  obtain ⟨L, h⟩ := h
  have hn := hh.1
  have := plainWrite_ok (cap := cap) h hB hh.2.2.1 (show RowAt w g σ.n [x] cur by rw [hn]; exact hrow)
  rw [hn] at this
  exact this.mono fun e w' ⟨h1, h2, h3⟩ => ⟨h1, h2, h3.below hB fun k e => e ▸ h.lowr⟩

theorem hd_stepW {B : Nat} {w : World} {br : Nat} {σ : St} (b : Bool) (h : RegOk B w br σ) (hr : σ.wr = true) (ho : σ.overW = b) :
    Calls Tryd.prog 14 #[.pointer (some ⟨br, 0, none⟩)] w fun e w' => e = .returned (.tuple #[.bool b, .int .i64 0]) ∧ RegOk B w' br σ.stepW ∧ Below B w w' := by
  have hB := h.room
  obtain ⟨L, h⟩ := h
  refine (plainStepW_ok h hr).mono fun e w' ⟨h1, h2, h3⟩ => ⟨by rw [h1, ho], h2, h3.below hB fun k e => ?_⟩
  rcases e with e | e
  · exact e ▸ h.lowr
  · exact h.low k e

/-- The reading's loop. -/
def Seen (B br v : Nat) (seen : Value) (i : Nat) (w : World) : Prop :=
  (∃ fuel σ, seen = nils ∧ RegOk B w br σ ∧ ReadsTo v fuel σ ∧ i + fuel ≤ 4) ∨ (∃ g cap cur σ, seen = .slice (some ⟨g, 0, none⟩) 1 cap ∧ RowAt w g 1 [v] cur ∧ RegOk B w br σ ∧ Holds v σ)
/-- The writing's loop. -/
def Wrote (B br x : Nat) (done : Value) (i : Nat) (w : World) : Prop :=
  (∃ fuel σ, done = .bool false ∧ RegOk B w br σ ∧ WritesTo x fuel σ ∧ i + fuel ≤ 5) ∨ (∃ σ, done = .bool true ∧ RegOk B w br σ ∧ Holds x σ)

theorem one_row (w : World) (x : Nat) : RowAt (w.alloc (.cells #[.int .u64 (x : Int)] 38)) w.heap.size 1 [x] (u64s [x]) := RowAt.of_blk (Blk.new w 38 _) rfl

set_option maxRecDepth 20000 in
set_option maxHeartbeats 1000000 in
theorem handed_calls (w : World) : Calls Tryd.prog 7 #[] w fun e w' => e = .returned (.bool true) ∧ Below w.heap.size w w' := by
  go_enter Tryd.func7, Tryd.ntmps7
  go_wp2_with fail
  go_loopw [1] (fun k wr => ∃ kind : Nat, k = .int .i64 kind ∧ 1 ≤ kind ∧ kind ≤ 4 ∧ Below w.heap.size w wr) (fun k _ => 4 - (intOf k).toNat)
  case atStart => exact ⟨1, rfl, by omega, by omega, Below.refl _ _⟩
  case round =>
    obtain ⟨kind, rfl, hk1, hk4, hlow'⟩ := hrel
    have hlow := hid' hlow'
    clear hlow'
    by_cases hk : kind ≤ 3
    · have k3 : (kind : Int) ≤ 3 := by omega
      have HN := hid' (show Calls Tryd.prog 10 #[.int .i64 (kind : Int), .slice (some ⟨wr.heap.size, 0, none⟩) 1 1] (wr.alloc (.cells #[.int .u64 5] 38)) (RegisterPost kind 1 [5] (wr.alloc (.cells #[.int .u64 5] 38))) from
        register_calls kind wr.heap.size 1 1 [5] (u64s [5]) _ hk1 hk (fun _ => rfl) (one_row wr 5) (by omega) (by omega))
      have HL1 := hid' (show Below w.heap.size w (wr.alloc (.cells #[.int .u64 5] 38)) from hlow.out.alloc hlow.out.size _)
      have HS1 := hid' (show w.heap.size ≤ (wr.alloc (.cells #[.int .u64 5] 38)).heap.size from by have := hlow.out.size; simp; omega)
      go_wp2_with fail
      refine HN.out.mono ?_
      rintro e w1 ⟨br, rfl, hbr', hreg', hch'⟩
      have hreg := hid' (RegOk.lower hreg' HS1.out)
      have hl1 := hid' (HL1.out.trans (hch'.below HS1.out fun _ h => h.elim))
      have hh0 := hid' (holds_new kind 5)
      clear hbr' hreg' hch' HN HL1 HS1
      go_wp2_with fail
      go_loopw [4] (fun u wr => ∃ (v : Nat) (σ : St), u = .int .u64 v ∧ 5 ≤ v ∧ v ≤ 8 ∧ RegOk w.heap.size wr br σ ∧ Holds v σ ∧ Below w.heap.size w wr) (fun u _ => 8 - (intOf u).toNat)
      case atStart => exact ⟨5, _, rfl, by omega, by omega, hreg.out, hh0.out, hl1.out⟩
      case round =>
        obtain ⟨v, σ, rfl, hv5, hv8, hr', hh', hl'⟩ := hrel
        have hr := hid' hr'
        have hh := hid' hh'
        have hl := hid' hl'
        clear hr' hh' hl' hreg hl1 hh0
        by_cases hv : v ≤ 7
        · have v1 : (v : Int) < 8 := by omega
          have v2 : (5 : Int) ≤ (v : Int) := by omega
          have v3 : IntKind.u64.wrap ((v : Int) + 1) = (v : Int) + 1 := by rw [IntKind.wrap_u64]; omega
          have RC := hid' (hd_read hr.out hh.out)
          go_wp2_with fail
          refine RC.out.mono ?_
          rintro e w2 ⟨rfl, hr2', hb2'⟩
          have hr2 := hid' hr2'
          have hl2 := hid' (hl.out.trans hb2')
          have hrd := hid' (holds_read hh.out)
          clear hr2' hb2' RC
          go_wp2_with fail
          go_loopw [6, 7] (fun s i wr => ∃ (k : Nat), i = .int .i64 k ∧ k ≤ 4 ∧ Seen w.heap.size br v s k wr ∧ Below w.heap.size w wr) (fun _ i _ => 9 - (intOf i).toNat)
          case atStart => exact ⟨0, rfl, by omega, .inl ⟨4, _, rfl, hr2.out, hrd.out, by omega⟩, hl2.out⟩
          case round =>
            obtain ⟨k, rfl, hk5, hs', hl3'⟩ := hrel
            have hl3 := hid' hl3'
            clear hl3' hr2 hl2 hrd
            have k9 : (k : Int) < 9 := by omega
            rcases hs' with ⟨fuel, σ2, rfl, hr3', hrt', hkf⟩ | ⟨g, cap, cur, σ2, rfl, hrow', hr3', hh3'⟩
            · rcases fuel with _ | fuel
              · exact hrt'.elim
              obtain ⟨hn1, hrdt, ⟨hov, hout, hho⟩ | ⟨hov, hrt2⟩⟩ := hrt'
              · have SC := hid' (hd_over hr3' hrdt hov hn1 hout)
                have hho2 := hid' hho
                clear hr3' hn1 hrdt hov hout hho
                go_wp2_with fail
                refine SC.out.mono ?_
                rintro e w3 ⟨g, cap, cur, rfl, hrow', hr4', hb4'⟩
                have hrow := hid' hrow'
                have hr4 := hid' hr4'
                have hl4 := hid' (hl3.out.trans hb4')
                clear hrow' hr4' hb4' SC
                go_wp2_with fail
                go_roundw
                case rel => exact ⟨k + 1, by go_num, by omega, .inr ⟨g, cap, cur, _, rfl, hrow.out, hr4.out, hho2.out⟩, hl4.out⟩
                case measure => simp [intOf]; omega
              · have SC := hid' (hd_more hr3' hrdt hov)
                have hrt3 := hid' hrt2
                clear hr3' hn1 hrdt hov hrt2
                go_wp2_with fail
                refine SC.out.mono ?_
                rintro e w3 ⟨rfl, hr4', hb4'⟩
                have hr4 := hid' hr4'
                have hl4 := hid' (hl3.out.trans hb4')
                clear hr4' hb4' SC
                go_wp2_with fail
                go_roundw
                case rel => exact ⟨k + 1, by go_num, by omega, .inl ⟨fuel, _, rfl, hr4.out, hrt3.out, by omega⟩, hl4.out⟩
                case measure => simp [intOf]; omega
            · have c0 : wr.cell? ⟨g, 0, none⟩ = some (.int .u64 (v : Int)) := hrow'.cell 0 v rfl
              have hr3 := hid' hr3'
              have hh3 := hid' hh3'
              clear hrow' hr3' hh3'
              have HRow := hid' (show RowAt (wr.alloc (.cells #[.int .u64 ((v : Int) + 1)] 38)) wr.heap.size 1 [v + 1] (u64s [v + 1]) from one_row wr (v + 1))
              have hr5 := hid' (show RegOk w.heap.size (wr.alloc (.cells #[.int .u64 ((v : Int) + 1)] 38)) br σ2 from by
                obtain ⟨L, h⟩ := hr3.out
                exact ⟨L, h.keep (S := fun _ => False) ((Chg.refl wr).alloc _) fun _ _ h => h⟩)
              have hl5 := hid' (hl3.out.alloc hr3.out.room (.cells #[.int .u64 ((v : Int) + 1)] 38))
              have WC := hid' (hd_write (cap := 1) hr5.out hh3.out HRow.out)
              go_wp2_with fail
              refine WC.out.mono ?_
              rintro e w5 ⟨rfl, hr6', hb6'⟩
              have hr6 := hid' hr6'
              have hl6 := hid' (hl5.out.trans hb6')
              have hwt := hid' (holds_write (v + 1) hh3.out)
              clear hr6' hb6' WC HRow hr5 hl5 hr3 hh3 hl3
              go_wp2_with fail
              go_loopw [12, 13] (fun d i wr => ∃ (k : Nat), i = .int .i64 k ∧ k ≤ 5 ∧ Wrote w.heap.size br (v + 1) d k wr ∧ Below w.heap.size w wr) (fun _ i _ => 9 - (intOf i).toNat)
              case atStart => exact ⟨0, rfl, by omega, .inl ⟨5, _, rfl, hr6.out, hwt.out, by omega⟩, hl6.out⟩
              case round =>
                obtain ⟨q, rfl, hq5, hs', hl7'⟩ := hrel
                have hl7 := hid' hl7'
                clear hl7' hr6 hl6 hwt c0
                have q9 : (q : Int) < 9 := by omega
                rcases hs' with ⟨fuel, σ4, rfl, hr8', hwt', hqf⟩ | ⟨σ4, rfl, hr8', hh8'⟩
                · rcases fuel with _ | fuel
                  · exact hwt'.elim
                  obtain ⟨hn1, hwrt, ⟨hov, hho⟩ | ⟨hov, hwt2⟩⟩ := hwt'
                  · have SC := hid' (hd_stepW true hr8' hwrt hov)
                    have hho2 := hid' hho
                    clear hr8' hn1 hwrt hov hho
                    go_wp2_with fail
                    refine SC.out.mono ?_
                    rintro e w3 ⟨rfl, hr4', hb4'⟩
                    have hr4 := hid' hr4'
                    have hl4 := hid' (hl7.out.trans hb4')
                    clear hr4' hb4' SC
                    go_wp2_with fail
                    go_roundw
                    case rel => exact ⟨q + 1, by go_num, by omega, .inr ⟨_, rfl, hr4.out, hho2.out⟩, hl4.out⟩
                    case measure => simp [intOf]; omega
                  · have SC := hid' (hd_stepW false hr8' hwrt hov)
                    have hwt3 := hid' hwt2
                    clear hr8' hn1 hwrt hov hwt2
                    go_wp2_with fail
                    refine SC.out.mono ?_
                    rintro e w3 ⟨rfl, hr4', hb4'⟩
                    have hr4 := hid' hr4'
                    have hl4 := hid' (hl7.out.trans hb4')
                    clear hr4' hb4' SC
                    go_wp2_with fail
                    go_roundw
                    case rel => exact ⟨q + 1, by go_num, by omega, .inl ⟨fuel, _, rfl, hr4.out, hwt3.out, by omega⟩, hl4.out⟩
                    case measure => simp [intOf]; omega
                · have hr8 := hid' hr8'
                  have hh8 := hid' hh8'
                  clear hr8' hh8'
                  go_wp2_with fail
                  go_roundw
                  case rel => exact ⟨v + 1, σ4, by go_num, by omega, by omega, hr8.out, hh8.out, hl7.out⟩
                  case measure => simp [intOf]; omega
        · obtain rfl : v = 8 := by omega
          go_wp2_with fail
          go_roundw
          case rel => exact ⟨kind + 1, by go_num, by omega, by omega, hl.out⟩
          case measure => simp [intOf]; omega
    · obtain rfl : kind = 4 := by omega
      go_wp2_with fail
      go_ret
      exact ⟨rfl, hlow.out⟩
end Go.Proofs.YtbdccfgeildebaaDoor
