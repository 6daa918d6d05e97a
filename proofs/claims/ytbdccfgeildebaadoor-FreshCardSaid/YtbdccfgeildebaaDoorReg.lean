/-
  The methods of a register, as the plain machine's steps. Conditions: the register's blocks are there; the listed sentinels hold pointers.
-/
import Derived.Test.YtbdccfgeildebaaDoorProt
import Derived.Test.YtbdccfgeildebaaDoorNamesW
namespace Go.Proofs.YtbdccfgeildebaaDoor
open Go.RowKit Mem Abs

/-- The register's first block. -/
def regCells (L : Lay) (σ : St) : Array Value :=
  #[.int .i64 (σ.n : Int), .iface (ptrTy σ.p) (.pointer (some ⟨L.bp, 0, none⟩)), L.pv, L.ov, .int .i64 (σ.ws : Int), .int .i64 (σ.rs : Int), .bool σ.wr, .bool σ.rd]

structure RegW (B : Nat) (w : World) (br : Nat) (L : Lay) (σ : St) : Prop where
  reg : Blk w br 65 (regCells L σ)
  prot : ProtW w L σ.n σ.p
  sep : Sep L σ.p
  pay : σ.wr = true → (∃ c, L.pv = .slice (some ⟨L.pb, 0, none⟩) σ.n c) ∧ PayW w L σ.n σ.p σ.pay ∧ L.pb ≠ br ∧ L.pb < w.heap.size ∧ B ≤ L.pb
  out : σ.rd = true → L.ov = slc L.ob σ.n ∧ Blk w L.ob 38 (u64s σ.out) ∧ σ.out.length = σ.n ∧ ¬ Own L σ.p L.ob ∧ B ≤ L.ob ∧ (σ.wr = true → L.ob ≠ L.pb)
  lowr : B ≤ br
  low : ∀ k, Own L σ.p k → B ≤ k
  pos : 0 < σ.n
  small : σ.n ≤ 4096
  wle : σ.wr = true → σ.ws ≤ wmax σ.n σ.p
  rle : σ.rd = true → σ.rs ≤ rmax σ.n σ.p

theorem ProtW.notBr {w : World} {L : Lay} {n : Nat} {p : Prot} {br : Nat} {cs : Array Value} (h : ProtW w L n p) (hb : Blk w br 65 cs) : ¬ Own L p br := by
  cases p with
  | four rows latest reading slot wp wq rp rq =>
    rintro (rfl | ⟨i, hi, rfl⟩)
    · exact Blk.ne_ hb h.1 (by decide) rfl
    · rcases (by simp [nrow] at hi; omega : i = 0 ∨ i = 1 ∨ i = 2 ∨ i = 3) with rfl | rfl | rfl | rfl
      · exact Blk.ne_ hb (h.2 false false).1 (by decide) rfl
      · exact Blk.ne_ hb (h.2 false true).1 (by decide) rfl
      · exact Blk.ne_ hb (h.2 true false).1 (by decide) rfl
      · exact Blk.ne_ hb (h.2 true true).1 (by decide) rfl
  | three rows front back mid fresh =>
    rintro (rfl | ⟨i, hi, rfl⟩)
    · exact Blk.ne_ hb h.1 (by decide) rfl
    · exact Blk.ne_ hb (h.2.1 i hi).1 (by decide) rfl
  | one word =>
    rintro (rfl | ⟨i, hi, rfl⟩)
    · exact Blk.ne_ hb h.1 (by decide) rfl
    · simp [nrow] at hi

theorem PayW.keep {w w' : World} {L : Lay} {n : Nat} {p : Prot} {pay : List Nat} {S : Nat → Prop} (h : PayW w L n p pay) (hc : Chg S w w') (hl : L.pb < w.heap.size) (hs : ¬ S L.pb) : PayW w' L n p pay :=
  ⟨h.len, fun i x hx => (World.cell?_of_block (w := w) (hc.block L.pb hl hs)).trans (h.cell i x hx), h.far⟩

/-- What a register rests on. -/
def Foot (br : Nat) (L : Lay) (σ : St) (k : Nat) : Prop := k = br ∨ Own L σ.p k ∨ (σ.wr = true ∧ k = L.pb) ∨ (σ.rd = true ∧ k = L.ob)

theorem RegW.keep {B : Nat} {w w' : World} {br : Nat} {L : Lay} {σ : St} {S : Nat → Prop} (h : RegW B w br L σ) (hc : Chg S w w') (hs : ∀ k, Foot br L σ k → ¬ S k) : RegW B w' br L σ :=
  ⟨hc.blk h.reg (hs _ (.inl rfl)), h.prot.keep hc (fun k hk => hs k (.inr (.inl hk))), h.sep,
    fun hw => ⟨(h.pay hw).1, (h.pay hw).2.1.keep hc (h.pay hw).2.2.2.1 (hs _ (.inr (.inr (.inl ⟨hw, rfl⟩)))), (h.pay hw).2.2.1, Nat.lt_of_lt_of_le (h.pay hw).2.2.2.1 hc.size, (h.pay hw).2.2.2.2⟩,
    fun hr => ⟨(h.out hr).1, hc.blk (h.out hr).2.1 (hs _ (.inr (.inr (.inr ⟨hr, rfl⟩)))), (h.out hr).2.2⟩, h.lowr, h.low, h.pos, h.small, h.wle, h.rle⟩

theorem RegW.foot_lt {B : Nat} {w : World} {br : Nat} {L : Lay} {σ : St} (h : RegW B w br L σ) {k : Nat} (hk : Foot br L σ k) : k < w.heap.size := by
  rcases hk with rfl | e | ⟨e, rfl⟩ | ⟨e, rfl⟩
  · exact h.reg.lt
  · exact h.prot.own_lt e
  · exact (h.pay e).2.2.2.1
  · exact (h.out e).2.1.lt

theorem RegW.drew {B : Nat} {w : World} {br : Nat} {L : Lay} {σ : St} (h : RegW B w br L σ) : RegW B w.drew br L σ := h.keep (S := fun _ => False) (Chg.refl w).drew fun _ _ h => h

theorem made_zeros (n : Nat) : madeCells #[Value.int .u64 0] n = u64s (List.replicate n 0) := by
  apply Array.ext
  · simp [madeCells, u64s]
  · intro i h1 h2
    simp [madeCells, u64s, Nat.mod_one]

theorem t_info38 : (Tryd.prog.info? 38).map (fun i => (i.zero, i.size, i.bytes)) = some (some (.int .u64 0), 1, 8) := by kernel_rfl

theorem make_u64 (n : Nat) (hn : n ≤ 4096) (w : World) : (Instr.makeSlice 39 (.int .i64 (n : Int)) (.int .i64 (n : Int))).run Tryd.prog w = .ok (slc w.heap.size n) (w.alloc (.cells (u64s (List.replicate n 0)) 38)) := by
  rw [← made_zeros]
  exact run_make_row' 39 38 (.int .u64 0) 8 Tryd.underlying39 t_info38 rfl .i64 .i64 n (by omega) (by omega) w

/-- Read, while a reading is not at its end. -/
theorem readM_busy {B : Nat} {w : World} {br : Nat} {L : Lay} {σ : St} {f : Nat → Addr} (h : RegW B w br L σ) (hs : Sent w 4 f) (hr : σ.rd = true) :
    Calls Tryd.prog 20 #[.pointer (some ⟨br, 0, none⟩)] w fun e w' => e = .returned (.iface 99 (.pointer (some (f 2)))) ∧ w = w' := by
  have h7 : w.cell? ⟨br, 7, none⟩ = some (.bool true) := by rw [h.reg.cell]; simp [regCells, hr]
  have g2 := hs 2 (by omega)
  clear h hs hr
  go_enter Tryd.func20, Tryd.ntmps20
  go_wp2
  go_ret
  exact ⟨rfl, rfl⟩

/-- What a step of Read leaves. -/
theorem RegW.to_read {B : Nat} {w w' : World} {br : Nat} {L : Lay} {σ : St} (h : RegW B w br L σ) (hB : B ≤ w.heap.size) (hc : Chg (· = br) w w')
    (hreg : Blk w' br 65 (regCells { L with ov := slc w.heap.size σ.n, ob := w.heap.size } σ.read)) (hnew : Blk w' w.heap.size 38 (u64s (List.replicate σ.n 0))) :
    RegW B w' br { L with ov := slc w.heap.size σ.n, ob := w.heap.size } σ.read := by
  have hnb : ∀ k, Own L σ.p k → ¬ k = br := fun k hk e => h.prot.notBr h.reg (by subst e; exact hk)
  have hpr : ProtW w' L σ.n σ.p := h.prot.keep hc hnb
  have hown : ¬ Own L σ.p w.heap.size := fun hk => Nat.lt_irrefl _ (h.prot.own_lt hk)
  refine ⟨hreg, ?_, h.sep, fun hw => ?_, fun _ => ⟨rfl, hnew, by simp [St.read], hown, hB, fun hw => ?_⟩, h.lowr, h.low, h.pos, h.small, h.wle, fun _ => by simp [St.read]⟩
  · exact hpr
  · obtain ⟨p1, p2, p3, p4, p5⟩ := h.pay hw
    have := p2.keep hc p4 p3
    exact ⟨p1, ⟨this.len, this.cell, this.far⟩, p3, Nat.lt_of_lt_of_le p4 hc.size, p5⟩
  · have := (h.pay hw).2.2.2.1
    show w.heap.size ≠ L.pb
    omega

set_option maxHeartbeats 1000000 in
theorem readM_ok {B : Nat} {w : World} {br : Nat} {L : Lay} {σ : St} (h : RegW B w br L σ) (hB : B ≤ w.heap.size) (hr : σ.rd = false) :
    Calls Tryd.prog 20 #[.pointer (some ⟨br, 0, none⟩)] w fun e w' => e = .returned .nilIface ∧ RegW B w' br { L with ov := slc w.heap.size σ.n, ob := w.heap.size } σ.read ∧ Chg (· = br) w w' := by
  have h0 : w.cell? ⟨br, 0, none⟩ = some (.int .i64 (σ.n : Int)) := h.reg.cell 0
  have h3 : w.cell? ⟨br, 3, none⟩ = some L.ov := h.reg.cell 3
  have h5 : w.cell? ⟨br, 5, none⟩ = some (.int .i64 (σ.rs : Int)) := h.reg.cell 5
  have h7 : w.cell? ⟨br, 7, none⟩ = some (.bool false) := by rw [h.reg.cell]; simp [regCells, hr]
  have f3 := h.reg.frozen 3
  have f5 := h.reg.frozen 5
  have f7 := h.reg.frozen 7
  have hlt := h.reg.lt
  have hmk := make_u64 σ.n h.small
  have hlen := h.small
  have HF := Lib.hid (show RegW B ((((w.setCell ⟨br, 3, none⟩ (slc w.heap.size σ.n)).setCell ⟨br, 7, none⟩ (.bool true)).setCell ⟨br, 5, none⟩ (.int .i64 0)).alloc (.cells (u64s (List.replicate σ.n 0)) 38)) br { L with ov := slc w.heap.size σ.n, ob := w.heap.size } σ.read ∧
      Chg (· = br) w ((((w.setCell ⟨br, 3, none⟩ (slc w.heap.size σ.n)).setCell ⟨br, 7, none⟩ (.bool true)).setCell ⟨br, 5, none⟩ (.int .i64 0)).alloc (.cells (u64s (List.replicate σ.n 0)) 38)) from by
    have hc : Chg (· = br) w ((((w.setCell ⟨br, 3, none⟩ (slc w.heap.size σ.n)).setCell ⟨br, 7, none⟩ (.bool true)).setCell ⟨br, 5, none⟩ (.int .i64 0)).alloc (.cells (u64s (List.replicate σ.n 0)) 38)) :=
      (Chg.setCell (S := (· = br)) (Chg.setCell (S := (· = br)) (Chg.setCell (S := (· = br)) (Chg.refl _) (.inl rfl) _) (.inl rfl) _) (.inl rfl) _).alloc _
    refine ⟨h.to_read hB hc ((((h.reg.set_ 3 _).set_ 7 _).set_ 5 _).alloc _) ?_, hc⟩
    have := Blk.new (((w.setCell ⟨br, 3, none⟩ (slc w.heap.size σ.n)).setCell ⟨br, 7, none⟩ (.bool true)).setCell ⟨br, 5, none⟩ (.int .i64 0)) 38 (u64s (List.replicate σ.n 0))
    simpa [World.setCell] using this)
  clear h
  go_enter Tryd.func20, Tryd.ntmps20
  go_wp2
  go_ret
  exact ⟨rfl, HF.out⟩

theorem hid' {p : Prop} (h : p) : Hid p := h

/-- Words as values. -/
def vals (l : List Nat) : List Value := l.map fun (x : Nat) => Value.int .u64 (x : Int)
theorem vals_length (l : List Nat) : (vals l).length = l.length := by simp [vals]
theorem vals_at (l : List Nat) (i : Nat) : (vals l)[i]? = (l[i]?).map fun (x : Nat) => Value.int .u64 (x : Int) := by simp [vals]
theorem vals_one (l : List Nat) : ∀ u ∈ vals l, u.oneCell' = true := by
  intro u hu
  simp only [vals, List.mem_map] at hu
  obtain ⟨x, _, rfl⟩ := hu
  rfl

/-- A row of the call's own that begins with these words. -/
structure RowAt (w : World) (g n : Nat) (l : List Nat) (cur : Array Value) : Prop where
  blk : Blk w g 38 cur
  fits : n ≤ cur.size
  len : l.length = n
  at_ : ∀ (i x : Nat), l[i]? = some x → cur[i]? = some (.int .u64 (x : Int))

theorem RowAt.cell {w : World} {g n : Nat} {l : List Nat} {cur : Array Value} (h : RowAt w g n l cur) (i x : Nat) (hx : l[i]? = some x) : w.cell? ⟨g, i, none⟩ = some (.int .u64 (x : Int)) :=
  (h.blk.cell i).trans (h.at_ i x hx)
theorem RowAt.keep {w w' : World} {g n : Nat} {l : List Nat} {cur : Array Value} {S : Nat → Prop} (h : RowAt w g n l cur) (hc : Chg S w w') (hg : ¬ S g) : RowAt w' g n l cur :=
  ⟨hc.blk h.blk hg, h.fits, h.len, h.at_⟩
theorem RowAt.reads {w : World} {g n B : Nat} {l : List Nat} {cur : Array Value} (h : RowAt w g n l cur) (hB : g < B) : Reads w B 1 (some ⟨g, 0, none⟩) n (vals l) := by
  refine ⟨by rw [vals_length, h.len, Nat.mul_one], fun _ => ⟨_, rfl, hB, fun j u hu => ?_⟩⟩
  rw [vals_at] at hu
  obtain ⟨x, hx, rfl⟩ := Option.map_eq_some_iff.1 hu
  have := h.cell j x hx
  unfold Addr.add
  split
  · rename_i e
    subst e
    exact this
  · simpa using this
theorem RowAt.of_blk {w : World} {g n : Nat} {l : List Nat} (h : Blk w g 38 (u64s l)) (hl : l.length = n) : RowAt w g n l (u64s l) :=
  ⟨h, by rw [u64s_size, hl]; exact Nat.le_refl _, hl, fun i x hx => by rw [u64s_at, hx]; rfl⟩

theorem own_row {w : World} {base n : Nat} {v : Value} {l : List Nat} (h : w.ownsRow base 38 1 v n (vals l)) (h0 : 0 < n) : ∃ g cap cur, v = .slice (some ⟨g, 0, none⟩) n cap ∧ base ≤ g ∧ RowAt w g n l cur := by
  obtain ⟨hl, h | ⟨g, cap, cur, rfl, hg, hb, hn, _, hsz, htake⟩⟩ := h
  · omega
  · rw [vals_length, Nat.mul_one] at hl
    refine ⟨g, cap, cur, rfl, hg, hb, by omega, hl, fun i x hx => ?_⟩
    have hi : i < l.length := (List.getElem?_eq_some_iff.1 hx).1
    have := congrArg (·[i]?) htake
    simp only [Nat.mul_one, vals_at, hx, Option.map_some] at this
    rw [List.getElem?_take, if_pos (by omega), Array.getElem?_toList] at this
    exact this

/-- Write, while a writing is not at its end. -/
theorem writeM_busy {B : Nat} {w : World} {br : Nat} {L : Lay} {σ : St} {f : Nat → Addr} (A : Option Addr) (m c : Nat) (h : RegW B w br L σ) (hs : Sent w 4 f) (hr : σ.wr = true) :
    Calls Tryd.prog 22 #[.pointer (some ⟨br, 0, none⟩), .slice A m c] w fun e w' => e = .returned (.iface 99 (.pointer (some (f 2)))) ∧ w = w' := by
  have h6 : w.cell? ⟨br, 6, none⟩ = some (.bool true) := by rw [h.reg.cell]; simp [regCells, hr]
  have g2 := hs 2 (by omega)
  clear h hs hr
  go_enter Tryd.func22, Tryd.ntmps22
  go_wp2
  go_ret
  exact ⟨rfl, rfl⟩

/-- What a step of Write leaves. -/
theorem RegW.to_write {B : Nat} {w w' : World} {br g cap : Nat} {L : Lay} {σ : St} {l : List Nat} {cur : Array Value} (h : RegW B w br L σ) (hB : B ≤ w.heap.size) (hc : Chg (· = br) w w') (hl : l.length = σ.n)
    (hreg : Blk w' br 65 (regCells { L with pv := .slice (some ⟨g, 0, none⟩) σ.n cap, pb := g } (σ.write l))) (hg : w.heap.size ≤ g) (hrow : RowAt w' g σ.n l cur) :
    RegW B w' br { L with pv := .slice (some ⟨g, 0, none⟩) σ.n cap, pb := g } (σ.write l) := by
  have hnb : ∀ k, Own L σ.p k → ¬ k = br := fun k hk e => h.prot.notBr h.reg (by subst e; exact hk)
  have hpr : ProtW w' L σ.n σ.p := h.prot.keep hc hnb
  have hown : ¬ Own L σ.p g := fun hk => by have := h.prot.own_lt hk; omega
  have hbr := h.reg.lt
  refine ⟨hreg, ?_, h.sep, fun _ => ⟨⟨_, rfl⟩, ⟨hl, hrow.cell, hown⟩, by show g ≠ br; omega, hrow.blk.lt, by show B ≤ g; omega⟩, fun hr => ?_, h.lowr, h.low, h.pos, h.small, fun _ => by simp [St.write], h.rle⟩
  · exact hpr
  · obtain ⟨p1, p2, p3, p4, p5, p6⟩ := h.out hr
    have hob := p2.lt
    exact ⟨p1, hc.blk p2 (fun e => Blk.ne_ p2 h.reg (by decide) e), p3, p4, p5, fun _ => by show L.ob ≠ g; omega⟩

/-- A register with a writing begun: it rests on what it did, and on new memory. -/
def WroteTo (B br : Nat) (L : Lay) (σ : St) (l : List Nat) (w w' : World) : Prop :=
  ∃ L', RegW B w' br L' (σ.write l) ∧ ∀ k, Foot br L' (σ.write l) k → Foot br L σ k ∨ w.heap.size ≤ k

set_option maxRecDepth 20000 in
set_option maxHeartbeats 1000000 in
theorem writeM_ok {B : Nat} {w : World} {br : Nat} {L : Lay} {σ : St} (A : Option Addr) (c : Nat) (l : List Nat) (h : RegW B w br L σ) (hB : B ≤ w.heap.size) (hr : σ.wr = false) (hl : l.length = σ.n) (ha : Reads w w.heap.size 1 A σ.n (vals l)) :
    Calls Tryd.prog 22 #[.pointer (some ⟨br, 0, none⟩), .slice A σ.n c] w fun e w' => e = .returned .nilIface ∧ WroteTo B br L σ l w w' ∧ Chg (· = br) w w' := by
  obtain ⟨i0, hi0, hz0, hz1, hz2⟩ := info_parts t_info38
  have h0 : w.cell? ⟨br, 0, none⟩ = some (.int .i64 (σ.n : Int)) := h.reg.cell 0
  have h6 : w.cell? ⟨br, 6, none⟩ = some (.bool false) := by rw [h.reg.cell]; simp [regCells, hr]
  have hreg := h.reg
  have hsm := h.small
  have hps := h.pos
  have HR := Lib.hid h
  have hlen := Lib.hid hl
  clear h hr hl
  go_enter Tryd.func22, Tryd.ntmps22
  go_wp2_with (at_builtin; refine wpList_append_any _ rfl (.const (.slice none 0 0)) (.tmp 21) _ rfl w.heap.size 38 i0 _ 1 8 Tryd.underlying39 hi0 hz0 hz1 hz2 rfl (by omega) (.slice none 0 0) 0 [] rfl ⟨by simp, .inl ⟨rfl, rfl⟩⟩ w.heap.size A σ.n c (vals l) rfl ha (vals_one l) (by simp only [maxLen]; omega) (by omega) (Nat.le_refl _) ?_; intro v1 w1 hown1 hg1 hat1; obtain ⟨g, cap, cur, hv, hgB, hrow⟩ := own_row (by simpa using hown1) hps; rw [hv]; have hc1 := hid' (Chg.grown (S := fun _ => False) (Chg.refl _) hg1 (by simp [Value.ownBlock])); have hr1 := hc1.out.blk hreg (fun h => h); have k2 : w1.cell? ⟨br, 2, none⟩ = some L.pv := hr1.cell 2; have k4 : w1.cell? ⟨br, 4, none⟩ = some (.int .i64 (σ.ws : Int)) := hr1.cell 4; have k6 : w1.cell? ⟨br, 6, none⟩ = some (.bool σ.wr) := hr1.cell 6; have q2 := hr1.frozen 2; have q4 := hr1.frozen 4; have q6 := hr1.frozen 6; clear hown1 hg1 hat1 hv)
  go_ret
  have h := HR.out
  have hbr := h.reg.lt
  have hcc : Chg (· = br) w1 (((w1.setCell ⟨br, 2, none⟩ (.slice (some ⟨g, 0, none⟩) σ.n cap)).setCell ⟨br, 6, none⟩ (.bool true)).setCell ⟨br, 4, none⟩ (.int .i64 0)) :=
    Chg.setCell (S := (· = br)) (Chg.setCell (S := (· = br)) (Chg.setCell (S := (· = br)) (Chg.refl _) (.inl rfl) _) (.inl rfl) _) (.inl rfl) _
  have hc : Chg (· = br) w (((w1.setCell ⟨br, 2, none⟩ (.slice (some ⟨g, 0, none⟩) σ.n cap)).setCell ⟨br, 6, none⟩ (.bool true)).setCell ⟨br, 4, none⟩ (.int .i64 0)) :=
    (hc1.out.mono fun _ _ h => h.elim).trans hcc
  refine ⟨rfl, ⟨_, h.to_write hB hc hlen.out (((hr1.set_ 2 _).set_ 6 _).set_ 4 _) hgB (hrow.keep hcc (by omega)), fun k hk => ?_⟩, hc⟩
  rcases hk with e | e | ⟨_, e⟩ | e
  · exact .inl (.inl e)
  · exact .inl (.inr (.inl e))
  · exact .inr (by rw [e]; exact hgB)
  · exact .inl (.inr (.inr (.inr e)))
end Go.Proofs.YtbdccfgeildebaaDoor
