import Derived.Test.YtafmkjlkeffmfaaCode
import Derived.StillTailTactics
import Derived.Deep.Cut
import Derived.Deep.CutRange
import Derived.Deep.CutBlock
namespace Go.Proofs.Ytafmkjlkeffmfaa
open Go.RowKit

/-! ### The document's writer -/
/-- A reference's Writer at block g holds L bits, the number V; it began in w0. -/
structure RW (w0 w : World) (g L V : Nat) (A : Option Addr) (c : Nat) : Prop where
  blk : Blk w g 51 #[.slice A ((L + 7) / 8) c, .int .i64 (L : Int)]
  own : w.ownsRow 0 5 1 (.slice A ((L + 7) / 8) c) ((L + 7) / 8) (bv (leb ((L + 7) / 8) V))
  lt : V < 2 ^ L
  hg : w0.heap.size ≤ g
  ha : AB w0 A
theorem RW.keep {F : Nat → Prop} {w0 w w' : World} {g L V : Nat} {A : Option Addr} {c : Nat} (h : RW w0 w g L V A c) (hu : Upd F w w') (h1 : ¬ F g) (h2 : ∀ k, A.map (·.block) = some k → ¬ F k) : RW w0 w' g L V A c :=
  ⟨h.blk.upd hu h1, owns_upd h.own hu (by rw [ownBlock_map]; exact h2), h.lt, h.hg, h.ha⟩
theorem RW.fresh {w0 w w' : World} {g L V : Nat} {A : Option Addr} {c : Nat} (h : RW w0 w g L V A c) (hu : Fresh w w') : RW w0 w' g L V A c := h.keep hu (fun h => h) (fun _ _ h => h)

theorem leb_zero_top (L V : Nat) (h : V < 2 ^ L) (h8 : L % 8 = 0) : leb (L / 8 + 1) V = leb (L / 8) V ++ [0] := by
  rw [leb_snoc]
  have e : (256 : Nat) ^ (L / 8) = 2 ^ L := by rw [show (256 : Nat) = 2 ^ 8 from rfl, ← Nat.pow_mul]; congr 1; omega
  rw [e, Nat.div_eq_of_lt h]
  rfl
theorem leb_bit (L V b : Nat) (h : V < 2 ^ L) (hb : b < 2) : leb (L / 8 + 1) (V + b * 2 ^ L) = (leb (L / 8 + 1) V).set (L / 8) (UInt8.ofNat (V / 256 ^ (L / 8) + b * 2 ^ (L % 8))) ∧ V / 256 ^ (L / 8) < 2 ^ (L % 8) := by
  have e : (2 : Nat) ^ L = 2 ^ (L % 8) * 256 ^ (L / 8) := by rw [show (256 : Nat) = 2 ^ 8 from rfl, ← Nat.pow_mul, ← Nat.pow_add]; congr 1; omega
  have hlt : V / 256 ^ (L / 8) < 2 ^ (L % 8) := by
    rw [Nat.div_lt_iff_lt_mul (Nat.pow_pos (by decide)), ← e]
    exact h
  refine ⟨?_, hlt⟩
  have hp : 2 ^ (L % 8) ≤ 128 := Nat.pow_le_pow_right (n := 2) (by decide) (show L % 8 ≤ 7 by omega)
  have hb2 : b * 2 ^ (L % 8) ≤ 2 ^ (L % 8) := by
    have : b * 2 ^ (L % 8) ≤ 1 * 2 ^ (L % 8) := Nat.mul_le_mul_right _ (by omega)
    omega
  have e2 : (V + b * 2 ^ L) / 256 ^ (L / 8) = V / 256 ^ (L / 8) + b * 2 ^ (L % 8) := by
    rw [e, ← Nat.mul_assoc, Nat.add_mul_div_right _ _ (Nat.pow_pos (by decide))]
  rw [leb_snoc, leb_snoc, e2, Nat.mod_eq_of_lt (by omega), Nat.mod_eq_of_lt (by omega : V / 256 ^ (L / 8) < 256)]
  have e3 : leb (L / 8) (V + b * 2 ^ L) = leb (L / 8) V := by rw [e, ← Nat.mul_assoc]; exact leb_mod _ _ _ _ (Nat.le_refl _)
  rw [e3, List.set_append_right _ _ (by rw [leb_length]; omega), leb_length, Nat.sub_self]
  rfl
theorem u8_bit (q b r : Nat) (hq : q < 2 ^ r) (hb : b < 2) (hr : r < 8) : bits .or .u8 (q : Int) (IntKind.u8.wrap ((b : Int) * 2 ^ r)) = ((q + b * 2 ^ r : Nat) : Int) := by
  have hp : 2 ^ r ≤ 128 := Nat.pow_le_pow_right (n := 2) (by decide) (show r ≤ 7 by omega)
  have hb2 : b * 2 ^ r ≤ 2 ^ r := by
    have : b * 2 ^ r ≤ 1 * 2 ^ r := Nat.mul_le_mul_right _ (by omega)
    omega
  have e : IntKind.u8.wrap ((b : Int) * 2 ^ r) = ((b * 2 ^ r : Nat) : Int) := by
    rw [show ((b : Int) * 2 ^ r) = ((b * 2 ^ r : Nat) : Int) by simp, IntKind.wrap_u8]
    omega
  rw [e, u8_or_nat _ _ (by omega) (by omega), Nat.or_comm, Nat.mul_comm, ← Nat.two_pow_add_eq_or_of_lt hq]
  congr 1
  omega
theorem leb_last (n V : Nat) (h : V / 256 ^ n < 256) : (bv (leb (n + 1) V))[n]? = some (.int .u8 ((V / 256 ^ n : Nat) : Int)) := by
  have e : (UInt8.ofNat (V / 256 ^ n)).toNat = V / 256 ^ n := by rw [UInt8.toNat_ofNat']; exact Nat.mod_eq_of_lt h
  rw [leb_snoc, bv_append, List.getElem?_append_right (by simp [bv, leb_length])]
  simp only [bv_length, leb_length, Nat.sub_self]
  rw [Nat.mod_eq_of_lt h]
  simp only [bv, List.map_cons, List.map_nil, e, List.getElem?_cons_zero]
/-- The same with the byte that the next bit goes into laid. -/
structure RM (w0 w w1 : World) (g L V : Nat) (A A1 : Option Addr) (c1 : Nat) : Prop where
  blk : Blk w1 g 51 #[.slice A1 (L / 8 + 1) c1, .int .i64 (L : Int)]
  own : w1.ownsRow 0 5 1 (.slice A1 (L / 8 + 1) c1) (L / 8 + 1) (bv (leb (L / 8 + 1) V))
  upd : Upd (fun i => i = g ∨ A.map (·.block) = some i) w w1
  sta : ∀ k, A1.map (·.block) = some k → A.map (·.block) = some k ∨ w.heap.size ≤ k
def ROneO (w0 w : World) (g L V : Nat) (A : Option Addr) (e : Ending) (w' : World) : Prop :=
  e = .returned (.tuple #[]) ∧ ∃ A' c', RW w0 w' g L V A' c' ∧ Upd (fun i => i = g ∨ A.map (·.block) = some i) w w' ∧ (∀ k, A'.map (·.block) = some k → A.map (·.block) = some k ∨ w.heap.size ≤ k)
theorem RM.start {w0 w : World} {g L V : Nat} {A : Option Addr} {c : Nat} (h : RW w0 w g L V A c) (h8 : L % 8 ≠ 0) : RM w0 w w g L V A A c := by
  have e : (L + 7) / 8 = L / 8 + 1 := by omega
  have hb := h.blk
  have ho := h.own
  rw [e] at hb ho
  exact ⟨hb, ho, Upd.refl w, fun k hk => .inl hk⟩
theorem RM.app {w0 w w2 : World} {g L V : Nat} {A A2 : Option Addr} {c c2 n : Nat} {o : Obj} (h : RW w0 w g L V A c) (h8 : L % 8 = 0) (hn : n = L / 8 + 1) (ho : w2.ownsRow 0 5 1 (.slice A2 n c2) n (bv (leb ((L + 7) / 8) V) ++ [.int .u8 0])) (hg : (w.alloc o).grownBy w2 (Value.slice A ((L + 7) / 8) c).ownBlock)
    (hat : (Value.slice A2 n c2).ownBlock = (Value.slice A ((L + 7) / 8) c).ownBlock ∨ (Value.slice A2 n c2).ownBlock = some (w.alloc o).heap.size) : RM w0 w (w2.setCell ⟨g, 0, none⟩ (.slice A2 n c2)) g L V A A2 c2 := by
  subst hn
  have e : (L + 7) / 8 = L / 8 := by omega
  have hneA : A.map (·.block) ≠ some g := by rw [← ownBlock_map]; exact own_blk_ne h.own h.blk (by decide)
  have hb2 : Blk w2 g 51 _ := (h.blk.alloc o).grown hg (fun e => by rw [ownBlock_map] at e; exact hneA e.symm)
  have hu : Upd (fun i => i = g ∨ A.map (·.block) = some i) w w2 := ((Upd.refl w).alloc o).grown hg (fun i hi _ => by rw [ownBlock_map] at hi; exact .inr hi)
  have hu2 : Upd (fun i => i = g) w2 (w2.setCell ⟨g, 0, none⟩ (.slice A2 (L / 8 + 1) c2)) := upd_set w2 ⟨g, 0, none⟩ _
  refine ⟨by simpa using hb2.set_ 0 (.slice A2 (L / 8 + 1) c2), ?_, hu.trans (hu2.mono (G := fun i => i = g ∨ A.map (·.block) = some i) (fun _ h => .inl h)) (fun _ _ h => h), ?_⟩
  · rw [leb_zero_top L V h.lt h8, bv_append]
    rw [e] at ho
    exact owns_upd ho hu2 (fun k hk e => own_blk_ne ho hb2 (by decide) (by rw [hk, e]))
  · intro k hk
    rw [ownBlock_map, ownBlock_map, hk] at hat
    rcases hat with e | e
    · exact .inl e.symm
    · injection e with e
      simp at e
      exact .inr (by omega)
theorem rone_end {w0 w wc : World} {g L V ga c c1 p q bt r : Nat} {A : Option Addr} (h : RW w0 w g L V A c) (hw : w0.heap.size ≤ w.heap.size)
    (hm : Blk wc g 51 #[.slice (some ⟨ga, 0, none⟩) (p + 1) c1, .int .i64 (L : Int)] ∧ wc.ownsRow 0 5 1 (.slice (some ⟨ga, 0, none⟩) (p + 1) c1) (p + 1) (bv (leb (p + 1) V)) ∧ Upd (fun i => i = g ∨ A.map (·.block) = some i) w wc ∧ (∀ k, (some (⟨ga, 0, none⟩ : Addr)).map (·.block) = some k → A.map (·.block) = some k ∨ w.heap.size ≤ k))
    (hbt : leb (p + 1) (V + bt * 2 ^ L) = (leb (p + 1) V).set p (UInt8.ofNat (q + bt * 2 ^ r))) (hp : (L + 1 + 7) / 8 = p + 1) (hb2 : bt < 2) (hq : q + bt * 2 ^ r < 256) :
    RW w0 (((wc.setCell ⟨ga, p, none⟩ (.int .u8 ((q : Int) + (bt : Int) * 2 ^ r))).setCell ⟨g, 1, none⟩ (.int .i64 ((L : Int) + 1))).drew) g (L + 1) (V + bt * 2 ^ L) (some ⟨ga, 0, none⟩) c1 ∧
      Upd (fun i => i = g ∨ A.map (·.block) = some i) w (((wc.setCell ⟨ga, p, none⟩ (.int .u8 ((q : Int) + (bt : Int) * 2 ^ r))).setCell ⟨g, 1, none⟩ (.int .i64 ((L : Int) + 1))).drew) ∧ (∀ k, (some (⟨ga, 0, none⟩ : Addr)).map (·.block) = some k → A.map (·.block) = some k ∨ w.heap.size ≤ k) := by
  obtain ⟨hb, ho, hu, hs⟩ := hm
  have hga : ga ≠ g := fun e => own_blk_ne ho hb (by decide) (by simp [Value.ownBlock, e])
  have e1 : (Value.int .u8 ((q : Int) + (bt : Int) * 2 ^ r)) = .int .u8 (((UInt8.ofNat (q + bt * 2 ^ r)).toNat : Nat) : Int) := by
    rw [UInt8.toNat_ofNat', Nat.mod_eq_of_lt hq]
    simp
  have ho2 := (ho.stored p (.int .u8 ((q : Int) + (bt : Int) * 2 ^ r))).1
  rw [e1] at ho2 ⊢
  have e2 : (bv (leb (p + 1) V)).set p (.int .u8 (((UInt8.ofNat (q + bt * 2 ^ r)).toNat : Nat) : Int)) = bv (leb (p + 1) (V + bt * 2 ^ L)) := by
    rw [hbt]
    simp [bv, List.map_set]
  rw [e2] at ho2
  have hu1 : Upd (fun i => i = ga) wc (wc.setCell ⟨ga, p, none⟩ (.int .u8 (((UInt8.ofNat (q + bt * 2 ^ r)).toNat : Nat) : Int))) := upd_set wc ⟨ga, p, none⟩ _
  have hb1 := hb.far (p := ⟨ga, p, none⟩) (fun e => hga e.symm) (.int .u8 (((UInt8.ofNat (q + bt * 2 ^ r)).toNat : Nat) : Int))
  generalize wc.setCell ⟨ga, p, none⟩ (.int .u8 (((UInt8.ofNat (q + bt * 2 ^ r)).toNat : Nat) : Int)) = w5 at ho2 hu1 hb1 ⊢
  have hu2 : Upd (fun i => i = g) w5 (w5.setCell ⟨g, 1, none⟩ (.int .i64 ((L : Int) + 1))) := upd_set w5 ⟨g, 1, none⟩ _
  refine ⟨⟨?_, ?_, ?_, h.hg, ?_⟩, ?_, hs⟩
  · rw [hp]
    have := (hb1.set_ 1 (.int .i64 ((L : Int) + 1))).drew
    simpa using this
  · rw [hp]
    exact owns_upd ho2 (hu2.drew) (fun k hk e => own_blk_ne ho2 hb1 (by decide) (by rw [hk, e]))
  · have := h.lt
    rw [Nat.pow_succ]
    have : bt * 2 ^ L ≤ 1 * 2 ^ L := Nat.mul_le_mul_right _ (by omega)
    omega
  · intro k hk
    rcases hs k hk with e | e
    · exact h.ha k e
    · omega
  · refine (hu.trans (hu1.mono (G := fun i => i = ga) (fun _ h => h)) ?_).trans (hu2.drew) (fun i _ e => .inl e)
    intro i hi e
    rcases hs ga rfl with h1 | h1
    · exact .inr (by rw [e]; exact h1)
    · omega
set_option maxHeartbeats 1600000 in
theorem rone_w {w0 w : World} {g L V : Nat} {A : Option Addr} {c : Nat} (h : RW w0 w g L V A c) (hw : w0.heap.size ≤ w.heap.size) (x : Nat) (hx : x < 4294967296) (hl : L ≤ 562949953421312) :
    Calls Try.prog 28 #[.pointer (some ⟨g, 0, none⟩), .int .u32 x] w (ROneO w0 w g (L + 1) (V + x % 2 * 2 ^ L) A) := by
  obtain ⟨i0, hi0, hz0, hz1, hz2⟩ := info_parts Try.info5
  have c0 := h.blk.cell 0
  have c1 := h.blk.cell 1
  have f0 := h.blk.frozen 0
  simp only [List.getElem?_toArray, List.getElem?_cons_zero, List.getElem?_cons_succ] at c0 c1
  have H := Lib.hid h
  have hlt := h.blk.lt
  clear h
  go_enter Try.func28, Try.ntmps28
  go_upto_if 9 with fail
  go_cut [] (fun wx => ∃ A1 c1, Hid (RM w0 w wx g L V A A1 c1))
  case first =>
    by_cases h8 : L % 8 = 0
    · have HN := Lib.hid (show (L + 7) / 8 + 1 = L / 8 + 1 by omega)
      have hlen : (L + 7) / 8 ≤ 70368744177664 := by omega
      have b1 : (((L : Int) % 8) == 0) = true := by simp; omega
      have H8 := Lib.hid h8
      clear h8
      generalize hq : (L + 7) / 8 = q at c0 hlen HN
      have HQ := Lib.hid hq
      clear hq
      go_wp2_with (first
        | (at_builtin
           refine wpList_append_any _ rfl (.tmp 14) (.tmp 15) 24 rfl 5 i0 _ 1 1 Try.underlying24 hi0 hz0 hz1 hz2 rfl (by omega) (.slice A q c) q (bv (leb q V)) rfl (by have := H.out.own; rw [HQ.out] at this; exact owns_upd this ((Upd.refl w).alloc (F := fun _ => False) _) (fun _ _ h => h)) (fun _ => True) (some ⟨w.heap.size, 0, none⟩) 1 1 _ rfl ⟨rfl, fun _ => ⟨_, rfl, trivial, by simp, cell_one_new _ _ _⟩⟩ (by simp [Value.oneCell']) (by unfold maxLen; omega) (by omega) ?_
           intro A2 d2 w2 hown2 hg2 hat2
           have HM := Lib.hid (show RM w0 w (w2.setCell ⟨g, 0, none⟩ (.slice A2 (q + 1) d2)) g L V A A2 d2 from RM.app H.out H8.out HN.out (by rw [HQ.out]; exact hown2) (by rw [HQ.out]; exact hg2) (by rw [HQ.out]; exact hat2))
           have hb2 := (H.out.blk.alloc (.cells #[.int .u8 0] 5)).grown hg2 (fun e => own_blk_ne H.out.own H.out.blk (by decide) (by rw [HQ.out]; exact e.symm))
           have k0 := hb2.cell 0
           have q0 := hb2.frozen 0
           simp only [List.getElem?_toArray, List.getElem?_cons_zero, List.getElem?_cons_succ] at k0
           clear hown2 hg2 hat2 hb2))
      go_meet
      exact ⟨A2, d2, HM.out⟩
    · have b1 : (((L : Int) % 8) == 0) = false := by simp; omega
      have HM := Lib.hid (RM.start H.out h8)
      clear h8
      go_wp2_with fail
      go_meet
      exact ⟨A, c, HM.out⟩
  obtain ⟨A1, c1, HM⟩ := hcut
  obtain ⟨hbit, hq⟩ := leb_bit L V (x % 2) H.out.lt (by omega)
  obtain ⟨ga, cap, hv, _, hlt2⟩ := HM.out.own.form (by omega)
  injection hv with hA _ hcap
  subst hA
  subst hcap
  have cb := HM.out.own.cellAt (L / 8) (by simp [bv, leb_length])
  have hp : 2 ^ (L % 8) ≤ 128 := Nat.pow_le_pow_right (n := 2) (by decide) (show L % 8 ≤ 7 by omega)
  have hcell := leb_last (L / 8) V (Nat.lt_of_lt_of_le hq (Nat.le_trans hp (by decide)))
  rw [hcell] at cb
  have HBT := Lib.hid hbit
  generalize V / 256 ^ (L / 8) = q at cb hq HBT
  have d0 := HM.out.blk.cell 0
  have d1 := HM.out.blk.cell 1
  have g1 := HM.out.blk.frozen 1
  have fb := HM.out.own.frozenAt (L / 8)
  simp only [List.getElem?_toArray, List.getElem?_cons_zero, List.getElem?_cons_succ] at d0 d1
  obtain ⟨r, hr⟩ : ∃ r, L % 8 = r := ⟨_, rfl⟩
  rw [hr] at hq hp HBT
  have hr8 : r < 8 := by omega
  have t1 : IntKind.i64.wrap ((L : Int) / 8) = ((L / 8 : Nat) : Int) := by rw [IntKind.wrap_i64]; omega
  have t2 : IntKind.i64.wrap ((L : Int) % 8) = (r : Int) := by rw [IntKind.wrap_i64]; omega
  have t3 : (L : Int).tmod 8 = (r : Int) := by rw [Int.tmod_eq_emod_of_nonneg (by omega)]; omega
  obtain ⟨bt, hbt⟩ : ∃ bt, x % 2 = bt := ⟨_, rfl⟩
  have hbt2 : bt < 2 := by omega
  have t4 : bits .and .u32 (x : Int) 1 = (bt : Int) := by
    have h := u32_and_nat x 1 hx (by omega)
    rw [show (1 : Int) = ((1 : Nat) : Int) by rfl, h, Nat.and_one_is_mod, hbt]
  have t5 : IntKind.u8.wrap (bt : Int) = (bt : Int) := by rw [IntKind.wrap_u8]; omega
  rw [hbt] at HBT
  have HBB := Lib.hid hbt
  clear hbt
  have HLP := Lib.hid (show (L + 1 + 7) / 8 = L / 8 + 1 by omega)
  have HM2 := Lib.hid (show Blk wc g 51 #[.slice (some ⟨ga, 0, none⟩) (L / 8 + 1) c1, .int .i64 (L : Int)] ∧ wc.ownsRow 0 5 1 (.slice (some ⟨ga, 0, none⟩) (L / 8 + 1) c1) (L / 8 + 1) (bv (leb (L / 8 + 1) V)) ∧ Upd (fun i => i = g ∨ A.map (·.block) = some i) w wc ∧ (∀ k, (some (⟨ga, 0, none⟩ : Addr)).map (·.block) = some k → A.map (·.block) = some k ∨ w.heap.size ≤ k) from ⟨HM.out.blk, HM.out.own, HM.out.upd, HM.out.sta⟩)
  clear hr hbit hcell c0 hlt f0
  generalize L / 8 = p at *
  have x1 : (0 : Int) ≤ (p : Int) := by omega
  have x2 : (p : Int) < (p : Int) + 1 := by omega
  have x4 : (0 : Int) ≤ (r : Int) := by omega
  go_wp2_with fail
  go_still_tail 31, (by kernel_rfl)
  change wpList _ _ _ _ _ wc.drew
  have hy : bits .or .u8 (q : Int) (IntKind.u8.wrap ((bt : Int) * 2 ^ r)) = ((q + bt * 2 ^ r : Nat) : Int) := u8_bit q bt r hq hbt2 hr8
  have HQ := Lib.hid (show q + bt * 2 ^ r < 256 by
    have hb2 : bt * 2 ^ r ≤ 1 * 2 ^ r := Nat.mul_le_mul_right _ (by omega)
    omega)
  have hga : ga ≠ g := fun e => own_blk_ne HM.out.own HM.out.blk (by decide) (by simp [Value.ownBlock, e])
  have k1 := fun u => ((HM.out.blk.drew).far (p := ⟨ga, p, none⟩) (fun e => hga e.symm) u).cell 1
  have k2 := fun u => ((HM.out.blk.drew).far (p := ⟨ga, p, none⟩) (fun e => hga e.symm) u).frozen 1
  simp only [List.getElem?_toArray, List.getElem?_cons_zero, List.getElem?_cons_succ] at k1
  go_wp2_with fail
  go_end0
  refine ⟨rfl, some ⟨ga, 0, none⟩, c1, ?_⟩
  rw [HBB.out]
  exact rone_end H.out hw HM2.out HBT.out HLP.out (by rw [← HBB.out]; omega) HQ.out

/-! ### Put, Code, Align, Raw of the document -/
structure RPutRel (w0 w wr : World) (g L V x : Nat) (A : Option Addr) (i : Nat) (A1 : Option Addr) (c1 : Nat) : Prop where
  rw_ : RW w0 wr g (L + i) (V + x % 2 ^ i * 2 ^ L) A1 c1
  upd : Upd (fun i => i = g ∨ A.map (·.block) = some i) w wr
  sta : ∀ k, A1.map (·.block) = some k → A.map (·.block) = some k ∨ w.heap.size ≤ k
theorem RPutRel.step {w0 w wr w1 : World} {g L V x : Nat} {A : Option Addr} {i : Nat} {A1 A2 : Option Addr} {c1 c2 : Nat} (h : RPutRel w0 w wr g L V x A i A1 c1)
    (ho : RW w0 w1 g (L + i + 1) (V + x % 2 ^ i * 2 ^ L + x / 2 ^ i % 2 * 2 ^ (L + i)) A2 c2) (hu : Upd (fun i => i = g ∨ A1.map (·.block) = some i) wr w1) (hs : ∀ k, A2.map (·.block) = some k → A1.map (·.block) = some k ∨ wr.heap.size ≤ k) : RPutRel w0 w w1 g L V x A (i + 1) A2 c2 := by
  have e : V + x % 2 ^ i * 2 ^ L + x / 2 ^ i % 2 * 2 ^ (L + i) = V + x % 2 ^ (i + 1) * 2 ^ L := by
    rw [Nat.pow_succ, Nat.mod_mul, Nat.add_mul, Nat.pow_add, Nat.add_assoc]
    congr 2
    rw [Nat.mul_comm (2 ^ L), ← Nat.mul_assoc, Nat.mul_comm (2 ^ i)]
  rw [e] at ho
  refine ⟨ho, h.upd.trans hu ?_, ?_⟩
  · rintro k hk (rfl | e)
    · exact .inl rfl
    · rcases h.sta k e with h | h
      · exact .inr h
      · omega
  · intro k hk
    rcases hs k hk with e | e
    · exact h.sta k e
    · exact .inr (Nat.le_trans h.upd.size e)
set_option maxHeartbeats 800000 in
theorem rput_w {w0 w : World} {g L V : Nat} {A : Option Addr} {c : Nat} (h : RW w0 w g L V A c) (hw : w0.heap.size ≤ w.heap.size) (x : Nat) (m : Int) (hx : x < 4294967296) (hl : L ≤ 562949953421000) :
    Calls Try.prog 20 #[.pointer (some ⟨g, 0, none⟩), .int .u32 x, .int .i64 m] w (ROneO w0 w g (L + clamp m) (V + x % 2 ^ clamp m * 2 ^ L) A) := by
  have hk := clamp_le m
  have hm : (m < 0 ∧ clamp m = 0) ∨ (0 ≤ m ∧ m ≤ 32 ∧ m = clamp m) ∨ (32 < m ∧ clamp m = 32) := by unfold clamp; omega
  generalize clamp m = k at hk hm ⊢
  have H := Lib.hid h
  have HM := Lib.hid hm
  clear h hm
  go_enter Try.func20, Try.ntmps20
  go_wp2_with fail
  go_loopg [6] k (fun gk s6 wr => ∃ (i : Nat) (A1 : Option Addr) (c1 : Nat), gk + i = k ∧ s6 = .int .i64 (i : Int) ∧ Hid (RPutRel w0 w wr g L V x A i A1 c1))
  case atStart => exact ⟨0, A, c, by omega, rfl, by simpa [Nat.mod_one] using H.out, Upd.refl _, fun k hk => .inl hk⟩
  case round =>
    obtain ⟨i, A1, c1, hgk, rfl, HR⟩ := hrel
    have hik : i ≤ k := by omega
    by_cases hlt : i < k
    · have hvr : x / 2 ^ i ≤ x := Nat.div_le_self _ _
      have hone := rone_w HR.out.rw_ (Nat.le_trans hw HR.out.upd.size) (x / 2 ^ i) (by omega) (by omega)
      have HONE := Lib.hid hone
      clear hone
      have cond : ((i : Int) < m ∧ (i : Int) < 32) := by
        rcases HM.out with h | h | h <;> omega
      obtain ⟨cd1, cd2⟩ := cond
      have h32 : 32 < m ∨ m ≤ 32 := by omega
      rcases h32 with h32 | h32
      all_goals
        go_wp2_with fail
        rw [show (x : Int) / 2 ^ i = ((x / 2 ^ i : Nat) : Int) by simp]
        refine HONE.out.mono ?_
        rintro e w1 ⟨rfl, A2, c2, ho, hu, hs⟩
        have H2 := Lib.hid (HR.out.step ho hu hs)
        clear ho hu hs
        go_wp2_with fail
        go_roundg (gk - 1)
        case measure => omega
        case rel => exact ⟨i + 1, A2, c2, by omega, by go_num, H2.out⟩
    · have HE := Lib.hid (show i = k by omega)
      have cond : (32 < m ∧ ¬ (i : Int) < 32) ∨ (m ≤ 32 ∧ ¬ (i : Int) < m) := by
        rcases HM.out with h | h | h <;> omega
      rcases cond with ⟨cd1, cd⟩ | ⟨cd1, cd⟩
      all_goals
        go_wp2_with fail
        go_end0
        have h1 := HR.out
        rw [HE.out] at h1
        exact ⟨rfl, A1, c1, h1.rw_, h1.upd, h1.sta⟩

/-- Code, under way: r bits are still to be put. -/
structure RCodeRel (w0 wr : World) (g L V v k : Nat) (A0 : Option Addr) (w : World) (r : Nat) (Vr : Nat) (A : Option Addr) (c : Nat) : Prop where
  rw_ : RW w0 wr g (L + (k - r)) Vr A c
  le : r ≤ k
  eq : Vr + rev v r * 2 ^ (L + (k - r)) = V + rev v k * 2 ^ L
  upd : Upd (fun i => i = g ∨ A0.map (·.block) = some i) w wr
  sta : ∀ k, A.map (·.block) = some k → A0.map (·.block) = some k ∨ w.heap.size ≤ k
theorem RCodeRel.step {w0 wr w1 : World} {g L V v k : Nat} {A0 : Option Addr} {w : World} {r Vr : Nat} {A A1 : Option Addr} {c c1 : Nat} (h : RCodeRel w0 wr g L V v k A0 w (r + 1) Vr A c)
    (ho : RW w0 w1 g (L + (k - (r + 1)) + 1) (Vr + v / 2 ^ r % 2 * 2 ^ (L + (k - (r + 1)))) A1 c1) (hu : Upd (fun i => i = g ∨ A.map (·.block) = some i) wr w1) (hs : ∀ k, A1.map (·.block) = some k → A.map (·.block) = some k ∨ wr.heap.size ≤ k) :
    RCodeRel w0 w1 g L V v k A0 w r (Vr + v / 2 ^ r % 2 * 2 ^ (L + (k - (r + 1)))) A1 c1 := by
  have hle := h.le
  have e2 : L + (k - r) = L + (k - (r + 1)) + 1 := by omega
  rw [← e2] at ho
  refine ⟨ho, by omega, ?_, h.upd.trans hu ?_, ?_⟩
  · rw [← h.eq, rev, e2, Nat.pow_succ, Nat.add_mul, Nat.mul_comm 2, Nat.mul_assoc (rev v r), Nat.mul_comm 2]
    omega
  · rintro i hi (rfl | hi2)
    · exact .inl rfl
    · rcases h.sta i hi2 with h3 | h3
      · exact .inr h3
      · omega
  · intro k' hk'
    rcases hs k' hk' with h3 | h3
    · exact h.sta k' h3
    · exact .inr (by have := h.upd.size; omega)
set_option maxHeartbeats 800000 in
theorem rcode_w {w0 w : World} {g L V : Nat} {A : Option Addr} {c : Nat} (h : RW w0 w g L V A c) (hw : w0.heap.size ≤ w.heap.size) (v : Nat) (m : Int) (hv : v < 4294967296) (hl : L ≤ 562949953421000) (hm1 : -9223372036854775808 ≤ m) (hm2 : m ≤ 9223372036854775807) :
    Calls Try.prog 25 #[.pointer (some ⟨g, 0, none⟩), .int .u32 v, .int .i64 m] w (ROneO w0 w g (L + clamp m) (V + rev v (clamp m) * 2 ^ L) A) := by
  have hk := clamp_le m
  have hm : (m < 0 ∧ clamp m = 0) ∨ (0 ≤ m ∧ m ≤ 32 ∧ m = clamp m) ∨ (32 < m ∧ clamp m = 32) := by unfold clamp; omega
  generalize clamp m = k at hk hm ⊢
  have H := Lib.hid h
  have Hm := Lib.hid hm
  clear h hm
  go_enter Try.func25, Try.ntmps25
  go_upto_region 0 with fail
  go_cut [6] (fun s6 wx => w = wx ∧ s6 = .int .i64 ((k : Int) - 1))
  case first =>
    rcases Hm.out with ⟨h1, h2⟩ | ⟨h1, h2, h3⟩ | ⟨h1, h2⟩
    · have H2 := Lib.hid h2
      clear h2
      go_wp2_with fail
      go_meet
      exact ⟨rfl, by rw [H2.out]; rfl⟩
    · have H3 := Lib.hid h3
      clear h3
      go_wp2_with fail
      go_meet
      exact ⟨rfl, by rw [H3.out]⟩
    · have H2 := Lib.hid h2
      clear h2
      go_wp2_with fail
      go_meet
      exact ⟨rfl, by rw [H2.out]; rfl⟩
  obtain ⟨rfl, rfl⟩ := hcut
  go_wp2_with fail
  go_loopg [6] k (fun gk s6 wr => ∃ Vr A' c', s6 = .int .i64 ((gk : Int) - 1) ∧ Hid (RCodeRel w0 wr g L V v k A w gk Vr A' c'))
  case atStart => exact ⟨V, A, c, rfl, by simpa using H.out, Nat.le_refl _, by simp, Upd.refl _, fun k hk => .inl hk⟩
  case round =>
    obtain ⟨Vr, A1, c1, rfl, HR⟩ := hrel
    have hle := HR.out.le
    by_cases h0 : 0 < gk
    · obtain ⟨r, hrr⟩ : ∃ r, gk = r + 1 := ⟨gk - 1, by omega⟩
      subst hrr
      have e1 : ((r + 1 : Nat) : Int) - 1 = (r : Int) := by omega
      rw [e1]
      clear e1
      have hvr : v / 2 ^ r ≤ v := Nat.div_le_self _ _
      have HONE := Lib.hid (rone_w HR.out.rw_ (Nat.le_trans hw HR.out.upd.size) (v / 2 ^ r) (by omega) (by omega))
      go_wp2_with fail
      rw [show (v : Int) / 2 ^ r = ((v / 2 ^ r : Nat) : Int) by simp]
      refine HONE.out.mono ?_
      rintro e w1 ⟨rfl, A2, c2, ho, hu, hs⟩
      have H2 := Lib.hid (HR.out.step ho hu hs)
      clear ho hu hs
      go_wp2_with fail
      go_roundg r
      case measure => omega
      case rel => exact ⟨_, A2, c2, rfl, H2.out⟩
    · have e0 : gk = 0 := by omega
      subst e0
      go_wp2_with fail
      go_end0
      have h1 := HR.out
      refine ⟨rfl, A1, c1, ?_, h1.upd, h1.sta⟩
      have := h1.rw_
      have e := h1.eq
      simp [rev] at e this
      rw [← e]
      exact this
theorem RW.align {w0 w : World} {g L V : Nat} {A : Option Addr} {c : Nat} (h : RW w0 w g L V A c) : RW w0 (w.setCell ⟨g, 1, none⟩ (.int .i64 (((L + 7) / 8 * 8 : Nat) : Int))) g ((L + 7) / 8 * 8) V A c := by
  have e : ((L + 7) / 8 * 8 + 7) / 8 = (L + 7) / 8 := by omega
  have hu : Upd (fun i => i = g) w (w.setCell ⟨g, 1, none⟩ (.int .i64 (((L + 7) / 8 * 8 : Nat) : Int))) := upd_set w ⟨g, 1, none⟩ _
  refine ⟨?_, ?_, Nat.lt_of_lt_of_le h.lt (Nat.pow_le_pow_right (by decide) (by omega)), h.hg, h.ha⟩
  · rw [e]
    simpa using h.blk.set_ 1 (.int .i64 (((L + 7) / 8 * 8 : Nat) : Int))
  · rw [e]
    exact owns_upd h.own hu (fun k hk e => own_blk_ne h.own h.blk (by decide) (by rw [hk, e]))
set_option maxHeartbeats 800000 in
theorem ralign_w {w0 w : World} {g L V : Nat} {A : Option Addr} {c : Nat} (h : RW w0 w g L V A c) (hl : L ≤ 562949953421000) :
    Calls Try.prog 24 #[.pointer (some ⟨g, 0, none⟩)] w fun e w' => e = .returned (.tuple #[]) ∧ RW w0 w' g ((L + 7) / 8 * 8) V A c ∧ Upd (fun i => i = g) w w' := by
  have c0 := h.blk.cell 0
  have f1 := h.blk.frozen 1
  have c1 := h.blk.cell 1
  simp only [List.getElem?_toArray, List.getElem?_cons_zero, List.getElem?_cons_succ] at c0 c1
  have H := Lib.hid h
  have hq : (L + 7) / 8 ≤ 70368744177664 := by omega
  obtain ⟨q, hqq⟩ : ∃ q, (L + 7) / 8 = q := ⟨_, rfl⟩
  have HQ := Lib.hid hqq
  rw [hqq] at c0 hq
  clear h hqq
  go_enter Try.func24, Try.ntmps24
  go_wp2
  go_end0
  have h2 := H.out.align
  rw [HQ.out, show ((q * 8 : Nat) : Int) = 8 * (q : Int) by omega] at h2
  rw [HQ.out]
  exact ⟨rfl, h2, upd_set w ⟨g, 1, none⟩ _⟩
end Go.Proofs.Ytafmkjlkeffmfaa
