import Derived.Test.YtgknfbmlljhidaaRh
namespace Go.Proofs.Ytgknfbmlljhidaa
open Go.RowKit

/-! ### Same -/
def BoolO (v : Bool) (w : World) (e : Ending) (w' : World) : Prop := e = .returned (.bool v) ∧ Fresh w w'
set_option maxHeartbeats 1600000 in
theorem same_yes {A B : Option Addr} {c1 c2 : Nat} {ls : List RLn} {w : World} (h1 : RLs w A ls) (h2 : RLs w B ls) (hn : ls.length ≤ 9223372036854775807) :
    Calls Try.prog 13 #[.slice A ls.length c1, .slice B ls.length c2] w (BoolO true w) := by
  have H1 := Lib.hid h1
  have H2 := Lib.hid h2
  clear h1 h2
  go_enter Try.func13, Try.ntmps13
  go_wp2_with fail
  go_loopg [5] ls.length (fun gk s5 wx => ∃ k : Nat, gk + k = ls.length ∧ s5 = .int .i64 (k : Int) ∧ Hid (Fresh w wx))
  case atStart => exact ⟨0, rfl, rfl, Upd.refl w⟩
  case round =>
    obtain ⟨k, hgk, rfl, HF⟩ := hrel
    by_cases hk : k < ls.length
    · obtain ⟨ad, hA, e0, e1⟩ := (H1.out.fresh HF.out).at_ hk
      obtain ⟨ad2, hB, f0, f1⟩ := (H2.out.fresh HF.out).at_ hk
      subst hA
      subst hB
      generalize ls[k] = x at e0 e1 f0 f1
      have z1 : (k : Int) < (ls.length : Int) := by omega
      have z0 : (0 : Int) ≤ (k : Int) := by omega
      go_upto_region 6 with fail
      go_quiet (fail)
      go_wp2_with fail
      go_roundg (gk - 1)
      case measure => omega
      case rel => exact ⟨k + 1, by omega, by go_num, HF.out.drewN nq⟩
    · go_wp2_with fail
      go_ret
      exact ⟨rfl, HF.out⟩

/-! ### The document's number -/
theorem hexv_iff (c : UInt8) (k : Nat) (h : k < 16) : hexv c = some k ↔ dgt k = c := by
  have key : ∀ k : Fin 16, ∀ c : Fin 256, (hexv (UInt8.ofNat c.val) = some k.val ↔ dgt k.val = UInt8.ofNat c.val) := by decide +kernel
  have := key ⟨k, h⟩ ⟨c.toNat, c.toNat_lt⟩
  simpa using this
theorem hexv_lt {c : UInt8} {d : Nat} (h : hexv c = some d) : d < 16 := by
  unfold hexv at h
  split at h
  · injection h with h; omega
  · split at h
    · injection h with h; omega
    · cases h
def dig (c : UInt8) (j : Nat) : Int := match hexv c with
  | some d => if d < j then (d : Int) else -1
  | none => -1
theorem dig_zero (c : UInt8) : dig c 0 = -1 := by
  unfold dig
  split <;> simp
theorem dig_hit {c : UInt8} {j : Nat} (h : hexv c = some j) : dig c (j + 1) = (j : Int) := by
  unfold dig
  rw [h]
  simp
theorem dig_miss {c : UInt8} {j : Nat} (h : hexv c ≠ some j) : dig c (j + 1) = dig c j := by
  unfold dig
  cases hc : hexv c with
  | none => rfl
  | some d =>
    have : d ≠ j := fun e => h (by rw [hc, e])
    simp only
    by_cases hd : d < j
    · rw [if_pos hd, if_pos (by omega)]
    · rw [if_neg hd, if_neg (by omega)]
theorem dig_end (c : UInt8) : dig c 16 = match hexv c with | some d => (d : Int) | none => -1 := by
  unfold dig
  cases hc : hexv c with
  | none => rfl
  | some d => simp only; rw [if_pos (hexv_lt hc)]
def numI (r : Option Nat) : Int := match r with | some n => (n : Int) | none => -1
structure RNumAt (b : List UInt8) (p v : Nat) : Prop where
  eq : num (b.drop p) v = num b 0
  lt : v < 16 ^ p
theorem RNumAt.step {b : List UInt8} {p v d : Nat} (h : RNumAt b p v) (hp : p < b.length) (hd : hexv b[p] = some d) : RNumAt b (p + 1) (16 * v + d) := by
  refine ⟨?_, ?_⟩
  · rw [← h.eq, List.drop_eq_getElem_cons hp, num, hd]
  · have := h.lt
    have := hexv_lt hd
    rw [Nat.pow_succ]
    omega
theorem RNumAt.bad {b : List UInt8} {p v : Nat} (h : RNumAt b p v) (hp : p < b.length) (hd : hexv b[p] = none) : num b 0 = none := by
  rw [← h.eq, List.drop_eq_getElem_cons hp, num, hd]
set_option maxHeartbeats 1600000 in
theorem num_o {b : List UInt8} (hb : b.length = 4) (w : World) : Calls Try.prog 26 #[.string ⟨b.toArray⟩] w fun e w' => e = .returned (.int .i64 (numI (num b 0))) ∧ Fresh w w' := by
  have hsz : (⟨b.toArray⟩ : ByteArray).size = 4 := by simpa [ByteArray.size] using hb
  go_enter Try.func26, Try.ntmps26
  go_wp2_with fail
  go_loopg [3, 4, 5, 6] 4 (fun gk s3 s4 s5 s6 wx => ∃ p v : Nat, gk + p = 4 ∧ s4 = .int .i64 (p : Int) ∧ s3 = .int .i64 (v : Int) ∧ Hid (RNumAt b p v ∧ Fresh w wx))
  case atStart => exact ⟨0, 0, rfl, rfl, rfl, ⟨by rw [List.drop_zero], by decide⟩, Upd.refl w⟩
  case round =>
    obtain ⟨p, v, hgk, rfl, rfl, HN⟩ := hrel
    by_cases hp : p < 4
    · have hpl : p < b.length := by omega
      have HS := Lib.hid (fun d => HN.out.1.step (d := d) hpl)
      have HB := Lib.hid (HN.out.1.bad hpl)
      have hv : v < 65536 := by
        have h1 := HN.out.1.lt
        have h2 : 16 ^ p ≤ 16 ^ 4 := Nat.pow_le_pow_right (by decide) (by omega)
        omega
      have hidx : ((⟨b.toArray⟩ : ByteArray)[p]'(by omega)).toNat = b[p].toNat := rfl
      generalize b[p] = c at hidx HS HB
      have z1 : (p : Int) < 4 := by omega
      have z0 : (0 : Int) ≤ (p : Int) := by omega
      go_wp2_with fail
      go_loopg [5, 6] 16 (fun g2 s5 s6 wy => ∃ j : Nat, g2 + j = 16 ∧ s6 = .int .i64 (j : Int) ∧ s5 = .int .i64 (dig c j) ∧ Hid (Fresh w wy))
      case atStart => exact ⟨0, rfl, rfl, by rw [dig_zero], HN.out.2⟩
      case round =>
        obtain ⟨j, hgj, rfl, rfl, HF⟩ := hrel
        by_cases hj : j < 16
        · have n1 := dig_at j hj
          have HI := Lib.hid (hexv_iff c j hj)
          generalize dgt j = y at n1 HI
          have y1 : (j : Int) < 16 := by omega
          have y0 : (0 : Int) ≤ (j : Int) := by omega
          by_cases hy : y = c
          · subst hy
            have HD := Lib.hid (dig_hit (HI.out.2 rfl))
            go_upto_region 9 with fail
            go_quiet (fail)
            go_wp2_with fail
            go_roundg (16 - (j + 1))
            case measure => omega
            case rel => exact ⟨j + 1, by omega, by go_num, by rw [HD.out], HF.out.drewN nq⟩
          · have HD := Lib.hid (dig_miss (fun e => hy (HI.out.1 e)))
            have hne : ¬ (y.toNat = c.toNat) := fun e => hy (UInt8.toNat_inj.1 e)
            have hne2 : ((y.toNat : Int) == (c.toNat : Int)) = false := by simpa using fun e => hne (by omega)
            go_upto_region 9 with fail
            go_quiet (fail)
            go_wp2_with fail
            go_roundg (16 - (j + 1))
            case measure => omega
            case rel => exact ⟨j + 1, by omega, by go_num, by rw [HD.out], HF.out.drewN nq⟩
        · obtain rfl : j = 16 := by omega
          rw [dig_end]
          cases hc : hexv c with
          | none =>
            have HX := Lib.hid (HB.out hc)
            go_wp2_with fail
            go_ret
            rw [HX.out]
            exact ⟨rfl, HF.out⟩
          | some d =>
            have HX := Lib.hid (HS.out d hc)
            have hd := hexv_lt hc
            go_wp2_with fail
            go_roundg (4 - (p + 1))
            case measure => omega
            case rel => exact ⟨p + 1, 16 * v + d, by omega, by go_num, by go_num, HX.out, HF.out⟩
    · obtain rfl : p = 4 := by omega
      have HX := Lib.hid (show num b 0 = some v by rw [← HN.out.1.eq, List.drop_of_length_le (by omega)]; rfl)
      go_wp2_with fail
      go_ret
      rw [HX.out]
      exact ⟨rfl, HN.out.2⟩

/-! ### The document's Decode -/
structure RD (b : List UInt8) (p : Nat) (l : List RLn) : Prop where
  eq : ∃ f, b.length < p + f ∧ decL b f p l = decS b
  le : p ≤ b.length
  cnt : l.length ≤ p
section
variable {b : List UInt8} {p n : Nat} {l : List RLn}
theorem RD.start : RD b 0 [] := ⟨⟨b.length + 1, by omega, rfl⟩, Nat.zero_le _, Nat.le_refl _⟩
theorem RD.short (h : RD b p l) (hp : b.length < p + 4) : decS b = (l, p, 0) := by
  obtain ⟨f, hf, e⟩ := h.eq
  obtain ⟨f, rfl⟩ : ∃ f', f = f' + 1 := ⟨f - 1, by have := h.le; omega⟩
  rw [← e, decL, if_pos hp]
theorem RD.bad (h : RD b p l) (hp : ¬ b.length < p + 4) (hs : sizeS ((b.drop p).take 4) = none) : decS b = ([], 0, 3) := by
  obtain ⟨f, hf, e⟩ := h.eq
  obtain ⟨f, rfl⟩ : ∃ f', f = f' + 1 := ⟨f - 1, by omega⟩
  rw [← e, decL, if_neg hp, hs]
theorem RD.big (h : RD b p l) (hp : ¬ b.length < p + 4) (hs : sizeS ((b.drop p).take 4) = some n) (hn : 65520 < n) : decS b = ([], 0, 5) := by
  obtain ⟨f, hf, e⟩ := h.eq
  obtain ⟨f, rfl⟩ : ∃ f', f = f' + 1 := ⟨f - 1, by omega⟩
  rw [← e, decL, if_neg hp, hs]
  simp [hn]
theorem RD.sign (h : RD b p l) (hp : ¬ b.length < p + 4) (hs : sizeS ((b.drop p).take 4) = some n) (hn : n < 3) : RD b (p + 4) (l ++ [(2 + (n : Int), [])]) := by
  obtain ⟨f, hf, e⟩ := h.eq
  obtain ⟨f, rfl⟩ : ∃ f', f = f' + 1 := ⟨f - 1, by omega⟩
  refine ⟨⟨f, by omega, ?_⟩, by omega, by have := h.cnt; simp; omega⟩
  rw [← e, decL, if_neg hp, hs]
  simp only [if_neg (show ¬ 65520 < n by omega), if_pos hn]
theorem RD.part (h : RD b p l) (hp : ¬ b.length < p + 4) (hs : sizeS ((b.drop p).take 4) = some n) (hn : ¬ 65520 < n) (hn2 : ¬ n < 3) (hl : b.length < p + n) : decS b = (l, p, 0) := by
  obtain ⟨f, hf, e⟩ := h.eq
  obtain ⟨f, rfl⟩ : ∃ f', f = f' + 1 := ⟨f - 1, by omega⟩
  rw [← e, decL, if_neg hp, hs]
  simp only [if_neg hn, if_neg hn2, if_pos hl]
theorem RD.line (h : RD b p l) (hp : ¬ b.length < p + 4) (hs : sizeS ((b.drop p).take 4) = some n) (hn : ¬ 65520 < n) (hn2 : ¬ n < 3) (hl : ¬ b.length < p + n) : RD b (p + n) (l ++ [(1, (b.drop (p + 4)).take (n - 4))]) := by
  obtain ⟨f, hf, e⟩ := h.eq
  obtain ⟨f, rfl⟩ : ∃ f', f = f' + 1 := ⟨f - 1, by omega⟩
  refine ⟨⟨f, by omega, ?_⟩, by omega, by have := h.cnt; simp; omega⟩
  rw [← e, decL, if_neg hp, hs]
  simp only [if_neg hn, if_neg hn2, if_neg hl]
end
theorem sub_str (b : List UInt8) (i j : Nat) : (⟨b.toArray⟩ : ByteArray).extract i j = ⟨((b.drop i).take (j - i)).toArray⟩ := by
  apply ByteArray.ext
  simp [ByteArray.data_extract]

def RDecO (r : List RLn × Nat × Nat) (w : World) (e : Ending) (w' : World) : Prop :=
  ∃ A c, e = .returned (.agg #[.slice A r.1.length c, .int .i64 (r.2.1 : Int), .int .i64 (r.2.2 : Int)]) ∧ OwnR w w' A c r.1
structure RDA (w0 w : World) (gr g : Nat) (b : List UInt8) (p : Nat) (A : Option Addr) (c : Nat) (l : List RLn) : Prop where
  blk : Blk w g 39 #[.slice A l.length c, .int .i64 0, .int .i64 0]
  blr : Blk w gr 39 #[.slice none 0 0, .int .i64 0, .int .i64 0]
  own : OwnR w0 w A c l
  rd : RD b p l
  ne : g ≠ gr
  hg : w0.heap.size ≤ g
  hgr : w0.heap.size ≤ gr
theorem RDA.fresh {w0 w w' : World} {gr g : Nat} {b : List UInt8} {p : Nat} {A : Option Addr} {c : Nat} {l : List RLn} (h : RDA w0 w gr g b p A c l) (hu : Fresh w w') : RDA w0 w' gr g b p A c l :=
  ⟨h.blk.upd hu (fun h => h), h.blr.upd hu (fun h => h), h.own.fresh hu, h.rd, h.ne, h.hg, h.hgr⟩
theorem own_set {w0 w : World} {A : Option Addr} {c : Nat} {l : List RLn} {g o : Nat} {cs : Array Value} (h : OwnR w0 w A c l) (hb : Blk w g 39 cs) (hg : w0.heap.size ≤ g) (u : Value) : OwnR w0 (w.setCell ⟨g, o, none⟩ u) A c l :=
  ⟨owns_upd h.own (upd_set w ⟨g, o, none⟩ u) (fun k hk e => own_blk_ne h.own hb (by decide) (by rw [hk, e])), h.ab, h.fr.setCell (fun e => by exact absurd e (by show ¬ g < _; omega)) u⟩
theorem RDA.put {w0 w w3 : World} {gr g : Nat} {b : List UInt8} {p p2 n : Nat} {A A3 : Option Addr} {c c3 : Nat} {l : List RLn} {x : RLn} (h : RDA w0 w gr g b p A c l) (ho : OwnR w0 w3 A3 c3 (l ++ [x])) (hb : Blk w3 g 39 #[.slice A l.length c, .int .i64 0, .int .i64 0]) (hr : Blk w3 gr 39 #[.slice none 0 0, .int .i64 0, .int .i64 0]) (hd : RD b p2 (l ++ [x])) (hn : n = (l ++ [x]).length) :
    RDA w0 (w3.setCell ⟨g, 0, none⟩ (.slice A3 n c3)) gr g b p2 A3 c3 (l ++ [x]) := by
  subst hn
  exact ⟨by simpa using hb.set_ 0 (.slice A3 (l ++ [x]).length c3), hr.far (p := ⟨g, 0, none⟩) (fun e => h.ne e.symm) _, own_set ho hb h.hg _, hd, h.ne, h.hg, h.hgr⟩
theorem own_fin {w0 w : World} {A : Option Addr} {c : Nat} {l : List RLn} {g : Nat} {a b d : Value} (h : OwnR w0 w A c l) (hb : Blk w g 39 #[a, b, d]) (hg : w0.heap.size ≤ g) (x y z : Value) :
    Blk (((w.setCell ⟨g, 0, none⟩ x).setCell ⟨g, 1, none⟩ y).setCell ⟨g, 2, none⟩ z) g 39 #[x, y, z] ∧ OwnR w0 (((w.setCell ⟨g, 0, none⟩ x).setCell ⟨g, 1, none⟩ y).setCell ⟨g, 2, none⟩ z) A c l := by
  have b1 := hb.set_ 0 x
  have b2 := b1.set_ 1 y
  have b3 := b2.set_ 2 z
  exact ⟨by simpa using b3, own_set (own_set (own_set h hb hg x) b1 hg y) b2 hg z⟩
set_option maxHeartbeats 1600000 in
theorem rdec_o {b : List UInt8} (hl : b.length ≤ 1099511627776) (w : World) : Calls Try.prog 12 #[.string ⟨b.toArray⟩] w (RDecO (decS b) w) := by
  obtain ⟨i0, hi0, hz0, hz1, hz2⟩ := info_parts Try.info60
  have hsz : (⟨b.toArray⟩ : ByteArray).size = b.length := by simp [ByteArray.size]
  go_enter Try.func12, Try.ntmps12
  go_upto_region 2 with fail
  have H0 := Lib.hid (show RDA w ((w.alloc (.cells #[.slice none 0 0, .int .i64 0, .int .i64 0] 39)).alloc (.cells #[.slice none 0 0, .int .i64 0, .int .i64 0] 39)) w.heap.size (w.heap.size + 1) b 0 none 0 [] from
    ⟨by simpa using Blk.new (w.alloc (.cells #[.slice none 0 0, .int .i64 0, .int .i64 0] 39)) 39 #[.slice none 0 0, .int .i64 0, .int .i64 0], (Blk.new w 39 #[.slice none 0 0, .int .i64 0, .int .i64 0]).alloc _, OwnR.nil (((Upd.refl w).alloc _).alloc _), RD.start, by omega, by omega, Nat.le_refl _⟩)
  generalize (w.alloc (.cells #[.slice none 0 0, .int .i64 0, .int .i64 0] 39)).alloc (.cells #[.slice none 0 0, .int .i64 0, .int .i64 0] 39) = w1 at H0 ⊢
  generalize w.heap.size + 1 = g at H0 ⊢
  obtain ⟨gr, hgr⟩ : ∃ gr, w.heap.size = gr := ⟨_, rfl⟩
  rw [hgr] at H0 ⊢
  clear hgr
  go_wp2_with fail
  go_loopg [4, 5] b.length (fun gk s4 s5 wx => ∃ (p : Nat) (A1 : Option Addr) (c1 : Nat) (l : List RLn), gk + p = b.length ∧ s4 = .int .i64 (p : Int) ∧ Hid (RDA w wx gr g b p A1 c1 l))
  case atStart => exact ⟨0, none, 0, [], rfl, rfl, H0.out⟩
  case round =>
    obtain ⟨p, A1, c1, l, hgk, rfl, HD⟩ := hrel
    clear H0
    have hple := HD.out.rd.le
    have hcnt := HD.out.rd.cnt
    have d0 := HD.out.blk.cell 0
    have d1 := HD.out.blk.cell 1
    have d2 := HD.out.blk.cell 2
    simp only [List.getElem?_toArray, List.getElem?_cons_zero, List.getElem?_cons_succ] at d0 d1 d2
    have r0 := HD.out.blr.cell 0
    have r1 := HD.out.blr.cell 1
    have r2 := HD.out.blr.cell 2
    simp only [List.getElem?_toArray, List.getElem?_cons_zero, List.getElem?_cons_succ] at r0 r1 r2
    have fd0 := HD.out.blk.frozen 0
    have fd1 := HD.out.blk.frozen 1
    have fr0 := HD.out.blr.frozen 0
    have fr1 := HD.out.blr.frozen 1
    have fr2 := HD.out.blr.frozen 2
    have hne2 := Ne.symm HD.out.ne
    have hlt1 := HD.out.blk.lt
    have hlt2 := HD.out.blr.lt
    have hne := HD.out.ne
    by_cases hp : b.length < p + 4
    · have HS := Lib.hid (HD.out.rd.short hp)
      go_wp2_with fail
      have HB1 := Lib.hid (HD.out.blr.far (p := ⟨g, 1, none⟩) (fun e => hne2 e) (.int .i64 (p : Int)))
      have HO1 := Lib.hid (own_set (o := 1) HD.out.own HD.out.blk HD.out.hg (.int .i64 (p : Int)))
      have HF := Lib.hid (own_fin HO1.out HB1.out HD.out.hgr (.slice A1 l.length c1) (.int .i64 (p : Int)) (.int .i64 0))
      clear HB1 HO1
      generalize (((wr.setCell ⟨g, 1, none⟩ (.int .i64 (p : Int))).setCell ⟨gr, 0, none⟩ (.slice A1 l.length c1)).setCell ⟨gr, 1, none⟩ (.int .i64 (p : Int))).setCell ⟨gr, 2, none⟩ (.int .i64 0) = w9 at HF ⊢
      have q0 := HF.out.1.cell 0
      have q1 := HF.out.1.cell 1
      have q2 := HF.out.1.cell 2
      simp only [List.getElem?_toArray, List.getElem?_cons_zero, List.getElem?_cons_succ] at q0 q1 q2
      refine bodyPost_ret (v := .agg #[.slice A1 l.length c1, .int .i64 (p : Int), .int .i64 0]) (by simp [results, Try.results12, go_sem, q0, q1, q2]) rfl ?_
      rw [HS.out]
      exact ⟨A1, c1, rfl, HF.out.2⟩
    · have x2 : (p : Int) ≤ (b.length : Int) := by omega
      have h4 : ((b.drop p).take 4).length = 4 := by simp; omega
      have HN := Lib.hid (fun w9 => num_o h4 w9)
      have hs4 := sub_str b p (p + 4)
      rw [show p + 4 - p = 4 by omega] at hs4
      have HB := Lib.hid (HD.out.rd.bad hp)
      have HG := Lib.hid (fun n => HD.out.rd.big (n := n) hp)
      have HI := Lib.hid (fun n => HD.out.rd.sign (n := n) hp)
      have HP := Lib.hid (fun n => HD.out.rd.part (n := n) hp)
      have HL := Lib.hid (fun n => HD.out.rd.line (n := n) hp)
      have HSZ := Lib.hid (show sizeS ((b.drop p).take 4) = match num ((b.drop p).take 4) 0 with | none => none | some n => if n = 3 ∨ n = 4 then none else some n from rfl)
      have hnl := fun n => num_lt ((b.drop p).take 4) 0 n
      generalize (b.drop p).take 4 = b4 at hs4 h4 HN HB HG HI HP HL HSZ hnl
      rw [h4] at hnl
      clear d0 d1 d2 r0 r1 r2 fd0 fd1 fr0 fr1 fr2 hlt1 hlt2
      go_upto_region 4 with fail
      go_wp2_with fail
      rw [hs4]
      refine (HN.out _).mono ?_
      rintro e w2 ⟨rfl, h2⟩
      have HD2 := Lib.hid (HD.out.fresh h2)
      clear HD h2 HN hs4 h4
      have d0 := HD2.out.blk.cell 0
      have d1 := HD2.out.blk.cell 1
      have d2 := HD2.out.blk.cell 2
      have r0 := HD2.out.blr.cell 0
      have r1 := HD2.out.blr.cell 1
      have r2 := HD2.out.blr.cell 2
      simp only [List.getElem?_toArray, List.getElem?_cons_zero, List.getElem?_cons_succ] at d0 d1 d2 r0 r1 r2
      have fd0 := HD2.out.blk.frozen 0
      have fd1 := HD2.out.blk.frozen 1
      have fr0 := HD2.out.blr.frozen 0
      have fr1 := HD2.out.blr.frozen 1
      have fr2 := HD2.out.blr.frozen 2
      have hlt1 := HD2.out.blk.lt
      have hlt2 := HD2.out.blr.lt
      cases hz : num b4 0 with
      | none =>
        rw [hz] at HSZ
        have HX := Lib.hid (HB.out HSZ.out)
        simp only [numI]
        clear hnl
        have HF := Lib.hid (own_fin (OwnR.nil (HD2.out.own.fr)) HD2.out.blr HD2.out.hgr (.slice none 0 0) (.int .i64 0) (.int .i64 3))
        go_wp2_with fail
        generalize ((w2.setCell ⟨gr, 0, none⟩ (.slice none 0 0)).setCell ⟨gr, 1, none⟩ (.int .i64 0)).setCell ⟨gr, 2, none⟩ (.int .i64 3) = w9 at HF ⊢
        have q0 := HF.out.1.cell 0
        have q1 := HF.out.1.cell 1
        have q2 := HF.out.1.cell 2
        simp only [List.getElem?_toArray, List.getElem?_cons_zero, List.getElem?_cons_succ] at q0 q1 q2
        refine bodyPost_ret (v := .agg #[.slice none 0 0, .int .i64 0, .int .i64 3]) (by simp [results, Try.results12, go_sem, q0, q1, q2]) rfl ?_
        rw [HX.out]
        exact ⟨none, 0, rfl, HF.out.2⟩
      | some n =>
        have hn := hnl n hz
        rw [hz] at HSZ
        simp only [numI]
        clear hnl hz
        by_cases hn34 : n = 3 ∨ n = 4
        · have HX := Lib.hid (HB.out (by rw [HSZ.out]; simp only; rw [if_pos hn34]))
          rcases hn34 with rfl | rfl
          · have HF := Lib.hid (own_fin (OwnR.nil (HD2.out.own.fr)) HD2.out.blr HD2.out.hgr (.slice none 0 0) (.int .i64 0) (.int .i64 3))
            go_wp2_with fail
            generalize ((w2.setCell ⟨gr, 0, none⟩ (.slice none 0 0)).setCell ⟨gr, 1, none⟩ (.int .i64 0)).setCell ⟨gr, 2, none⟩ (.int .i64 3) = w9 at HF ⊢
            have q0 := HF.out.1.cell 0
            have q1 := HF.out.1.cell 1
            have q2 := HF.out.1.cell 2
            simp only [List.getElem?_toArray, List.getElem?_cons_zero, List.getElem?_cons_succ] at q0 q1 q2
            refine bodyPost_ret (v := .agg #[.slice none 0 0, .int .i64 0, .int .i64 3]) (by simp [results, Try.results12, go_sem, q0, q1, q2]) rfl ?_
            rw [HX.out]
            exact ⟨none, 0, rfl, HF.out.2⟩
          · have HF := Lib.hid (own_fin (OwnR.nil (HD2.out.own.fr)) HD2.out.blr HD2.out.hgr (.slice none 0 0) (.int .i64 0) (.int .i64 3))
            go_wp2_with fail
            generalize ((w2.setCell ⟨gr, 0, none⟩ (.slice none 0 0)).setCell ⟨gr, 1, none⟩ (.int .i64 0)).setCell ⟨gr, 2, none⟩ (.int .i64 3) = w9 at HF ⊢
            have q0 := HF.out.1.cell 0
            have q1 := HF.out.1.cell 1
            have q2 := HF.out.1.cell 2
            simp only [List.getElem?_toArray, List.getElem?_cons_zero, List.getElem?_cons_succ] at q0 q1 q2
            refine bodyPost_ret (v := .agg #[.slice none 0 0, .int .i64 0, .int .i64 3]) (by simp [results, Try.results12, go_sem, q0, q1, q2]) rfl ?_
            rw [HX.out]
            exact ⟨none, 0, rfl, HF.out.2⟩
        · have hz2 := (show sizeS b4 = some n by rw [HSZ.out]; simp only; rw [if_neg hn34])
          have HG := Lib.hid (HG.out n hz2)
          have HI := Lib.hid (HI.out n hz2)
          have HP := Lib.hid (HP.out n hz2)
          have HL := Lib.hid (HL.out n hz2)
          clear hz2 HSZ
          have hn3 : ¬ n = 3 := fun e => hn34 (.inl e)
          have hn4 : ¬ n = 4 := fun e => hn34 (.inr e)
          clear hn34
          have b1 : ((n : Int) == 3) = false := by simp; omega
          have b2 : ((n : Int) == 4) = false := by simp; omega
          by_cases hb : 65520 < n
          · have HX := Lib.hid (HG.out hb)
            have HF := Lib.hid (own_fin (OwnR.nil (HD2.out.own.fr)) HD2.out.blr HD2.out.hgr (.slice none 0 0) (.int .i64 0) (.int .i64 5))
            go_wp2_with fail
            generalize ((w2.setCell ⟨gr, 0, none⟩ (.slice none 0 0)).setCell ⟨gr, 1, none⟩ (.int .i64 0)).setCell ⟨gr, 2, none⟩ (.int .i64 5) = w9 at HF ⊢
            have q0 := HF.out.1.cell 0
            have q1 := HF.out.1.cell 1
            have q2 := HF.out.1.cell 2
            simp only [List.getElem?_toArray, List.getElem?_cons_zero, List.getElem?_cons_succ] at q0 q1 q2
            refine bodyPost_ret (v := .agg #[.slice none 0 0, .int .i64 0, .int .i64 5]) (by simp [results, Try.results12, go_sem, q0, q1, q2]) rfl ?_
            rw [HX.out]
            exact ⟨none, 0, rfl, HF.out.2⟩
          · by_cases h3 : n < 3
            · have HX := Lib.hid (HI.out h3)
              go_wp2_with (first
                | (at_builtin
                   refine wpList_append_any _ rfl (.tmp 54) (.tmp 58) 36 rfl 60 i0 _ 2 24 Try.underlying36 hi0 hz0 hz1 hz2 rfl (by omega) (.slice A1 l.length c1) l.length (rlcells l) rfl (HD2.out.own.fresh ((Upd.refl w2).alloc _)).own (fun _ => True) (some ⟨w2.heap.size, 0, none⟩) 1 1 _ rfl (reads_new w2 #[.int .i64 (2 + (n : Int)), .string ⟨#[]⟩] 60 2 1 rfl) (by simp [Value.oneCell']) (by unfold maxLen; omega) (by omega) ?_
                   intro A3 d3 w3 hown3 hg3 hat3
                   have HO3 := Lib.hid (HD2.out.own.app (x := (2 + (n : Int), [])) ((Upd.refl w2).alloc _) hown3 (by simp) hg3 hat3)
                   have hb3 := (HD2.out.blk.alloc _).grown hg3 (fun e => own_blk_ne HD2.out.own.own HD2.out.blk (by decide) e.symm)
                   have hr3 := (HD2.out.blr.alloc _).grown hg3 (fun e => own_blk_ne HD2.out.own.own HD2.out.blr (by decide) e.symm)
                   have q0 := hb3.cell 0
                   have fq0 := hb3.frozen 0
                   simp only [List.getElem?_toArray, List.getElem?_cons_zero, List.getElem?_cons_succ] at q0
                   have HR3 := Lib.hid (HD2.out.put (n := l.length + 1) HO3.out hb3 hr3 HX.out (by simp))
                   clear hown3 hg3 hat3 hb3 hr3))
              go_roundg (gk - 4)
              case measure => omega
              case rel => exact ⟨p + 4, A3, d3, _, by omega, by go_num, HR3.out⟩
            · by_cases hpn : b.length < p + n
              · have HX := Lib.hid (HP.out hb h3 hpn)
                have HB1 := Lib.hid (HD2.out.blr.far (p := ⟨g, 1, none⟩) (fun e => hne2 e) (.int .i64 (p : Int)))
                have HO1 := Lib.hid (own_set (o := 1) HD2.out.own HD2.out.blk HD2.out.hg (.int .i64 (p : Int)))
                have HF := Lib.hid (own_fin HO1.out HB1.out HD2.out.hgr (.slice A1 l.length c1) (.int .i64 (p : Int)) (.int .i64 0))
                clear HB1 HO1
                go_wp2_with fail
                generalize (((w2.setCell ⟨g, 1, none⟩ (.int .i64 (p : Int))).setCell ⟨gr, 0, none⟩ (.slice A1 l.length c1)).setCell ⟨gr, 1, none⟩ (.int .i64 (p : Int))).setCell ⟨gr, 2, none⟩ (.int .i64 0) = w9 at HF ⊢
                have q0 := HF.out.1.cell 0
                have q1 := HF.out.1.cell 1
                have q2 := HF.out.1.cell 2
                simp only [List.getElem?_toArray, List.getElem?_cons_zero, List.getElem?_cons_succ] at q0 q1 q2
                refine bodyPost_ret (v := .agg #[.slice A1 l.length c1, .int .i64 (p : Int), .int .i64 0]) (by simp [results, Try.results12, go_sem, q0, q1, q2]) rfl ?_
                rw [HX.out]
                exact ⟨A1, c1, rfl, HF.out.2⟩
              · have HX := Lib.hid (HL.out hb h3 hpn)
                have hss := sub_str b (p + 4) (p + n)
                rw [show p + n - (p + 4) = n - 4 by omega] at hss
                generalize (b.drop (p + 4)).take (n - 4) = d at hss HX
                have y1 : (p : Int) + 4 ≤ (p : Int) + n := by omega
                have y2 : (p : Int) + n ≤ (b.length : Int) := by omega
                have y3 : (0 : Int) ≤ (p : Int) + 4 := by omega
                have y4 : IntKind.i64.wrap ((p : Int) + 4) = (p : Int) + 4 := by rw [IntKind.wrap_i64]; omega
                have y5 : IntKind.i64.wrap ((p : Int) + n) = (p : Int) + n := by rw [IntKind.wrap_i64]; omega
                have y6 : ((p : Int) + 4).toNat = p + 4 := by omega
                have y7 : ((p : Int) + n).toNat = p + n := by omega
                go_upto_region 5 with fail
                go_region_law (first
                  | (go_must (refine step_append_any _ rfl (.tmp 19) (.tmp 28) 36 rfl 60 i0 _ 2 24 Try.underlying36 hi0 hz0 hz1 hz2 rfl (by omega) (.slice A1 l.length c1) l.length (rlcells l) rfl (HD2.out.own.fresh ((Upd.refl w2).alloc _).drew).own (fun _ => True) (some ⟨w2.heap.size, 0, none⟩) 1 1 _ rfl (Reads.drew (reads_new w2 #[.int .i64 1, .string ⟨d.toArray⟩] 60 2 1 rfl)) (by simp [Value.oneCell']) (by unfold maxLen; omega) (by omega) ?_)
                     intro A3 d3 w3 hown3 hg3 hat3
                     have HO3 := Lib.hid (HD2.out.own.app (x := (1, d)) ((Upd.refl w2).alloc _).drew hown3 (by simp) hg3 hat3)
                     have hb3 := ((HD2.out.blk.alloc _).drew).grown hg3 (fun e => own_blk_ne HD2.out.own.own HD2.out.blk (by decide) e.symm)
                     have hr3 := ((HD2.out.blr.alloc _).drew).grown hg3 (fun e => own_blk_ne HD2.out.own.own HD2.out.blr (by decide) e.symm)
                     have q0 := hb3.cell 0
                     have fq0 := hb3.frozen 0
                     simp only [List.getElem?_toArray, List.getElem?_cons_zero, List.getElem?_cons_succ] at q0
                     have HR3 := Lib.hid (HD2.out.put (n := l.length + 1) HO3.out hb3 hr3 HX.out (by simp))
                     clear hown3 hg3 hat3 hb3 hr3))
                · clear y4 y5 y6 y7
                  go_wp2_with fail
                  go_roundg (gk - n)
                  case measure => omega
                  case rel => exact ⟨p + n, A3, d3, _, by omega, by go_num, HR3.out⟩
                · clear y4 y5 y6 y7
                  go_wp2_with fail
                  go_roundg (gk - n)
                  case measure => omega
                  case rel => exact ⟨p + n, A3, d3, _, by omega, by go_num, HR3.out⟩
end Go.Proofs.Ytgknfbmlljhidaa
