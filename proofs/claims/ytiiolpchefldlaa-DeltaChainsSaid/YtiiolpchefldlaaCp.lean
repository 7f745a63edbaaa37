import Derived.Test.YtiiolpchefldlaaFl
import Derived.Test.YtiiolpchefldlaaFd
namespace Go.Proofs.Ytiiolpchefldlaa
open Go.RowKit

/-! ### copy -/
/-- Which of a number's first i bytes are not nought; these bytes. -/
def emask (v : Nat) : Nat → Nat
  | 0 => 0
  | i + 1 => emask v i + if v / 2 ^ (8 * i) % 256 = 0 then 0 else 2 ^ i
def ebytes (v : Nat) : Nat → List UInt8
  | 0 => []
  | i + 1 => ebytes v i ++ if v / 2 ^ (8 * i) % 256 = 0 then [] else [UInt8.ofNat (v / 2 ^ (8 * i) % 256)]
theorem emask_lt (v : Nat) : ∀ i, emask v i < 2 ^ i
  | 0 => by simp [emask]
  | i + 1 => by
    have := emask_lt v i
    rw [emask, Nat.pow_succ]
    split <;> omega
theorem ebytes_len (v : Nat) : ∀ i, (ebytes v i).length ≤ i
  | 0 => by simp [ebytes]
  | i + 1 => by
    have := ebytes_len v i
    rw [ebytes, List.length_append]
    split
    · simp; omega
    · simp; omega
def szOf (k : Nat) : Nat := if k < 65536 then k else 0
/-- A copy of k bytes from place at. -/
def cpB (at_ k : Nat) : List UInt8 := UInt8.ofNat (128 + emask at_ 4 + 16 * emask (szOf k) 3) :: (ebytes at_ 4 ++ ebytes (szOf k) 3)
theorem cpB_len (at_ k : Nat) : (cpB at_ k).length ≤ 8 := by
  have h1 := ebytes_len at_ 4
  have h2 := ebytes_len (szOf k) 3
  rw [cpB, List.length_cons, List.length_append]
  omega
def copyF : Nat → Nat → Nat → List UInt8
  | 0, _, _ => []
  | f + 1, at_, n => if n = 0 then [] else cpB at_ (min n 65536) ++ copyF f (at_ + min n 65536) (n - min n 65536)
def copyS (at_ n : Nat) : List UInt8 := copyF n at_ n
theorem copyF_fuel : ∀ (f g at_ n : Nat), n ≤ f → n ≤ g → copyF f at_ n = copyF g at_ n
  | 0, 0, _, _, _, _ => rfl
  | 0, g + 1, _, _, h, _ => by rw [copyF, copyF, if_pos (by omega)]
  | f + 1, 0, _, _, _, h => by rw [copyF, copyF, if_pos (by omega)]
  | f + 1, g + 1, at_, n, h1, h2 => by
    rw [copyF, copyF]
    by_cases h : n = 0
    · rw [if_pos h, if_pos h]
    · rw [if_neg h, if_neg h, copyF_fuel f g _ _ (by omega) (by omega)]
theorem copyS_zero (at_ : Nat) : copyS at_ 0 = [] := rfl
theorem copyS_step {at_ n k : Nat} (h : 0 < n) (hk : k = min n 65536) : copyS at_ n = cpB at_ k ++ copyS (at_ + k) (n - k) := by
  unfold copyS
  obtain ⟨f, rfl⟩ : ∃ f, n = f + 1 := ⟨n - 1, by omega⟩
  rw [copyF, if_neg (by omega), ← hk, copyF_fuel f (f + 1 - k) _ _ (by omega) (Nat.le_refl _)]
theorem flushF_len : ∀ (f : Nat) (l : List UInt8), (flushF f l).length ≤ 2 * l.length
  | 0, _ => by simp [flushF]
  | f + 1, l => by
    rw [flushF]
    split
    · simp
    · have := flushF_len f (l.drop (min 127 l.length))
      rw [List.length_drop] at this
      rw [List.cons_append, List.length_cons, List.length_append, List.length_take]
      omega
theorem flushS_len (l : List UInt8) : (flushS l).length ≤ 2 * l.length := flushF_len _ l
theorem emask_sz (k i x : Nat) (hx : x = k / 2 ^ (8 * i) % 256) : emask (szOf k) (i + 1) = emask (szOf k) i + if k < 65536 ∧ x ≠ 0 then 2 ^ i else 0 := by
  by_cases hk : k < 65536
  · rw [show szOf k = k from if_pos hk, emask, ← hx]
    by_cases h0 : x = 0
    · simp [h0]
    · simp [h0, hk]
  · rw [show szOf k = 0 from if_neg hk, emask]
    simp [hk]
theorem ebytes_sz (k i : Nat) (x : UInt8) (hx : x.toNat = k / 2 ^ (8 * i) % 256) : ebytes (szOf k) (i + 1) = ebytes (szOf k) i ++ if k < 65536 ∧ x.toNat ≠ 0 then [x] else [] := by
  by_cases hk : k < 65536
  · rw [show szOf k = k from if_pos hk, ebytes, ← hx, UInt8.ofNat_toNat]
    by_cases h0 : x.toNat = 0
    · rw [if_pos h0, if_neg (fun h => h.2 h0)]
    · rw [if_neg h0, if_pos ⟨hk, h0⟩]
  · rw [show szOf k = 0 from if_neg hk, ebytes, if_pos (by simp), if_neg (fun h => hk h.1)]
theorem u8_or_low (m i : Nat) (hi : i < 4) (hm : m < 2 ^ i) : bits .or .u8 (128 + (m : Int)) (2 ^ i % 256) = ((128 + m + 2 ^ i : Nat) : Int) := by
  have key : ∀ i : Fin 4, ∀ m : Fin 8, m.val < 2 ^ i.val → bits .or .u8 (128 + ((m.val : Nat) : Int)) (2 ^ i.val % 256) = ((128 + m.val + 2 ^ i.val : Nat) : Int) := by decide +kernel
  have h8 : 2 ^ i ≤ 2 ^ 3 := Nat.pow_le_pow_right (by decide) (by omega)
  exact key ⟨i, hi⟩ ⟨m, by omega⟩ hm
theorem u8_or_high (a m i : Nat) (ha : a < 16) (hi : i < 3) (hm : m < 2 ^ i) : bits .or .u8 (128 + (a : Int) + 16 * (m : Int)) (16 * 2 ^ i % 256) = ((128 + a + 16 * (m + 2 ^ i) : Nat) : Int) := by
  have key : ∀ a : Fin 16, ∀ i : Fin 3, ∀ m : Fin 4, m.val < 2 ^ i.val → bits .or .u8 (128 + ((a.val : Nat) : Int) + 16 * ((m.val : Nat) : Int)) (16 * 2 ^ i.val % 256) = ((128 + a.val + 16 * (m.val + 2 ^ i.val) : Nat) : Int) := by decide +kernel
  have h8 : 2 ^ i ≤ 2 ^ 2 := Nat.pow_le_pow_right (by decide) (by omega)
  exact key ⟨a, ha⟩ ⟨i, hi⟩ ⟨m, by omega⟩ hm
theorem Own.far {w0 w w' : World} {A : Option Addr} {c : Nat} {b : List UInt8} {F : Nat → Prop} (h : Own w0 w A c b) (hu : Upd F w w') (hF : ∀ k, F k → k < w0.heap.size) : Reads w' (fun _ => True) 1 A b.length (bv b) := by
  refine ((Reads.of_own h.own).upd hu (fun k hk hf => ?_)).weak (fun _ _ => trivial)
  rw [ownBlock_map] at hk
  have h1 := h.ab k hk
  have h2 := hF k hf
  omega
structure CpAt (res : List UInt8) (K : Nat) (out : List UInt8) (at_ n : Nat) : Prop where
  eq : out ++ copyS at_ n = res
  len : out.length + 8 * n ≤ K
  rng : at_ + n ≤ 1099511627776
set_option maxHeartbeats 3200000 in
set_option maxRecDepth 100000 in
theorem copy_o {w0 wk w : World} {g at_ n : Nat} {Ao Aw : Option Addr} {co cw : Nat} {out wt : List UInt8} (h : Mkr w0 wk w g Ao co out Aw cw wt) (hl : out.length + 2 * wt.length + 8 * n ≤ 1099511627776) (hr : at_ + n ≤ 1099511627776) :
    Calls Try.prog 17 #[.pointer (some ⟨g, 0, none⟩), .int .i64 (at_ : Int), .int .i64 (n : Int)] w (FlushO w0 wk g (out ++ flushS wt ++ copyS at_ n)) := by
  obtain ⟨i0, hi0, hz0, hz1, hz2⟩ := info_parts Try.info5
  have HFl := Lib.hid (flush_o h (by omega))
  have hfl := flushS_len wt
  have HC := Lib.hid (show CpAt (out ++ flushS wt ++ copyS at_ n) 1099511627776 (out ++ flushS wt) at_ n from ⟨rfl, by rw [List.length_append]; omega, hr⟩)
  generalize out ++ flushS wt ++ copyS at_ n = res at HC ⊢
  generalize out ++ flushS wt = out1 at HC HFl
  clear h hl hr hfl
  go_enter Try.func17, Try.ntmps17
  go_wp2_with fail
  refine HFl.out.mono ?_
  rintro e w1 ⟨rfl, A1, c1, Aw1, cw1, M1⟩
  replace M1 := Lib.hid M1
  go_wp2_with fail
  go_loopg [1, 2] n (fun gk s1 s2 wx => ∃ (a2 n2 : Nat) (A2 : Option Addr) (c2 : Nat) (out2 : List UInt8) (Aw2 : Option Addr) (cw2 : Nat), n2 = gk ∧ s1 = .int .i64 (a2 : Int) ∧ s2 = .int .i64 (n2 : Int) ∧ Hid (Mkr w0 wk wx g A2 c2 out2 Aw2 cw2 []) ∧ Hid (CpAt res 1099511627776 out2 a2 n2))
  case atStart => exact ⟨at_, n, A1, c1, out1, Aw1, cw1, rfl, rfl, rfl, M1.out, HC.out⟩
  case round =>
    obtain ⟨a2, n2, A2, c2, out2, Aw2, cw2, rfl, rfl, rfl, HM, HR⟩ := hrel
    have hrng := HR.out.rng
    by_cases hn : 0 < n2
    · obtain ⟨k, hk⟩ : ∃ k, k = min n2 65536 := ⟨_, rfl⟩
      have HX := Lib.hid (copyS_step (at_ := a2) hn hk)
      obtain ⟨K, hK⟩ : ∃ K : Int, (k : Int) = K := ⟨_, rfl⟩
      go_upto_region 2 with fail
      go_cut [6] (fun sv wx => sv = .int .i64 K ∧ wr = wx)
      case first =>
        by_cases hm : n2 ≤ 65536
        · have e := Lib.hid (show k = n2 by omega)
          clear hk
          go_wp2_with fail
          go_meet
          exact ⟨by rw [← hK, e.out], rfl⟩
        · have e := Lib.hid (show k = 65536 by omega)
          clear hk
          go_wp2_with fail
          go_meet
          exact ⟨by rw [← hK, e.out]; rfl, rfl⟩
      obtain ⟨rfl, rfl⟩ := hcut
      have hk1 : 1 ≤ k := by omega
      have hk2 : k ≤ n2 := by omega
      have hk3 := Lib.hid (show k ≤ 65536 by omega)
      have hK1 : 1 ≤ K := by omega
      have hK2 : K ≤ (n2 : Int) := by omega
      have hK3 : K ≤ 65536 := by omega
      have HK := Lib.hid hK
      clear hK
      clear hk
      obtain ⟨wO, rfl⟩ : ∃ w', w' = wr := ⟨wr, rfl⟩
      go_wp2_with fail
      go_loopg [7, 8, 19] 4 (fun gi s7 s8 s19 wx => ∃ (i : Nat) (A : Option Addr) (c : Nat), gi + i = 4 ∧ s19 = .int .i64 (i : Int) ∧ s7 = .int .u8 ((128 + emask a2 i : Nat) : Int) ∧ s8 = .slice A (ebytes a2 i).length c ∧ Hid (Own wO wx A c (ebytes a2 i)))
      case atStart => exact ⟨0, none, 0, rfl, rfl, rfl, rfl, Own.nil (Upd.refl _)⟩
      case round =>
        obtain ⟨i, A, c, hgi, rfl, rfl, rfl, HO⟩ := hrel
        by_cases hi : i < 4
        · have z0 : 0 ≤ 8 * (i : Int) := by omega
          have z1 : 8 * (i : Int) < 64 := by omega
          have z2 : (8 * (i : Int)).toNat = 8 * i := by omega
          obtain ⟨x, hx⟩ : ∃ x : UInt8, x.toNat = a2 / 2 ^ (8 * i) % 256 := ⟨UInt8.ofNat (a2 / 2 ^ (8 * i) % 256), by rw [UInt8.toNat_ofNat']; omega⟩
          have hc : (a2 : Int) / 2 ^ (8 * i) % 256 = (x.toNat : Int) := by rw [hx]; simp
          have hem : emask a2 (i + 1) = emask a2 i + if x.toNat = 0 then 0 else 2 ^ i := by rw [emask, hx]
          have heb : ebytes a2 (i + 1) = ebytes a2 i ++ if x.toNat = 0 then [] else [x] := by rw [ebytes, ← hx, UInt8.ofNat_toNat]
          have hlt := emask_lt a2 i
          have hel := ebytes_len a2 i
          go_upto_region 7 with fail
          go_cut [10] (fun sv wy => sv = .int .u8 (x.toNat : Int) ∧ wr = wy)
          case first =>
            go_wp2_with fail
            go_meet
            exact ⟨by rw [hc], rfl⟩
          obtain ⟨rfl, rfl⟩ := hcut
          clear hc hx z0 z1 z2
          by_cases h0 : x.toNat = 0
          · rw [if_pos h0] at hem heb
            rw [Nat.add_zero] at hem
            rw [List.append_nil] at heb
            go_wp2_with fail
            go_roundg (gk - 1)
            case measure => omega
            case rel => exact ⟨i + 1, A, c, by omega, by go_num, by rw [hem]; simp, by rw [heb], by rw [heb]; exact HO.out⟩
          · rw [if_neg h0] at hem heb
            have h1 : ((x.toNat : Int) == 0) = false := by simpa using h0
            have hor := Lib.hid (u8_or_low (emask a2 i) i hi hlt)
            go_wp2_with (first
              | (at_builtin
                 refine wpList_append_any _ rfl (.tmp 33) (.tmp 35) 22 rfl 5 i0 _ 1 1 Try.underlying22 hi0 hz0 hz1 hz2 rfl (by omega) (.slice A (ebytes a2 i).length c) (ebytes a2 i).length (bv (ebytes a2 i)) rfl (HO.out.fresh ((Upd.refl wr).alloc _)).own (fun _ => True) (some ⟨wr.heap.size, 0, none⟩) 1 1 (bv [x]) rfl (reads_cells wr [x] #[.int .u8 x.toNat] rfl 1 rfl) (bv_one _) (by unfold maxLen; omega) (by omega) ?_
                 intro A3 d3 w3 hown3 hg3 hat3
                 have HO3 := Lib.hid (HO.out.app ((Upd.refl wr).alloc _) hown3 (by simp) hg3 hat3)
                 clear hown3 hg3 hat3))
            go_roundg (gk - 1)
            case measure => omega
            case rel => exact ⟨i + 1, A3, d3, by omega, by go_num, by rw [hor.out, hem, Nat.add_assoc], by rw [heb, List.length_append]; rfl, by rw [heb]; exact HO3.out⟩
        · obtain rfl : i = 4 := by omega
          have hM := emask_lt a2 4
          have hE := ebytes_len a2 4
          obtain ⟨M, hMe⟩ : ∃ M, M = emask a2 4 := ⟨_, rfl⟩
          obtain ⟨E, hEe⟩ : ∃ E, E = ebytes a2 4 := ⟨_, rfl⟩
          have HCB := Lib.hid (show cpB a2 k = UInt8.ofNat (128 + M + 16 * emask (szOf k) 3) :: (E ++ ebytes (szOf k) 3) by rw [hMe, hEe]; rfl)
          rw [← hMe] at hM ⊢
          rw [← hEe] at hE HO ⊢
          clear hMe hEe hgi hi
          go_wp2_with fail
          go_loopg [7, 8, 38] 3 (fun gi s7 s8 s38 wx => ∃ (i : Nat) (A : Option Addr) (c : Nat), gi + i = 3 ∧ s38 = .int .i64 (i : Int) ∧ s7 = .int .u8 ((128 + M + 16 * emask (szOf k) i : Nat) : Int) ∧ s8 = .slice A (E ++ ebytes (szOf k) i).length c ∧ Hid (Own wO wx A c (E ++ ebytes (szOf k) i)))
          case atStart => exact ⟨0, A, c, rfl, rfl, by simp [emask], by simp [ebytes], by rw [ebytes, List.append_nil]; exact HO.out⟩
          case round =>
            obtain ⟨i, A, c, hgi, rfl, rfl, rfl, HO⟩ := hrel
            by_cases hi : i < 3
            · have z0 : 0 ≤ 8 * (i : Int) := by omega
              have z1 : 8 * (i : Int) < 64 := by omega
              have z2 : (8 * (i : Int)).toNat = 8 * i := by omega
              obtain ⟨x, hx⟩ : ∃ x : UInt8, x.toNat = k / 2 ^ (8 * i) % 256 := ⟨UInt8.ofNat (k / 2 ^ (8 * i) % 256), by rw [UInt8.toNat_ofNat']; omega⟩
              have hc : K / 2 ^ (8 * i) % 256 = (x.toNat : Int) := by rw [← HK.out, hx]; simp
              have hem := emask_sz k i x.toNat hx
              have heb := ebytes_sz k i x hx
              have hlt := emask_lt (szOf k) i
              have hel := ebytes_len (szOf k) i
              go_upto_region 15 with fail
              go_cut [12] (fun sv wy => sv = .int .u8 (x.toNat : Int) ∧ wr = wy)
              case first =>
                go_wp2_with fail
                go_meet
                exact ⟨by rw [hc], rfl⟩
              obtain ⟨rfl, rfl⟩ := hcut
              clear hc hx z0 z1 z2
              by_cases h0 : k < 65536 ∧ x.toNat ≠ 0
              · rw [if_pos h0] at hem heb
                have h1 : ((x.toNat : Int) == 0) = false := by simpa using h0.2
                have h2 : K < 65536 := by have := HK.out; omega
                have h3 : ((x.toNat : Int) != 0) = true := by simpa using h0.2
                have h4 : ¬ x.toNat = 0 := h0.2
                have hor := Lib.hid (u8_or_high M (emask (szOf k) i) i hM hi hlt)
                have hll : (E ++ ebytes (szOf k) i).length ≤ 7 := by rw [List.length_append]; omega
                clear h0
                obtain ⟨L, hL⟩ : ∃ L, L = E ++ ebytes (szOf k) i := ⟨_, rfl⟩
                have HLe := Lib.hid (show E ++ ebytes (szOf k) (i + 1) = L ++ [x] by rw [heb, hL, List.append_assoc])
                rw [← hL] at HO hll ⊢
                clear hL heb
                go_wp2_with (first
                  | (at_builtin
                     refine wpList_append_any _ rfl (.tmp 56) (.tmp 58) 22 rfl 5 i0 _ 1 1 Try.underlying22 hi0 hz0 hz1 hz2 rfl (by omega) (.slice A L.length c) L.length (bv L) rfl (HO.out.fresh ((Upd.refl wr).alloc _)).own (fun _ => True) (some ⟨wr.heap.size, 0, none⟩) 1 1 (bv [x]) rfl (reads_cells wr [x] #[.int .u8 x.toNat] rfl 1 rfl) (bv_one _) (by unfold maxLen; omega) (by omega) ?_
                     intro A3 d3 w3 hown3 hg3 hat3
                     have HO3 := Lib.hid (HO.out.app ((Upd.refl wr).alloc _) hown3 (by simp) hg3 hat3)
                     clear hown3 hg3 hat3))
                go_roundg (gk - 1)
                case measure => omega
                case rel => exact ⟨i + 1, A3, d3, by omega, by go_num, by rw [hem]; first | (rw [hor.out]) | (have := hor.out; simpa using this), by rw [HLe.out, List.length_append]; rfl, by rw [HLe.out]; exact HO3.out⟩
              · replace hem := hem.trans (show _ = emask (szOf k) i by rw [if_neg h0]; rfl)
                replace heb := heb.trans (show _ = ebytes (szOf k) i by rw [if_neg h0, List.append_nil])
                by_cases hx0 : x.toNat = 0
                · have h1 : ((x.toNat : Int) == 0) = true := by simpa using hx0
                  clear h0
                  go_wp2_with fail
                  go_roundg (gk - 1)
                  case measure => omega
                  case rel => exact ⟨i + 1, A, c, by omega, by go_num, by first | (rw [hem]; done) | (rw [hem]; simp; done), by first | (rw [heb]; done) | (rw [heb]; simp; done), by rw [heb]; exact HO.out⟩
                · have h1 : ((x.toNat : Int) == 0) = false := by simpa using hx0
                  have h2 : ¬ K < 65536 := by have := HK.out; omega
                  clear h0
                  go_wp2_with fail
                  go_roundg (gk - 1)
                  case measure => omega
                  case rel => exact ⟨i + 1, A, c, by omega, by go_num, by first | (rw [hem]; done) | (rw [hem]; simp; done), by first | (rw [heb]; done) | (rw [heb]; simp; done), by rw [heb]; exact HO.out⟩
            · obtain rfl : i = 3 := by omega
              have hm3 := emask_lt (szOf k) 3
              have he3 := ebytes_len (szOf k) 3
              obtain ⟨y, hy⟩ : ∃ y : UInt8, y.toNat = 128 + M + 16 * emask (szOf k) 3 := ⟨UInt8.ofNat (128 + M + 16 * emask (szOf k) 3), by rw [UInt8.toNat_ofNat']; omega⟩
              rw [← hy] at HCB ⊢
              rw [UInt8.ofNat_toNat] at HCB
              have hll : (E ++ ebytes (szOf k) 3).length ≤ 7 := by rw [List.length_append]; omega
              obtain ⟨L, hL⟩ : ∃ L, L = E ++ ebytes (szOf k) 3 := ⟨_, rfl⟩
              rw [← hL] at HCB HO hll ⊢
              clear hL hy hm3 he3 hE hM hgi hi
              have HMf := Lib.hid (HM.out.fresh HO.out.fr)
              have hlen := HR.out.len
              have c0 := HMf.out.blk.cell 0
              have f0 := HMf.out.blk.frozen 0
              simp only [List.getElem?_toArray, List.getElem?_cons_zero, List.getElem?_cons_succ] at c0
              have HR5 := Lib.hid (show CpAt res 1099511627776 (out2 ++ cpB a2 k) (a2 + k) (n2 - k) from
                ⟨by rw [← HR.out.eq, HX.out, List.append_assoc], by have := cpB_len a2 k; rw [List.length_append]; omega, by omega⟩)
              rw [HCB.out] at HR5
              go_wp2_with (first
                | (at_builtin
                   refine wpList_append_any _ rfl (.tmp 65) (.tmp 67) 22 rfl 5 i0 _ 1 1 Try.underlying22 hi0 hz0 hz1 hz2 rfl (by omega) (.slice A2 out2.length c2) out2.length (bv out2) rfl (HMf.out.fresh ((Upd.refl wr).alloc _)).own.own (fun _ => True) (some ⟨wr.heap.size, 0, none⟩) 1 1 (bv [y]) rfl (reads_cells wr [y] #[.int .u8 y.toNat] rfl 1 rfl) (bv_one _) (by unfold maxLen; omega) (by omega) ?_
                   intro A3 d3 w3 hown3 hg3 hat3
                   have HM3 := Lib.hid (HMf.out.app ((Upd.refl wr).alloc _) hown3 (by simp) hg3 hat3)
                   have HL3 := Lib.hid ((HO.out.fresh ((Upd.refl wr).alloc (.cells #[.int .u8 y.toNat] 5))).far (upd_grown hg3) (fun j hj => by
                     rw [ownBlock_map] at hj
                     exact (HM.out.own.own.lt j (by rw [ownBlock_map]; exact hj)).2))
                   clear hown3 hg3 hat3)
                | (at_builtin
                   refine wpList_append_any _ rfl (.tmp 68) (.tmp 69) 22 rfl 5 i0 _ 1 1 Try.underlying22 hi0 hz0 hz1 hz2 rfl (by omega) (.slice A3 (out2.length + 1) d3) (out2.length + 1) (bv (out2 ++ [y])) rfl (by have := HM3.out.own.own; simpa using this) (fun _ => True) A L.length c (bv L) rfl HL3.out (bv_one _) (by unfold maxLen; omega) (by omega) ?_
                   intro A4 d4 w4 hown4 hg4 hat4
                   have HM4 := Lib.hid (HM3.out.app (Upd.refl _) hown4 (by simp; omega) (by simpa using hg4) (by simpa using hat4))
                   have f4 := HM4.out.blk.frozen 0
                   have c4 := HM4.out.blk.cell 0
                   have HM5 := Lib.hid (HM4.out.store (.slice A4 (out2.length + 1 + L.length) d4))
                   simp only [List.getElem?_toArray, List.getElem?_cons_zero, List.getElem?_cons_succ] at c4
                   clear hown4 hg4 hat4))
              go_roundg (n2 - k)
              case measure => omega
              case rel =>
                refine ⟨a2 + k, n2 - k, A4, d4, out2 ++ y :: L, Aw2, cw2, rfl, ?_, ?_, ?_, HR5.out⟩
                · rw [← HK.out]
                  go_num
                · rw [← HK.out]
                  go_num
                · have e : out2 ++ [y] ++ L = out2 ++ y :: L := by simp
                  have := HM5.out
                  rw [e] at this
                  exact this.as_ (by rw [List.length_append, List.length_cons, show out2.length + 1 + L.length = out2.length + (L.length + 1) by omega])
    · obtain rfl : n2 = 0 := by omega
      go_wp2_with fail
      go_end0
      have heq := HR.out.eq
      rw [copyS_zero, List.append_nil] at heq
      subst heq
      exact ⟨rfl, A2, c2, Aw2, cw2, HM.out⟩
end Go.Proofs.Ytiiolpchefldlaa
