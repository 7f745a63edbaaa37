import Derived.Test.YtgknfbmlljhidaaRc
namespace Go.Proofs.Ytgknfbmlljhidaa
open Go.RowKit

/-! ### Side -/
def mostS (x : Int) : Nat := if x ≤ 1 then 1 else if 65515 ≤ x then 65515 else x.toNat
theorem mostS_le (x : Int) : 1 ≤ mostS x ∧ mostS x ≤ 65515 := by
  unfold mostS
  split
  · omega
  · split <;> omega
def sbyte (t : Int) : UInt8 := UInt8.ofNat (t % 256).toNat
theorem sbyte_wrap (t : Int) : t % 256 = ((sbyte t).toNat : Int) := by
  rw [sbyte, UInt8.toNat_ofNat']
  omega
/-- The lines of one side, m bytes at the most a line. -/
def sideL (s : UInt8) (m : Nat) : Nat → List UInt8 → List (Int × List UInt8)
  | 0, _ => []
  | f + 1, b => if b = [] then [] else (1, s :: b.take m) :: sideL s m f (b.drop m)
theorem sideL_step {s : UInt8} {m f : Nat} {b : List UInt8} (hm : 1 ≤ m) (hb : b ≠ []) (hf : b.length ≤ f + 1) : sideL s m (f + 1) b = (1, s :: b.take m) :: sideL s m f (b.drop m) := by rw [sideL, if_neg hb]
theorem sideL_fuel {s : UInt8} {m : Nat} (hm : 1 ≤ m) : ∀ (f g : Nat) (b : List UInt8), b.length ≤ f → b.length ≤ g → sideL s m f b = sideL s m g b
  | 0, g, b, hf, hg => by
    obtain rfl : b = [] := List.eq_nil_of_length_eq_zero (by omega)
    cases g <;> simp [sideL]
  | f + 1, 0, b, hf, hg => by
    obtain rfl : b = [] := List.eq_nil_of_length_eq_zero (by omega)
    simp [sideL]
  | f + 1, g + 1, b, hf, hg => by
    rw [sideL, sideL]
    by_cases hb : b = []
    · rw [if_pos hb, if_pos hb]
    · rw [if_neg hb, if_neg hb, sideL_fuel hm f g (b.drop m) (by rw [List.length_drop]; omega) (by rw [List.length_drop]; omega)]
def sideS (t : Int) (most : Int) (b : List UInt8) : List (Int × List UInt8) := sideL (sbyte t) (mostS most) b.length b
theorem sideS_step {s : UInt8} {m : Nat} {r : List UInt8} (hm : 1 ≤ m) (hr : r ≠ []) : sideL s m r.length r = (1, s :: r.take m) :: sideL s m (r.drop m).length (r.drop m) := by
  obtain ⟨f, hf⟩ : ∃ f, r.length = f + 1 := ⟨r.length - 1, by have := List.length_pos_iff.2 hr; omega⟩
  rw [hf, sideL, if_neg hr, sideL_fuel hm f (r.drop m).length _ (by rw [List.length_drop]; omega) (Nat.le_refl _)]
theorem sideL_len {s : UInt8} {m : Nat} : ∀ (f : Nat) (b : List UInt8), (sideL s m f b).length ≤ f
  | 0, b => by simp [sideL]
  | f + 1, b => by
    rw [sideL]
    split
    · simp
    · have := sideL_len (s := s) (m := m) f (b.drop m)
      simp only [List.length_cons]
      omega

structure SideAt (w0 w : World) (s : UInt8) (m : Nat) (b r : List UInt8) (A : Option Addr) (c : Nat) (ls : List Ln) : Prop where
  own : OwnL w0 w A c ls
  eq : ls.map Ln.p ++ sideL s m r.length r = sideL s m b.length b
  len : ls.length + r.length ≤ b.length
def SideO (l : List (Int × List UInt8)) (w : World) (e : Ending) (w' : World) : Prop := ∃ A c ls, e = .returned (.slice A ls.length ls.length) ∧ OwnL w w' A c ls ∧ ls.map Ln.p = l
theorem sub_reads {w : World} {S : Nat → Prop} {ad : Addr} {b : List UInt8} (h : Reads w S 1 (some ad) b.length (bv b)) (p n : Nat) (hp : p + n ≤ b.length) : Reads w S 1 (some (ad.add p)) ((b.drop p).take n).length (bv ((b.drop p).take n)) := sub_bytes h p n hp
set_option maxHeartbeats 1600000 in
theorem side_o {B : Option Addr} {cb : Nat} {b : List UInt8} {w : World} (t x : Int) (h : Reads w (fun _ => True) 1 B b.length (bv b)) (hl : b.length ≤ 1048576) (hc : b.length ≤ cb) (hm : cb ≤ 9223372036854775807) (hx1 : -9223372036854775808 ≤ x) (hx2 : x ≤ 9223372036854775807) :
    Calls Try.prog 16 #[.int .i64 t, .slice B b.length cb, .int .i64 x] w (SideO (sideS t x b) w) := by
  obtain ⟨i0, hi0, hz0, hz1, hz2⟩ := info_parts Try.info28
  obtain ⟨i5, hi5, hy0, hy1, hy2⟩ := info_parts Try.info5
  have H := Lib.hid h
  have HW := Lib.hid (sbyte_wrap t)
  clear h
  unfold sideS
  go_enter Try.func16, Try.ntmps16
  have hms := mostS_le x
  have hmx : (x ≤ 1 ∧ mostS x = 1) ∨ (1 < x ∧ x < 65515 ∧ x = (mostS x : Int)) ∨ (65515 ≤ x ∧ mostS x = 65515) := by
    unfold mostS
    by_cases h1 : x ≤ 1
    · rw [if_pos h1]; omega
    · rw [if_neg h1]
      by_cases h2 : 65515 ≤ x
      · rw [if_pos h2]; omega
      · rw [if_neg h2]; omega
  generalize mostS x = m at hms hmx
  generalize sbyte t = sb at HW
  go_upto_region 2 with fail
  go_cut [2] (fun s2 wx => s2 = .int .i64 (m : Int) ∧ w = wx)
  case first =>
    rcases hmx with ⟨h, e⟩ | ⟨h, h2, e⟩ | ⟨h, e⟩
    · subst e
      rcases (show x < 1 ∨ x = 1 by omega) with h3 | h3
      · go_wp2_with fail
        all_goals (go_meet; exact ⟨by first | rfl | congr 1, rfl⟩)
      · subst h3
        go_wp2_with fail
        all_goals (go_meet; exact ⟨by first | rfl | congr 1, rfl⟩)
    · have h4 : ¬ x < 1 := by omega
      have h5 : ¬ 65515 < x := by omega
      go_wp2_with fail
      all_goals (go_meet; exact ⟨by first | rfl | (congr 1), rfl⟩)
    · subst e
      rcases (show 65515 < x ∨ x = 65515 by omega) with h3 | h3
      · have h4 : ¬ x < 1 := by omega
        go_wp2_with fail
        all_goals (go_meet; exact ⟨by first | rfl | congr 1, rfl⟩)
      · subst h3
        go_wp2_with fail
        all_goals (go_meet; exact ⟨by first | rfl | congr 1, rfl⟩)
  obtain ⟨rfl, rfl⟩ := hcut
  clear hmx hx1 hx2
  go_wp2_with fail
  go_loopg [1, 7, 8] b.length (fun gk s1 s7 s8 wx => ∃ (r : List UInt8) (Ax : Option Addr) (cx : Nat) (A1 : Option Addr) (c1 : Nat) (ls : List Ln), gk = r.length ∧ s1 = .slice Ax r.length cx ∧ s7 = .slice A1 ls.length c1 ∧ r.length ≤ cx ∧ cx ≤ 9223372036854775807 ∧ Hid (Reads w (fun _ => True) 1 Ax r.length (bv r) ∧ SideAt w wx sb m b r A1 c1 ls))
  case atStart => exact ⟨b, B, cb, none, 0, [], rfl, rfl, rfl, hc, hm, H.out, OwnL.nil (Upd.refl w), rfl, by simp⟩
  case round =>
    obtain ⟨r, Ax, cx, A1, c1, ls, rfl, rfl, rfl, hrc, hcx, HS⟩ := hrel
    have hlen := HS.out.2.len
    have hcap := owns_cap HS.out.2.own.own
    unfold maxLen at hcap
    obtain ⟨hc1, _, hc2⟩ := hcap
    by_cases hr : r = []
    · subst hr
      have HQ := Lib.hid HS.out.2
      go_wp2_with fail
      refine (clipl_o A1 ls.length c1 _ hc1 (by omega)).mono ?_
      rintro e w1 ⟨rfl, rfl⟩
      go_wp2_with fail
      go_ret
      exact ⟨A1, c1, ls, rfl, HQ.out.own, by have := HQ.out.eq; simpa [sideL] using this⟩
    · have hpos : 0 < r.length := List.length_pos_iff.2 hr
      obtain ⟨ad, hA, -⟩ := HS.out.1.2 hpos
      subst hA
      obtain ⟨k, hk⟩ : ∃ k, min m r.length = k := ⟨_, rfl⟩
      have hkb : (k = m ∧ m ≤ r.length) ∨ (k = r.length ∧ r.length < m) := by omega
      have hk1 : 1 ≤ k := by omega
      have hk2 : k ≤ r.length := by omega
      have hkm : k ≤ m := by omega
      go_upto_region 4 with fail
      go_cut [8] (fun s8 wx => s8 = .int .i64 (k : Int) ∧ wr = wx)
      case first =>
        rcases hkb with ⟨e, h⟩ | ⟨e, h⟩
        · subst e
          go_wp2_with fail
          all_goals (go_meet; exact ⟨by first | rfl | (congr 1; omega), rfl⟩)
        · subst e
          go_wp2_with fail
          all_goals (go_meet; exact ⟨by first | rfl | (congr 1; omega), rfl⟩)
      obtain ⟨rfl, rfl⟩ := hcut
      have HTK := Lib.hid (show r.take k = r.take m ∧ r.drop k = r.drop m by
        rcases hkb with ⟨e, _⟩ | ⟨e, h⟩
        · rw [e]; exact ⟨rfl, rfl⟩
        · rw [e, List.take_length, List.drop_length, List.take_of_length_le (by omega), List.drop_of_length_le (by omega)]; exact ⟨rfl, rfl⟩)
      clear hkb hk
      have HRD := Lib.hid (show Reads wr (fun _ => True) 1 (some ad) k (bv (r.take k)) from by
        have := sub_bytes (HS.out.1.upd HS.out.2.own.fr (fun _ _ h => h)) 0 k (by omega)
        rw [List.drop_zero, List.length_take, Nat.min_eq_left hk2] at this
        exact this)
      have HRA := Lib.hid (show Reads w (fun _ => True) 1 (some (ad.add k)) (r.drop k).length (bv (r.drop k)) from by
        have := sub_bytes HS.out.1 k (r.length - k) (by omega)
        rw [List.take_of_length_le (by rw [List.length_drop]; exact Nat.le_refl _)] at this
        exact this)
      have HRB := Lib.hid (show r.length = k → Reads w (fun _ => True) 1 (some ad) (r.drop k).length (bv (r.drop k)) from fun e => by
        rw [← e, List.drop_length]; exact ⟨rfl, fun h => absurd h (by simp)⟩)
      have HSS := Lib.hid (fun (w5 : World) (A5 A3 : Option Addr) (d5 : Nat) (y : List UInt8) (hy : sb :: r.take k = y) (ho : OwnL w w5 A5 d5 (ls ++ [⟨1, y, A3, y.length⟩])) => (show SideAt w w5 sb m b (r.drop k) A5 d5 (ls ++ [⟨1, y, A3, y.length⟩]) from by
        refine ⟨ho, ?_, by simp; omega⟩
        rw [← HS.out.2.eq, List.map_append, List.append_assoc, sideS_step hms.1 hr, ← HTK.out.1, ← HTK.out.2, hy]
        rfl))
      have hdl : (r.drop k).length = r.length - k := List.length_drop
      have HDL := Lib.hid hdl
      clear hdl
      have hw2 := HW.out
      go_upto_region 5 with fail
      go_wp2_with (first
        | (at_builtin
           refine wpList_append_any _ rfl (.tmp 22) (.tmp 25) 23 rfl 5 i5 _ 1 1 Try.underlying23 hi5 hy0 hy1 hy2 rfl (by omega) (.slice (some ⟨wr.heap.size, 0, none⟩) 1 1) 1 (bv [sb]) rfl (World.ownsRow_lit wr #[.int .u8 sb.toNat] 1 (Nat.zero_le _) (by unfold maxLen; omega) rfl) (fun _ => True) (some ad) k cx (bv (r.take k)) rfl (HRD.out.alloc _) (bv_one _) (by unfold maxLen; omega) (by omega) ?_
           intro A3 d3 w3 hown3 hg3 hat3
           have HF3 := Lib.hid (show Fresh wr w3 from ((Upd.refl wr).alloc _).grown hg3 (fun i hi hlt => by simp [Value.ownBlock] at hi; omega))
           have hcp := owns_cap hown3
           unfold maxLen at hcp
           have HNN := Lib.hid (owns_none hown3)
           obtain ⟨y, hy⟩ : ∃ y, sb :: r.take k = y := ⟨_, rfl⟩
           have HY := Lib.hid hy
           have hyl : 1 + k = y.length := by rw [← hy]; simp; omega
           have hown4 : w3.ownsRow 0 5 1 (.slice A3 y.length d3) y.length (bv y) := by rw [← hyl, ← hy]; exact hown3
           have HO3 := Lib.hid hown4
           have HL3 := Lib.hid (HS.out.2.own.fresh HF3.out)
           have hyk : y.length ≤ 65516 := by omega
           rw [hyl] at hcp ⊢
           have HYL := Lib.hid hyl
           clear hown3 hg3 hat3 hown4 hy hyl)
        | (go_at_call 18
           refine (clip_o A3 y.length d3 _ hcp.1 (by omega)).mono ?_
           rintro e w4 ⟨rfl, rfl⟩)
        | (at_builtin
           refine wpList_append_any _ rfl (.tmp 19) (.tmp 29) 29 rfl 28 i0 _ 2 32 Try.underlying29 hi0 hz0 hz1 hz2 rfl (by omega) (.slice A1 ls.length c1) ls.length (lcells ls) rfl (HL3.out.fresh ((Upd.refl w3).alloc _)).own (fun _ => True) (some ⟨w3.heap.size, 0, none⟩) 1 1 _ rfl (reads_new w3 #[.int .i64 1, .slice A3 y.length y.length] 28 2 1 rfl) (by simp [Value.oneCell']) (by unfold maxLen; omega) (by omega) ?_
           intro A5 d5 w5 hown5 hg5 hat5
           have HO5 := Lib.hid (HL3.out.app (x := ⟨1, y, A3, y.length⟩) ((Upd.refl w3).alloc _) ⟨(Arr.of_own HO3.out).upd ((Upd.refl w3).alloc (F := fun _ => False) _) (fun _ _ h => h), rfl, fun h => by have := HNN.out h; dsimp only; omega, by dsimp only; omega⟩ hown5 (by simp) hg5 hat5)
           clear hown5 hg5 hat5))
      all_goals
        go_roundg ((r.drop k).length)
        case measure => have := HDL.out; omega
        case rel =>
          refine ⟨r.drop k, _, _, A5, d5, ls ++ [⟨1, y, A3, y.length⟩], rfl, congrArg (fun n => Value.slice _ n _) HDL.out.symm, by simp, ?_, ?_, ?_, HSS.out _ _ _ _ _ HY.out HO5.out⟩
          · have := HDL.out; omega
          · omega
          · first
              | exact HRA.out
              | exact HRB.out (by omega)
end Go.Proofs.Ytgknfbmlljhidaa
