import Derived.Test.YtgknfbmlljhidaaRc
namespace Go.Proofs.Ytgknfbmlljhidaa
open Go.RowKit

/-! ### Unside -/
def unL : List (Int × List UInt8) → List UInt8 → List UInt8 → List UInt8 × List UInt8 × Nat
  | [], a, b => (a, b, 0)
  | (_, []) :: _, _, _ => ([], [], 3)
  | (k, x :: t) :: r, a, b => if k ≠ 1 then ([], [], 3) else if x = 1 then unL r (a ++ t) b else if x = 2 then unL r a (b ++ t) else if x = 3 then ([], t, 80) else ([], [], 3)
/-- Two rows of bytes of the call's own, apart. -/
structure Two (w0 w : World) (A1 : Option Addr) (c1 : Nat) (a : List UInt8) (A2 : Option Addr) (c2 : Nat) (b : List UInt8) : Prop where
  one : Own w0 w A1 c1 a
  two : Own w0 w A2 c2 b
  dis : ∀ k, A1.map (·.block) = some k → A2.map (·.block) ≠ some k
theorem Two.fresh {w0 w w' : World} {A1 A2 : Option Addr} {c1 c2 : Nat} {a b : List UInt8} (h : Two w0 w A1 c1 a A2 c2 b) (hu : Fresh w w') : Two w0 w' A1 c1 a A2 c2 b := ⟨h.one.fresh hu, h.two.fresh hu, h.dis⟩
theorem Two.swap {w0 w : World} {A1 A2 : Option Addr} {c1 c2 : Nat} {a b : List UInt8} (h : Two w0 w A1 c1 a A2 c2 b) : Two w0 w A2 c2 b A1 c1 a := ⟨h.two, h.one, fun k h1 h2 => h.dis k h2 h1⟩
theorem Two.app {w0 w w2 : World} {A1 A2 A3 : Option Addr} {c1 c2 c3 n : Nat} {a b d : List UInt8} (h : Two w0 w A1 c1 a A2 c2 b) (ho : w2.ownsRow 0 5 1 (.slice A3 n c3) n (bv a ++ bv d)) (hn : n = (a ++ d).length) (hg : w.grownBy w2 (Value.slice A1 a.length c1).ownBlock)
    (hat : (Value.slice A3 n c3).ownBlock = (Value.slice A1 a.length c1).ownBlock ∨ (Value.slice A3 n c3).ownBlock = some w.heap.size) : Two w0 w2 A3 c3 (a ++ d) A2 c2 b := by
  have h1 := h.one.app (Upd.refl w) ho hn hg hat
  refine ⟨h1, ⟨owns_upd h.two.own (upd_grown hg) (fun k hk e => ?_), h.two.ab, h1.fr⟩, ?_⟩
  · rw [ownBlock_map] at hk e
    exact h.dis k e hk
  · intro k hk h2
    rw [ownBlock_map, ownBlock_map, hk] at hat
    rcases hat with e | e
    · exact h.dis k e.symm h2
    · injection e with e
      have := owns_lt h.two.own (k := k) (by rw [ownBlock_map]; exact h2)
      omega
structure UnAt (w0 w : World) (ls : List (Int × List UInt8)) (k : Nat) (A1 : Option Addr) (c1 : Nat) (a : List UInt8) (A2 : Option Addr) (c2 : Nat) (b : List UInt8) : Prop where
  two : Two w0 w A1 c1 a A2 c2 b
  eq : unL (ls.drop k) a b = unL ls [] []
  len : a.length + b.length + tot (ls.drop k) ≤ 2199023255552
def UnO (r : List UInt8 × List UInt8 × Nat) (w : World) (e : Ending) (w' : World) : Prop := ∃ A1 A2, e = .returned (.tuple #[.slice A1 r.1.length r.1.length, .slice A2 r.2.1.length r.2.1.length, .int .i64 (r.2.2 : Int)]) ∧ Arr w' 5 A1 r.1.length (bv r.1) ∧ Arr w' 5 A2 r.2.1.length (bv r.2.1) ∧ Fresh w w'
set_option maxHeartbeats 1600000 in
theorem unside_o {A : Option Addr} {cp : Nat} {ls : List Ln} {w : World} (h : LsR w A ls) (hn : ls.length ≤ 2199023255552) (ht : tot (ls.map Ln.p) ≤ 2199023255552) :
    Calls Try.prog 14 #[.slice A ls.length cp] w (UnO (unL (ls.map Ln.p) [] []) w) := by
  obtain ⟨i5, hi5, hy0, hy1, hy2⟩ := info_parts Try.info5
  have H := Lib.hid h
  have HT := Lib.hid ht
  clear h ht
  go_enter Try.func14, Try.ntmps14
  go_wp2_with fail
  go_loopg [2, 3, 6, 9] ls.length (fun gk s2 s3 s6 s9 wx => ∃ (k : Nat) (A1 : Option Addr) (c1 : Nat) (a : List UInt8) (A2 : Option Addr) (c2 : Nat) (b : List UInt8), gk + k = ls.length ∧ s9 = .int .i64 (k : Int) ∧ s2 = .slice A1 a.length c1 ∧ s3 = .slice A2 b.length c2 ∧ Hid (UnAt w wx (ls.map Ln.p) k A1 c1 a A2 c2 b))
  case atStart => exact ⟨0, none, 0, [], none, 0, [], rfl, rfl, rfl, rfl, ⟨Own.nil (Upd.refl w), Own.nil (Upd.refl w), fun _ h => by simp at h⟩, rfl, by simpa using HT.out⟩
  case round =>
    obtain ⟨k, A1, c1, a, A2, c2, b, hgk, rfl, rfl, rfl, HU⟩ := hrel
    by_cases hk : k < ls.length
    · obtain ⟨ad, hA, e0, e1⟩ := (H.out.fresh HU.out.two.one.fr).at_ hk
      subst hA
      have HD := Lib.hid (H.out.dat _ (List.getElem_mem hk))
      have HQ := Lib.hid HU.out.eq
      have HN := Lib.hid HU.out.len
      rw [List.drop_eq_getElem_cons (by simpa using hk), List.getElem_map] at HQ HN
      generalize ls[k] = x at e0 e1 HD HQ HN
      obtain ⟨xk, xd, xB, xc⟩ := x
      dsimp only [Ln.p] at e0 e1 HD HQ HN
      have hk1 : (k : Int) < (ls.length : Int) := by omega
      go_upto_region 4 with fail
      have HB := Lib.hid (Blk.new wr 28 #[.int .i64 xk, .slice xB xd.length xc])
      have HF := Lib.hid (show Fresh wr (wr.alloc (.cells #[.int .i64 xk, .slice xB xd.length xc] 28)) from (Upd.refl wr).alloc _)
      generalize wr.alloc (.cells #[.int .i64 xk, .slice xB xd.length xc] 28) = w2 at HB HF ⊢
      generalize wr.heap.size = go at HB ⊢
      have H2 := Lib.hid (HU.out.two.fresh HF.out)
      have F2 := Lib.hid H2.out.one.fr
      have o0 := HB.out.cell 0
      have o1 := HB.out.cell 1
      simp only [List.getElem?_toArray, List.getElem?_cons_zero, List.getElem?_cons_succ] at o0 o1
      clear e0 e1 HU HF
      rcases xd with _ | ⟨x0, t⟩
      · have HR := Lib.hid (show unL (ls.map Ln.p) [] [] = ([], [], 3) by rw [← HQ.out, unL])
        by_cases hk1 : xk = 1
        · subst hk1
          go_wp2_with fail
          go_ret3
          rw [HR.out]
          exact ⟨none, none, rfl, Arr.nil rfl, Arr.nil rfl, F2.out⟩
        · go_wp2_with fail
          go_ret3
          rw [HR.out]
          exact ⟨none, none, rfl, Arr.nil rfl, Arr.nil rfl, F2.out⟩
      · by_cases hk1 : xk = 1
        · subst hk1
          have hrd := (HD.out.fresh F2.out).1
          have hxc : t.length + 1 ≤ xc := HD.out.2.2.1
          have hxm : xc ≤ 9223372036854775807 := HD.out.2.2.2
          obtain ⟨a3, hA3, -⟩ := hrd.2 (by simp)
          dsimp only at hA3 hrd
          subst hA3
          have hb0 := bytes_at hrd (k := 0) (by simp)
          rw [show a3.add 0 = a3 from rfl, List.getElem_cons_zero] at hb0
          have hs1 := sub_bytes hrd 1 t.length (by simp; omega)
          rw [List.drop_succ_cons, List.drop_zero, List.take_length] at hs1
          rw [show a3.add 1 = ⟨a3.block, a3.off + 1, none⟩ by simp [Addr.add]] at hs1
          have HRA := Lib.hid hs1
          have HRB := Lib.hid (show t.length + 1 = 1 → Reads w2 (fun _ => True) 1 (some a3) t.length (bv t) from fun e => by
            obtain rfl : t = [] := List.eq_nil_of_length_eq_zero (by omega)
            exact ⟨rfl, fun h => absurd h (by simp)⟩)
          have hlt : a.length + b.length + t.length ≤ 2199023255552 := by have := HN.out; simp [tot] at this; omega
          have HRI := Lib.hid (show Reads w2 (fun _ => True) 1 (if xc = 1 then some a3 else some ⟨a3.block, a3.off + 1, none⟩) t.length (bv t) by
            by_cases h1 : xc = 1
            · rw [if_pos h1]; exact HRB.out (by omega)
            · rw [if_neg h1]; exact HRA.out)
          have HNI := Lib.hid (show (if xc = 1 then some a3 else some (⟨a3.block, a3.off + 1, none⟩ : Addr)) = none → xc - 1 = 0 by
            by_cases h1 : xc = 1
            · rw [if_pos h1]; intro h; cases h
            · rw [if_neg h1]; intro h; cases h)
          clear hrd hs1 HRA HRB
          rcases (show x0.toNat = 1 ∨ x0.toNat = 2 ∨ x0.toNat = 3 ∨ (x0.toNat ≠ 1 ∧ x0.toNat ≠ 2 ∧ x0.toNat ≠ 3) by omega) with hv | hv | hv | hv
          · have hx : x0 = 1 := UInt8.toNat_inj.1 hv
            have HX := Lib.hid (show unL ((ls.map Ln.p).drop (k + 1)) (a ++ t) b = unL (ls.map Ln.p) [] [] by
              rw [← HQ.out]
              conv => rhs; rw [unL, if_neg (by simp)]
              rw [if_pos hx])
            have hb1 : w2.cell? a3 = some (.int .u8 1) := by rw [hb0, hv]; rfl
            clear hb0
            go_wp2_with (first
              | (at_builtin
                 refine wpList_append_any _ rfl (.tmp 28) (.tmp 31) 23 rfl 5 i5 _ 1 1 Try.underlying23 hi5 hy0 hy1 hy2 rfl (by omega) (.slice A1 a.length c1) a.length (bv a) rfl H2.out.one.own (fun _ => True) _ t.length _ (bv t) rfl HRI.out (bv_one _) (by unfold maxLen; omega) (by omega) ?_
                 intro A5 d5 w5 hown5 hg5 hat5
                 have HT5 := Lib.hid (H2.out.app hown5 (by rw [List.length_append]) hg5 hat5)
                 clear hown5 hg5 hat5))
            all_goals
              go_roundg (gk - 1)
              case measure => omega
              case rel =>
                refine ⟨k + 1, A5, d5, a ++ t, A2, c2, b, by omega, by go_num, by simp, by simp, HT5.out, HX.out, ?_⟩
                have := HN.out
                rw [tot_cons] at this
                simp at this ⊢
                omega
          · have hx : x0 = 2 := UInt8.toNat_inj.1 hv
            have HX := Lib.hid (show unL ((ls.map Ln.p).drop (k + 1)) a (b ++ t) = unL (ls.map Ln.p) [] [] by
              rw [← HQ.out]
              conv => rhs; rw [unL, if_neg (by simp)]
              rw [if_neg (by rw [hx]; decide), if_pos hx])
            have hb1 : w2.cell? a3 = some (.int .u8 2) := by rw [hb0, hv]; rfl
            clear hb0
            go_wp2_with (first
              | (at_builtin
                 refine wpList_append_any _ rfl (.tmp 35) (.tmp 38) 23 rfl 5 i5 _ 1 1 Try.underlying23 hi5 hy0 hy1 hy2 rfl (by omega) (.slice A2 b.length c2) b.length (bv b) rfl H2.out.two.own (fun _ => True) _ t.length _ (bv t) rfl HRI.out (bv_one _) (by unfold maxLen; omega) (by omega) ?_
                 intro A5 d5 w5 hown5 hg5 hat5
                 have HT5 := Lib.hid (H2.out.swap.app hown5 (by rw [List.length_append]) hg5 hat5)
                 clear hown5 hg5 hat5))
            all_goals
              go_roundg (gk - 1)
              case measure => omega
              case rel =>
                refine ⟨k + 1, A1, c1, a, A5, d5, b ++ t, by omega, by go_num, by simp, by simp, HT5.out.swap, HX.out, ?_⟩
                have := HN.out
                rw [tot_cons] at this
                simp at this ⊢
                omega
          · have hx : x0 = 3 := UInt8.toNat_inj.1 hv
            have HX := Lib.hid (show unL (ls.map Ln.p) [] [] = ([], t, 80) by
              rw [← HQ.out, unL, if_neg (by simp), if_neg (by rw [hx]; decide), if_neg (by rw [hx]; decide), if_pos hx])
            have hb1 : w2.cell? a3 = some (.int .u8 3) := by rw [hb0, hv]; rfl
            clear hb0
            go_wp2_with (first
              | (go_at_call 20
                 refine (clone_o (b := t) HRI.out (by omega) HNI.out).mono ?_
                 rintro e w5 ⟨B5, d5, rfl, hd1, hd2, -, ha5, -, hf5⟩
                 have HA5 := Lib.hid ha5
                 have HF5 := Lib.hid hf5
                 clear ha5 hf5)
              | (go_at_call 18
                 refine (clip_o B5 t.length d5 _ hd1 hd2).mono ?_
                 rintro e w6 ⟨rfl, rfl⟩))
            all_goals
              go_ret3
              rw [HX.out]
              exact ⟨none, B5, rfl, Arr.nil rfl, HA5.out, F2.out.trans HF5.out (fun _ _ h => h)⟩
          · obtain ⟨v1, v2, v3⟩ := hv
            have HX := Lib.hid (show unL (ls.map Ln.p) [] [] = ([], [], 3) by
              rw [← HQ.out, unL, if_neg (by simp), if_neg (fun e => v1 (by rw [e]; rfl)), if_neg (fun e => v2 (by rw [e]; rfl)), if_neg (fun e => v3 (by rw [e]; rfl))])
            have b1 : ((x0.toNat : Int) == 1) = false := by simpa using fun e => v1 (by omega)
            have b2 : ((x0.toNat : Int) == 2) = false := by simpa using fun e => v2 (by omega)
            have b3 : ((x0.toNat : Int) == 3) = false := by simpa using fun e => v3 (by omega)
            go_wp2_with fail
            go_ret3
            rw [HX.out]
            exact ⟨none, none, rfl, Arr.nil rfl, Arr.nil rfl, F2.out⟩
        · have HR := Lib.hid (show unL (ls.map Ln.p) [] [] = ([], [], 3) by rw [← HQ.out, unL, if_pos hk1])
          go_wp2_with fail
          go_ret3
          rw [HR.out]
          exact ⟨none, none, rfl, Arr.nil rfl, Arr.nil rfl, F2.out⟩
    · have HQ := Lib.hid (show unL (ls.map Ln.p) [] [] = (a, b, 0) by rw [← HU.out.eq, List.drop_of_length_le (by simp; omega)]; rfl)
      have hcp1 := owns_cap HU.out.two.one.own
      have hcp2 := owns_cap HU.out.two.two.own
      unfold maxLen at hcp1 hcp2
      go_wp2_with fail
      refine (clip_o A1 a.length c1 _ hcp1.1 (by omega)).mono ?_
      rintro e w1 ⟨rfl, rfl⟩
      go_wp2_with fail
      refine (clip_o A2 b.length c2 _ hcp2.1 (by omega)).mono ?_
      rintro e w1 ⟨rfl, rfl⟩
      go_wp2_with fail
      go_ret3
      rw [HQ.out]
      exact ⟨A1, A2, rfl, Arr.of_own HU.out.two.one.own, Arr.of_own HU.out.two.two.own, HU.out.two.one.fr⟩
end Go.Proofs.Ytgknfbmlljhidaa
