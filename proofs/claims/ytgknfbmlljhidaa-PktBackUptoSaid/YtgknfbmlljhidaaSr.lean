import Derived.Test.YtgknfbmlljhidaaSd
namespace Go.Proofs.Ytgknfbmlljhidaa
open Go.RowKit

/-! ### The document's Side -/
structure RSideAt (w0 w : World) (s : UInt8) (m : Nat) (b r : List UInt8) (A : Option Addr) (c : Nat) (ls : List RLn) : Prop where
  own : OwnR w0 w A c ls
  eq : ls ++ sideL s m r.length r = sideL s m b.length b
  len : ls.length + r.length ≤ b.length
theorem str_app (a b : List UInt8) : (⟨a.toArray⟩ : ByteArray) ++ ⟨b.toArray⟩ = ⟨(a ++ b).toArray⟩ := by
  apply ByteArray.ext
  simp
set_option maxHeartbeats 1600000 in
theorem rside_o {b : List UInt8} {w : World} (t x : Int) (hl : b.length ≤ 1048576) (hx1 : -9223372036854775808 ≤ x) (hx2 : x ≤ 9223372036854775807) :
    Calls Try.prog 17 #[.int .i64 t, .string ⟨b.toArray⟩, .int .i64 x] w (ToO (sideS t x b) w) := by
  obtain ⟨i0, hi0, hz0, hz1, hz2⟩ := info_parts Try.info60
  have HW := Lib.hid (sbyte_wrap t)
  unfold sideS
  go_enter Try.func17, Try.ntmps17
  have hms := mostS_le x
  have hmx : (x ≤ 1 ∧ mostS x = 1) ∨ (1 < x ∧ x < 65515 ∧ x = (mostS x : Int)) ∨ (65515 ≤ x ∧ mostS x = 65515) := by
    unfold mostS
    by_cases h1 : x ≤ 1
    · rw [if_pos h1]; omega
    · rw [if_neg h1]
      by_cases h2 : 65515 ≤ x
      · rw [if_pos h2]; omega
      · rw [if_neg h2]; omega
  generalize mostS x = m at hms hmx
  generalize sbyte t = sb at HW
  go_upto_region 1 with fail
  go_cut [2] (fun s2 wx => s2 = .int .i64 (m : Int) ∧ w = wx)
  case first =>
    rcases hmx with ⟨h, e⟩ | ⟨h, h2, e⟩ | ⟨h, e⟩
    · subst e
      rcases (show x < 1 ∨ x = 1 by omega) with h3 | h3
      · go_wp2_with fail
        all_goals (go_meet; exact ⟨by first | rfl | congr 1, rfl⟩)
      · subst h3
        go_wp2_with fail
        all_goals (go_meet; exact ⟨by first | rfl | congr 1, rfl⟩)
    · have h4 : ¬ x < 1 := by omega
      have h5 : ¬ 65515 < x := by omega
      go_wp2_with fail
      all_goals (go_meet; exact ⟨by first | rfl | (congr 1), rfl⟩)
    · subst e
      rcases (show 65515 < x ∨ x = 65515 by omega) with h3 | h3
      · have h4 : ¬ x < 1 := by omega
        go_wp2_with fail
        all_goals (go_meet; exact ⟨by first | rfl | congr 1, rfl⟩)
      · subst h3
        go_wp2_with fail
        all_goals (go_meet; exact ⟨by first | rfl | congr 1, rfl⟩)
  obtain ⟨rfl, rfl⟩ := hcut
  clear hmx hx1 hx2
  go_wp2_with fail
  go_loopg [1, 7, 8] b.length (fun gk s1 s7 s8 wx => ∃ (r : List UInt8) (A1 : Option Addr) (c1 : Nat) (ls : List RLn), gk = r.length ∧ s1 = .string ⟨r.toArray⟩ ∧ s7 = .slice A1 ls.length c1 ∧ Hid (RSideAt w wx sb m b r A1 c1 ls))
  case atStart => exact ⟨b, none, 0, [], rfl, rfl, rfl, OwnR.nil (Upd.refl w), rfl, by simp⟩
  case round =>
    obtain ⟨r, A1, c1, ls, rfl, rfl, rfl, HS⟩ := hrel
    have hlen := HS.out.len
    have hsz : (⟨r.toArray⟩ : ByteArray).size = r.length := by simp [ByteArray.size]
    by_cases hr : r = []
    · subst hr
      have HQ := Lib.hid (show ls = sideL sb m b.length b by have := HS.out.eq; simpa [sideL] using this)
      go_wp2_with fail
      go_ret
      rw [← HQ.out]
      exact ⟨A1, c1, rfl, HS.out.own⟩
    · have hpos : 0 < r.length := List.length_pos_iff.2 hr
      obtain ⟨k, hk⟩ : ∃ k, min m r.length = k := ⟨_, rfl⟩
      have hkb : (k = m ∧ m ≤ r.length) ∨ (k = r.length ∧ r.length < m) := by omega
      have hk1 : 1 ≤ k := by omega
      have hk2 : k ≤ r.length := by omega
      have hkm : k ≤ m := by omega
      go_upto_region 4 with fail
      go_cut [8] (fun s8 wx => s8 = .int .i64 (k : Int) ∧ wr = wx)
      case first =>
        rcases hkb with ⟨e, h⟩ | ⟨e, h⟩
        · subst e
          go_wp2_with fail
          all_goals (go_meet; exact ⟨by first | rfl | (congr 1; omega), rfl⟩)
        · subst e
          go_wp2_with fail
          all_goals (go_meet; exact ⟨by first | rfl | (congr 1; omega), rfl⟩)
      obtain ⟨rfl, rfl⟩ := hcut
      have HTK := Lib.hid (show r.take k = r.take m ∧ r.drop k = r.drop m by
        rcases hkb with ⟨e, _⟩ | ⟨e, h⟩
        · rw [e]; exact ⟨rfl, rfl⟩
        · rw [e, List.take_length, List.drop_length, List.take_of_length_le (by omega), List.drop_of_length_le (by omega)]; exact ⟨rfl, rfl⟩)
      clear hkb hk
      have hs1 := sub_str r 0 k
      rw [List.drop_zero, Nat.sub_zero] at hs1
      have hs2 := sub_str r k r.length
      rw [List.take_of_length_le (by rw [List.length_drop]; exact Nat.le_refl _)] at hs2
      have HEQ := Lib.hid (show (ls ++ [(1, sb :: r.take k)]) ++ sideL sb m (r.drop k).length (r.drop k) = sideL sb m b.length b by
        rw [← HS.out.eq, List.append_assoc, sideS_step hms.1 hr, ← HTK.out.1, ← HTK.out.2]
        rfl)
      have hsa := str_app [sb] (r.take k)
      rw [show [sb] ++ r.take k = sb :: r.take k from rfl] at hsa
      generalize sb :: r.take k = y at hsa HEQ
      have hw3 : IntKind.u8.wrap t = (sb.toNat : Int) := by rw [IntKind.wrap_u8]; exact HW.out
      have cv : (convert 23 9 (.slice (some ⟨wr.heap.size, 0, none⟩) 1 1)).run Try.prog ((wr.alloc (.cells #[.int .u8 sb.toNat] 5)).drew) = .ok (.string ⟨[sb].toArray⟩) ((wr.alloc (.cells #[.int .u8 sb.toNat] 5)).drew) :=
        conv_of (l := [sb]) (c := 1) (Reads.drew (reads_cells wr [sb] _ rfl 1 rfl))
      have hk63 : ¬ 9223372036854775807 < 1 + k := by omega
      have z1 : (0 : Int) ≤ (k : Int) := by omega
      have z2 : (k : Int) ≤ (r.length : Int) := by omega
      go_upto_region 5 with fail
      refine wp_region_any (by kernel_rfl) ?_
      change wpAny _ _ _ _ _ _ _ (World.drew _)
      refine wpAny_take (i := 0) (v := ?_) rfl (by kernel_rfl) (by kernel_rfl) (by kernel_rfl) (fun _ _ _ h => h) (Or.inl ⟨by rfl, ?_⟩) ?_
      case refine_2 => (intro w9; go_simp; try with_reducible rfl)
      try simp only [Act.put, List.setIfInBounds_toArray, List.set_cons_zero, List.set_cons_succ]
      refine wpAny_take (i := 1) (v := ?_) rfl (by kernel_rfl) (by kernel_rfl) (by kernel_rfl) (fun _ _ _ h => h) (Or.inl ⟨by rfl, ?_⟩) ?_
      case refine_2 => (intro w9; go_simp; try with_reducible rfl)
      try simp only [Act.put, List.setIfInBounds_toArray, List.set_cons_zero, List.set_cons_succ]
      refine wpAny_take (i := 2) (v := ?_) rfl (by kernel_rfl) (by kernel_rfl) (by kernel_rfl) (fun _ _ _ h => h) (Or.inl ⟨by rfl, ?_⟩) ?_
      case refine_2 => (intro w9; go_simp; try with_reducible rfl)
      try simp only [Act.put, List.setIfInBounds_toArray, List.set_cons_zero, List.set_cons_succ]
      refine wpAny_take (i := 5) (v := ?_) rfl (by kernel_rfl) (by kernel_rfl) (by kernel_rfl) (fun _ _ _ h => h) (Or.inl ⟨by rfl, ?_⟩) ?_
      case refine_2 => (intro w9; go_simp; try with_reducible rfl)
      try simp only [Act.put, List.setIfInBounds_toArray, List.set_cons_zero, List.set_cons_succ]
      refine wpAny_take (i := 6) (v := ?_) rfl (by kernel_rfl) (by kernel_rfl) (by kernel_rfl) (fun _ _ _ h => h) (Or.inl ⟨by rfl, ?_⟩) ?_
      case refine_2 => (intro w9; go_simp; try with_reducible rfl)
      try simp only [Act.put, List.setIfInBounds_toArray, List.set_cons_zero, List.set_cons_succ]
      refine wpAny_take (i := 7) (v := ?_) rfl (by kernel_rfl) (by kernel_rfl) (by kernel_rfl) (fun _ _ _ h => h) (Or.inl ⟨by rfl, ?_⟩) ?_
      case refine_2 => (intro w9; go_simp; try with_reducible rfl)
      try simp only [Act.put, List.setIfInBounds_toArray, List.set_cons_zero, List.set_cons_succ]
      refine wpAny_ready (rs := [3]) (by kernel_rfl) (by simp) ?_
      refine AllReady.cons rfl (fun K hK => ?_) AllReady.nil
      go_simp
      refine hK _ _ ?_
      clear hK K
      refine wpAny_ready (rs := [4]) (by kernel_rfl) (by simp) ?_
      refine AllReady.cons rfl (fun K hK => ?_) AllReady.nil
      go_simp
      refine hK _ _ ?_
      clear hK K
      have HO2 := Lib.hid (HS.out.own.fresh (((Upd.refl wr).alloc (.cells #[.int .u8 sb.toNat] 5)).drew))
      generalize ((wr.alloc (.cells #[.int .u8 sb.toNat] 5)).drew) = w2 at HO2 ⊢
      clear cv
      refine wpAny_take (i := 8) (v := ?_) rfl (by kernel_rfl) (by kernel_rfl) (by kernel_rfl) (fun _ _ _ h => h) (Or.inl ⟨by rfl, ?_⟩) ?_
      case refine_2 => (intro w9; go_simp; try with_reducible rfl)
      try simp only [Act.put, List.setIfInBounds_toArray, List.set_cons_zero, List.set_cons_succ]
      refine wpAny_take (i := 9) (v := ?_) rfl (by kernel_rfl) (by kernel_rfl) (by kernel_rfl) (fun _ _ _ h => h) (Or.inl ⟨by rfl, ?_⟩) ?_
      case refine_2 => (intro w9; go_simp; try with_reducible rfl)
      try simp only [Act.put, List.setIfInBounds_toArray, List.set_cons_zero, List.set_cons_succ]
      change wpAny _ _ _ _ _ _ _ _
      refine wpAny_ready (rs := [10]) (by kernel_rfl) (by simp) ?_
      refine AllReady.cons rfl (fun K hK => ?_) AllReady.nil
      go_simp
      refine hK _ _ ?_
      clear hK K
      refine wpAny_ready (rs := [11]) (by kernel_rfl) (by simp) ?_
      refine AllReady.cons rfl (fun K hK => ?_) AllReady.nil
      refine step_append_any _ rfl (.tmp 19) (.tmp 29) 36 rfl 60 i0 _ 2 24 Try.underlying36 hi0 hz0 hz1 hz2 rfl (by omega) (.slice A1 ls.length c1) ls.length (rlcells ls) rfl (HO2.out.fresh ((Upd.refl w2).alloc _)).own (fun _ => True) (some ⟨w2.heap.size, 0, none⟩) 1 1 _ rfl (reads_new w2 #[.int .i64 1, .string ⟨y.toArray⟩] 60 2 1 rfl) (by simp [Value.oneCell']) (by unfold maxLen; omega) (by omega) ?_
      intro A3 d3 w3 hown3 hg3 hat3
      have HO3 := Lib.hid (HO2.out.app (x := (1, y)) ((Upd.refl w2).alloc _) hown3 (by simp) hg3 hat3)
      clear hown3 hg3 hat3
      refine hK _ _ ?_
      clear hK K
      refine wpAny_ready (rs := [12]) (by kernel_rfl) (by simp) ?_
      refine AllReady.cons rfl (fun K hK => ?_) AllReady.nil
      go_simp
      refine hK _ _ ?_
      clear hK K
      refine wpAny_done (by kernel_rfl) ?_ _
      have hdl : (r.drop k).length = r.length - k := List.length_drop
      have HDL := Lib.hid hdl
      clear hdl
      go_wp2_with fail
      go_roundg ((r.drop k).length)
      case measure => have := HDL.out; omega
      case rel =>
        refine ⟨r.drop k, A3, d3, ls ++ [(1, y)], rfl, ?_, by simp, HO3.out, HEQ.out, by have := HDL.out; simp; omega⟩
        rw [← hs2]
end Go.Proofs.Ytgknfbmlljhidaa
