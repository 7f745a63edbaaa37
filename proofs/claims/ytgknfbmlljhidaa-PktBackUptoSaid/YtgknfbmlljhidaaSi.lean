import Derived.Test.YtgknfbmlljhidaaUr
namespace Go.Proofs.Ytgknfbmlljhidaa
open Go.RowKit

theorem sideS_len (t x : Int) (b : List UInt8) : (sideS t x b).length ≤ b.length := sideL_len _ _
theorem arr_conv2 {w : World} {A : Option Addr} {c : Nat} {l : List UInt8} (h : Arr w 5 A l.length (bv l)) : (convert 23 9 (.slice A l.length c)).run Try.prog w = .ok (.string ⟨l.toArray⟩) w :=
  conv_of ((h.reads).weak (fun _ _ => trivial))

set_option maxHeartbeats 2000000 in
set_option maxRecDepth 100000 in
theorem sides_any {A B : Option Addr} {ca cb : Nat} {ls : List Ln} {b : List UInt8} {w : World} (t x : Int) (h1 : LsR w A ls) (h2 : Reads w (fun _ => True) 1 B b.length (bv b)) (hn : ls.length ≤ 1048576) (ht : tot (ls.map Ln.p) ≤ 2199023255552) (hb : b.length ≤ 1048576) (hc : b.length ≤ cb) (hm : cb ≤ 9223372036854775807) (hx1 : -9223372036854775808 ≤ x) (hx2 : x ≤ 9223372036854775807) :
    Calls Try.prog 5 #[.int .i64 t, .slice B b.length cb, .int .i64 x, .slice A ls.length ca] w (BoolO true w) := by
  by_cases h5 : 5000 < b.length
  · go_enter Try.func5, Try.ntmps5
    go_wp2_with fail
    refine (awake_any _).mono ?_
    rintro e w4 ⟨rfl, h4⟩
    go_wp2_with fail
    go_ret
    exact ⟨rfl, h4⟩
  · have H2 := Lib.hid h2
    have HUn := Lib.hid (unside_o (cp := ca) h1 (by omega) ht)
    have HTo := Lib.hid (fun (w1 : World) (hf : Fresh w w1) => to_o (cp := ca) (h1.fresh hf) (by omega))
    have HRU := Lib.hid (fun (A1 : Option Addr) (c1 : Nat) (w1 : World) (hr : RLs w1 A1 (ls.map Ln.p)) => runside_o (cp := c1) hr (by rw [List.length_map]; omega) ht)
    have HSd := Lib.hid (fun (w1 : World) (hf : Fresh w w1) => side_o t x (h2.upd hf (fun _ _ h => h)) hb hc hm hx1 hx2)
    have HRS := Lib.hid (fun (w1 : World) => rside_o (w := w1) t x hb hx1 hx2)
    have hsl := sideS_len t x b
    clear h1 h2 ht
    generalize ls.map Ln.p = L at HUn HTo HRU
    generalize unL L [] [] = r at HUn HRU
    generalize sideS t x b = sl at HSd HRS hsl
    obtain ⟨u1, u2, u3⟩ := r
    go_enter Try.func5, Try.ntmps5
    go_upto_region 3 with fail
    go_wp2_with fail
    refine HUn.out.mono ?_
    rintro e w1 ⟨A1, A2, rfl, R1, R2, F1⟩
    dsimp only at R1 R2
    have R1 := Lib.hid R1
    have R2 := Lib.hid R2
    have F1 := Lib.hid F1
    go_upto_region 4 with fail
    go_wp2_with fail
    refine (HTo.out _ F1.out).mono ?_
    rintro e w2 ⟨A3, c3, rfl, O3⟩
    have O3 := Lib.hid O3
    go_wp2_with fail
    refine (HRU.out _ _ _ O3.out.rls).mono ?_
    rintro e w3 ⟨rfl, F3⟩
    have F3 := Lib.hid F3
    have F13 := Lib.hid (show ∀ w9, Fresh w3 w9 → Fresh w1 w9 from fun w9 h9 => (O3.out.fr.trans F3.out (fun _ _ h => h)).trans h9 (fun _ _ h => h))
    have FC := Lib.hid (show ∀ w9, Fresh w3 w9 → (Fresh w w9 ∧ (convert 23 9 (.slice A1 u1.length u1.length)).run Try.prog w9 = .ok (.string ⟨u1.toArray⟩) w9 ∧ (convert 23 9 (.slice A2 u2.length u2.length)).run Try.prog w9 = .ok (.string ⟨u2.toArray⟩) w9 ∧ (convert 23 9 (.slice B b.length cb)).run Try.prog w9 = .ok (.string ⟨b.toArray⟩) w9) from fun w9 h9 => by
      have hw := F1.out.trans (F13.out w9 h9) (fun _ _ h => h)
      exact ⟨hw, arr_conv2 (R1.out.upd (F13.out w9 h9) (fun _ _ h => h)), arr_conv2 (R2.out.upd (F13.out w9 h9) (fun _ _ h => h)), conv_of (H2.out.upd hw (fun _ _ h => h))⟩)
    clear R1 R2 F1 O3 F3 F13
    go_upto_region 5 with fail
    have HB := Lib.hid (Blk.new w3 46 #[.string ⟨u1.toArray⟩, .string ⟨u2.toArray⟩, .int .i64 (u3 : Int)])
    have HF := Lib.hid (show Fresh w3 (w3.alloc (.cells #[.string ⟨u1.toArray⟩, .string ⟨u2.toArray⟩, .int .i64 (u3 : Int)] 46)) from (Upd.refl w3).alloc _)
    generalize w3.alloc (.cells #[.string ⟨u1.toArray⟩, .string ⟨u2.toArray⟩, .int .i64 (u3 : Int)] 46) = w6 at HB HF ⊢
    generalize w3.heap.size = g at HB ⊢
    have HS := Lib.hid (show ∀ w9, Fresh w6 w9 → (w9.cell? ⟨g, 0, none⟩ = some (.string ⟨u1.toArray⟩) ∧ w9.cell? ⟨g, 1, none⟩ = some (.string ⟨u2.toArray⟩) ∧ w9.cell? ⟨g, 2, none⟩ = some (.int .i64 (u3 : Int)) ∧ (convert 23 9 (.slice A1 u1.length u1.length)).run Try.prog w9 = .ok (.string ⟨u1.toArray⟩) w9 ∧ (convert 23 9 (.slice A2 u2.length u2.length)).run Try.prog w9 = .ok (.string ⟨u2.toArray⟩) w9 ∧ (convert 23 9 (.slice B b.length cb)).run Try.prog w9 = .ok (.string ⟨b.toArray⟩) w9) from fun w9 h9 => by
      have hb := HB.out.upd h9 (fun h => h)
      have c0 := hb.cell 0
      have c1 := hb.cell 1
      have c2 := hb.cell 2
      simp only [List.getElem?_toArray, List.getElem?_cons_zero, List.getElem?_cons_succ] at c0 c1 c2
      obtain ⟨_, f1, f2, f3⟩ := FC.out _ (HF.out.trans h9 (fun _ _ h => h))
      exact ⟨c0, c1, c2, f1, f2, f3⟩)
    have HM := Lib.hid (show ∀ w9, Fresh w6 w9 → Fresh w w9 from fun w9 h9 => (FC.out _ (HF.out.trans h9 (fun _ _ h => h))).1)
    have hm1 : sl.length ≤ 1099511627776 := by omega
    have hm2 : sl.length ≤ 9223372036854775807 := by omega
    clear FC HB HF HUn HTo HRU H2
    obtain ⟨c0, c1, c2, cv1, cv2, cv3⟩ := HS.out _ ((Upd.refl w6).drew)
    go_region_held3 (fun W => W.cell? ⟨g, 0, none⟩ = some (.string ⟨u1.toArray⟩) ∧ W.cell? ⟨g, 1, none⟩ = some (.string ⟨u2.toArray⟩) ∧ W.cell? ⟨g, 2, none⟩ = some (.int .i64 (u3 : Int)) ∧ (convert 23 9 (.slice A1 u1.length u1.length)).run Try.prog W = .ok (.string ⟨u1.toArray⟩) W ∧ (convert 23 9 (.slice A2 u2.length u2.length)).run Try.prog W = .ok (.string ⟨u2.toArray⟩) W ∧ (convert 23 9 (.slice B b.length cb)).run Try.prog W = .ok (.string ⟨b.toArray⟩) W) (first | exact HS.out _ ((Upd.refl w6).drew) | exact HS.out _ F7.out | exact HS.out _ F8.out | exact HS.out _ F9.out | exact HS.out _ FA.out | exact HS.out _ FB.out | go_keep)
      (first
        | (go_at_call 16
           refine (HSd.out _ (HM.out _ ((Upd.refl w6).drew))).mono ?_
           rintro e w7 ⟨A7, c7, ls7, rfl, O7, hmap⟩
           have F7 := Lib.hid (show Fresh w6 w7 from ((Upd.refl w6).drew).trans O7.fr (fun _ _ h => h))
           have HL7 := Lib.hid (show ls7.length ≤ 1099511627776 by rw [← hmap, List.length_map] at hm1; exact hm1)
           have HT7 := Lib.hid (to_o (cp := ls7.length) O7.lsr HL7.out)
           rw [hmap] at HT7
           clear O7 hmap)
        | (go_at_call 11
           refine HT7.out.mono ?_
           rintro e w8 ⟨A8, c8, rfl, O8⟩
           have F8 := Lib.hid (show Fresh w6 w8 from F7.out.trans O8.fr (fun _ _ h => h))
           have R8 := Lib.hid O8.rls
           clear O8)
        | (go_at_call 17
           refine (HRS.out _).mono ?_
           rintro e w9 ⟨A9, c9, rfl, O9⟩
           have F9 := Lib.hid (show Fresh w6 w9 from F8.out.trans O9.fr (fun _ _ h => h))
           have R9 := Lib.hid O9.rls
           have R89 := Lib.hid (R8.out.fresh O9.fr)
           clear O9)
        | (go_at_call 13
           refine (same_yes R89.out R9.out hm2).mono ?_
           rintro e wA ⟨rfl, hA⟩
           have FA := Lib.hid (F9.out.trans hA (fun _ _ h => h))
           clear hA)
        | (go_at_call 9
           refine (awake_any _).mono ?_
           rintro e wB ⟨rfl, hB⟩
           have FB := Lib.hid (FA.out.trans hB (fun _ _ h => h))
           clear hB))
    go_wp2_with fail
    go_ret
    exact ⟨rfl, HM.out _ FB.out⟩
end Go.Proofs.Ytgknfbmlljhidaa
