import Derived.Test.YtgknfbmlljhidaaRc
namespace Go.Proofs.Ytgknfbmlljhidaa
open Go.RowKit

theorem decL_len (b : List UInt8) : ∀ (f p : Nat) (l : List RLn), (decL b f p l).1.length ≤ l.length + f
  | 0, p, l => by simp [decL]
  | f + 1, p, l => by
    rw [decL]
    split
    · simp only; omega
    · cases sizeS ((b.drop p).take 4) with
      | none => simp
      | some n =>
        simp only
        split
        · simp
        · split
          · have := decL_len b f (p + 4) (l ++ [(2 + (n : Int), [])])
            rw [List.length_append] at this
            simp only [List.length_singleton] at this
            omega
          · split
            · simp only; omega
            · have := decL_len b f (p + n) (l ++ [(1, (b.drop (p + 4)).take (n - 4))])
              rw [List.length_append] at this
              simp only [List.length_singleton] at this
              omega
theorem decS_len (b : List UInt8) : (decS b).1.length ≤ b.length + 1 := by
  have := decL_len b (b.length + 1) 0 []
  simpa [decS] using this
theorem arr_conv {w : World} {A : Option Addr} {c : Nat} {l : List UInt8} (h : Arr w 5 A l.length (bv l)) : (convert 23 9 (.slice A l.length c)).run Try.prog w = .ok (.string ⟨l.toArray⟩) w :=
  conv_of ((h.reads).weak (fun _ _ => trivial))

set_option maxHeartbeats 1000000 in
set_option maxRecDepth 100000 in
theorem lines_any {A B : Option Addr} {ca cb : Nat} {ls : List Ln} {b : List UInt8} {w : World} (h1 : LsR w A ls) (h2 : Reads w (fun _ => True) 1 B b.length (bv b)) (hn : ls.length ≤ 1048576) (ht : tot (ls.map Ln.p) ≤ 140737488355328) (hb : b.length ≤ 1048576) (hc : b.length ≤ cb) (hm : cb ≤ 9223372036854775807) :
    Calls Try.prog 4 #[.slice A ls.length ca, .slice B b.length cb] w (BoolO true w) := by
  have H1 := Lib.hid h1
  have H2 := Lib.hid h2
  have HE := Lib.hid (enc_o (cp := ca) h1 (by omega) (by omega))
  have HTo := Lib.hid (fun (w1 : World) (hf : Fresh w w1) => to_o (cp := ca) (h1.fresh hf) (by omega))
  have HRE := Lib.hid (fun (A1 : Option Addr) (c1 : Nat) (w1 : World) (hr : RLs w1 A1 (ls.map Ln.p)) => renc_o (cp := c1) hr (by rw [List.length_map]; omega) (by omega))
  have HDe := Lib.hid (fun (w1 : World) (hf : Fresh w w1) => dec_o (cp := cb) (h2.upd hf (fun _ _ h => h)) (by omega) hc hm)
  have HRD := Lib.hid (fun (w1 : World) => rdec_o (b := b) (by omega) w1)
  have hdl := decS_len b
  clear h1 h2 ht
  generalize hL : ls.map Ln.p = L at HE HTo HRE
  generalize encL L [] = e1 at HE HRE
  generalize decS b = r at HDe HRD hdl
  obtain ⟨es, ew⟩ := e1
  obtain ⟨rl, ru, rw_⟩ := r
  dsimp only at hdl
  clear hL
  go_enter Try.func4, Try.ntmps4
  go_upto_region 1 with fail
  go_wp2_with fail
  refine HE.out.mono ?_
  rintro e w1 ⟨A1, rfl, G1⟩
  have G1 := Lib.hid G1
  go_upto_region 2 with fail
  go_wp2_with fail
  refine (HTo.out _ G1.out.2.2).mono ?_
  rintro e w2 ⟨A2, c2, rfl, O2⟩
  have O2 := Lib.hid O2
  go_wp2_with fail
  refine (HRE.out _ _ _ O2.out.rls).mono ?_
  rintro e w3 ⟨rfl, F3⟩
  have U3 := Lib.hid (show Fresh w w3 from (G1.out.2.2.trans O2.out.fr (fun _ _ h => h)).trans F3 (fun _ _ h => h))
  have GA := Lib.hid (show Arr w3 5 A1 es.length (bv es) from (G1.out.1.upd O2.out.fr (fun _ _ h => h)).upd F3 (fun _ _ h => h))
  clear G1 O2 F3
  go_upto_region 3 with fail
  go_wp2_with fail
  refine (HDe.out _ U3.out).mono ?_
  rintro e w4 ⟨A4, c4, ls4, rfl, O4, hmap⟩
  have O4 := Lib.hid O4
  dsimp only at hmap
  have HT4 := Lib.hid (fun (w9 : World) (hf : Fresh w4 w9) => to_o (cp := ls4.length) (O4.out.lsr.fresh hf) (by rw [← hmap, List.length_map] at hdl; omega))
  rw [hmap] at HT4
  clear hmap
  have cv4 := (conv_of (c := cb) (H2.out.upd (U3.out.trans O4.out.fr (fun _ _ h => h)) (fun _ _ h => h)))
  go_upto_region 4 with fail
  go_wp2_with fail
  refine (HRD.out _).mono ?_
  rintro e w5 ⟨A5, c5, rfl, O5⟩
  have O5 := Lib.hid O5
  have FA := Lib.hid (show ∀ w9, Fresh w5 w9 → Arr w9 5 A1 es.length (bv es) from fun w9 h9 => ((GA.out.upd O4.out.fr (fun _ _ h => h)).upd O5.out.fr (fun _ _ h => h)).upd h9 (fun _ _ h => h))
  have F45 := Lib.hid (show ∀ w9, Fresh w5 w9 → Fresh w4 w9 from fun w9 h9 => O5.out.fr.trans h9 (fun _ _ h => h))
  have F5 := Lib.hid (show ∀ w9, Fresh w5 w9 → Fresh w w9 from fun w9 h9 => (U3.out.trans O4.out.fr (fun _ _ h => h)).trans (F45.out w9 h9) (fun _ _ h => h))
  have HR5 := Lib.hid (show ∀ w9, Fresh w5 w9 → RLs w9 A5 rl from fun w9 h9 => (O5.out.fresh h9).rls)
  clear O4 O5 GA cv4
  go_upto_region 5 with fail
  have HB := Lib.hid (Blk.new w5 39 #[.slice A5 rl.length c5, .int .i64 (ru : Int), .int .i64 (rw_ : Int)])
  have HF := Lib.hid (show Fresh w5 (w5.alloc (.cells #[.slice A5 rl.length c5, .int .i64 (ru : Int), .int .i64 (rw_ : Int)] 39)) from (Upd.refl w5).alloc _)
  generalize w5.alloc (.cells #[.slice A5 rl.length c5, .int .i64 (ru : Int), .int .i64 (rw_ : Int)] 39) = w6 at HB HF ⊢
  generalize w5.heap.size = g at HB ⊢
  have HS := Lib.hid (show ∀ w9, Fresh w6 w9 → (w9.cell? ⟨g, 0, none⟩ = some (.slice A5 rl.length c5) ∧ w9.cell? ⟨g, 1, none⟩ = some (.int .i64 (ru : Int)) ∧ w9.cell? ⟨g, 2, none⟩ = some (.int .i64 (rw_ : Int)) ∧ (convert 23 9 (.slice A1 es.length es.length)).run Try.prog w9 = .ok (.string ⟨es.toArray⟩) w9) from fun w9 h9 => by
    have hb := HB.out.upd h9 (fun h => h)
    have c0 := hb.cell 0
    have c1 := hb.cell 1
    have c2 := hb.cell 2
    simp only [List.getElem?_toArray, List.getElem?_cons_zero, List.getElem?_cons_succ] at c0 c1 c2
    exact ⟨c0, c1, c2, arr_conv (FA.out _ (HF.out.trans h9 (fun _ _ h => h)))⟩)
  have hm1 : rl.length ≤ 9223372036854775807 := by omega
  have hm2 : ∀ w9, Fresh w6 w9 → Fresh w4 w9 := fun w9 h9 => F45.out _ (HF.out.trans h9 (fun _ _ h => h))
  have hm3 : ∀ w9, Fresh w6 w9 → RLs w9 A5 rl := fun w9 h9 => HR5.out _ (HF.out.trans h9 (fun _ _ h => h))
  have hm4 : ∀ w9, Fresh w6 w9 → Fresh w w9 := fun w9 h9 => F5.out _ (HF.out.trans h9 (fun _ _ h => h))
  have HM2 := Lib.hid hm2
  have HM3 := Lib.hid hm3
  have HM4 := Lib.hid hm4
  clear hm2 hm3 hm4 FA F45 F5 HR5 HB HF G1 O2 O4 O5
  obtain ⟨c0, c1, c2, cv⟩ := HS.out _ ((Upd.refl w6).drew)
  go_region_held3 (fun W => W.cell? ⟨g, 0, none⟩ = some (.slice A5 rl.length c5) ∧ W.cell? ⟨g, 1, none⟩ = some (.int .i64 (ru : Int)) ∧ W.cell? ⟨g, 2, none⟩ = some (.int .i64 (rw_ : Int)) ∧ (convert 23 9 (.slice A1 es.length es.length)).run Try.prog W = .ok (.string ⟨es.toArray⟩) W) (first | exact HS.out _ ((Upd.refl w6).drew) | exact HS.out _ F7.out | exact HS.out _ F8.out | exact HS.out _ F9.out | go_keep)
    (first
      | (go_at_call 11
         refine (HT4.out _ (HM2.out _ ((Upd.refl w6).drew))).mono ?_
         rintro e w7 ⟨A7, c7, rfl, O7⟩
         have F7 := Lib.hid (show Fresh w6 w7 from ((Upd.refl w6).drew).trans O7.fr (fun _ _ h => h))
         have R7 := Lib.hid O7.rls
         clear O7)
      | (go_at_call 13
         refine (same_yes R7.out (HM3.out _ F7.out) hm1).mono ?_
         rintro e w8 ⟨rfl, h8⟩
         have F8 := Lib.hid (F7.out.trans h8 (fun _ _ h => h))
         clear h8)
      | (go_at_call 9
         refine (awake_any _).mono ?_
         rintro e w9 ⟨rfl, h9⟩
         have F9 := Lib.hid (F8.out.trans h9 (fun _ _ h => h))
         clear h9))
  go_wp2_with fail
  go_ret
  exact ⟨rfl, HM4.out _ F9.out⟩
end Go.Proofs.Ytgknfbmlljhidaa
