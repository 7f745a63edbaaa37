import Derived.Test.YtgknfbmlljhidaaUn
import Derived.Test.YtgknfbmlljhidaaSr
namespace Go.Proofs.Ytgknfbmlljhidaa
open Go.RowKit

/-! ### A string behind a row of the call's own: where the row lies then -/
section
variable {P : Program} {w : World}
theorem run_append_str_at (base : Nat) (t u ty e : TypeId) (i : TypeInfo) (ht : P.underlying t = some (.slice e)) (hu : P.underlying u = some .string) (hi : P.info? e = some i) (hz : i.zero = some (.int .u8 0))
    (hsize : i.size = 1) (hby : i.bytes = 1) (v : Value) (n : Nat) (xs : List Value) (hown : w.ownsRow base e 1 v n xs) (s : ByteArray) (h63 : n + s.size ≤ maxLen) (hbytes : n + s.size ≤ 140737488355328) (hbase : base ≤ w.heap.size) :
    ∃ v' w', (Builtin.append_ #[t, u] ty #[v, .string s]).run P w = .ok v' w' ∧ w'.ownsRow base e 1 v' (n + s.size) (xs ++ Lib.strCells s) ∧ w.grownBy w' v.ownBlock ∧ ∀ k, v'.ownBlock = some k → v.ownBlock = some k ∨ w.heap.size ≤ k := by
  have hsmall : n + s.size ≤ 9223372036854775807 := by unfold maxLen at h63; omega
  rcases hown.2 with ⟨rfl, rfl⟩ | ⟨g, cap, cur, rfl, hbg, hg, hnc, hcm, hcs, htake⟩
  · have hx : xs = [] := List.eq_nil_of_length_eq_zero (by simpa using hown.1)
    subst hx
    obtain ⟨v', w', hr, ho, hgr, _⟩ := Lib.run_append_own_string (P := P) w w.heap.size t u ty e i ht hu hi hz hsize hby (.slice none 0 0) 0 [] (World.ownsRow_nil w _ e 1) s h63 hbytes (Nat.le_refl _)
    refine ⟨v', w', hr, ?_, hgr, fun k hk => .inr (ho.lt k hk).1⟩
    rcases ho.2 with h | ⟨g', cap', cur', h1, h2, h3⟩
    · exact ⟨ho.1, .inl h⟩
    · exact ⟨ho.1, .inr ⟨g', cap', cur', h1, by omega, h3⟩⟩
  · obtain ⟨v', w', hr, ho, hgr, _⟩ := Lib.run_append_own_string (P := P) w base t u ty e i ht hu hi hz hsize hby _ n xs hown s h63 hbytes hbase
    refine ⟨v', w', hr, ho, hgr, fun k hk => ?_⟩
    by_cases hroom : n + s.size ≤ cap
    · have hcs' : cur.size = cap := by simpa using hcs
      have hr2 := Lib.run_append_room_string (P := P) w t u ty e i ht hu hi hsize g n cap cur hg s hroom (by omega)
      rw [hr2] at hr
      injection hr with h1 h2
      rw [← h1] at hk
      exact .inl (by simpa [Value.ownBlock] using hk)
    · have hxl : xs.length = n := by simpa using hown.1
      have hr2 := Lib.run_append_grow_string (P := P) w t u ty e i (.int .u8 0) ht hu hi hz ⟨g, 0, none⟩ n cap xs (by rw [hsize]; simpa using hxl) (hown.cells (g := g) rfl) s (by omega) (by omega) (by rw [hby]; exact growslice_fits (by omega) (by omega))
      rw [hr2] at hr
      injection hr with h1 h2
      rw [← h1] at hk
      simp [Value.ownBlock] at hk
      exact .inr (by omega)
theorem wpList_append_str_at {ops : Array Oper} {rest : List Oper} {o : Oper} {a : Act} {Q : Exit → Act → World → Prop} (hgd : o.guard = none) (sl x : Operand) (t u : TypeId)
    (ho : o.op = .call { callee := .builtin .append, args := #[sl, x], argTypes := #[t, u] })
    (base : Nat) (e : TypeId) (i : TypeInfo) (ht : P.underlying t = some (.slice e)) (hu : P.underlying u = some .string) (hi : P.info? e = some i) (hz : i.zero = some (.int .u8 0))
    (hsize : i.size = 1) (hby : i.bytes = 1)
    (v : Value) (n : Nat) (xs : List Value) (hs : a.eval sl = v) (hown : w.ownsRow base e 1 v n xs) (s : ByteArray) (hx : a.eval x = .string s)
    (h63 : n + s.size ≤ maxLen) (hbytes : n + s.size ≤ 140737488355328) (hbase : base ≤ w.heap.size)
    (h : ∀ v' w', w'.ownsRow base e 1 v' (n + s.size) (xs ++ Lib.strCells s) → w.grownBy w' v.ownBlock → (∀ k, v'.ownBlock = some k → v.ownBlock = some k ∨ w.heap.size ≤ k) → wpList P ops Q rest (a.put o.dst v') w') : wpList P ops Q (o :: rest) a w := by
  refine wpList_plain hgd fun K hK => ?_
  obtain ⟨v', w', hr, h2, h3, h4⟩ := run_append_str_at (P := P) base t u o.type e i ht hu hi hz hsize hby v n xs hown s h63 hbytes hbase
  unfold Oper.wp execOp
  simp only [ho, resolve, invoke, builtin, Sem.run_bind, Sem.run_pure, Result.andThen_ok, List.map_toArray, List.map_cons, List.map_nil, hs, hx, hr]
  exact hK _ _ (h v' w' h2 h3 h4)
end
/-- Two rows that grow by strings, apart. -/
structure TwoB (w0 w : World) (A1 : Option Addr) (c1 : Nat) (a : List UInt8) (A2 : Option Addr) (c2 : Nat) (b : List UInt8) : Prop where
  one : OwnB w0 w A1 c1 a
  two : OwnB w0 w A2 c2 b
  dis : ∀ k, A1.map (·.block) = some k → A2.map (·.block) ≠ some k
theorem TwoB.fresh {w0 w w' : World} {A1 A2 : Option Addr} {c1 c2 : Nat} {a b : List UInt8} (h : TwoB w0 w A1 c1 a A2 c2 b) (hu : Fresh w w') : TwoB w0 w' A1 c1 a A2 c2 b := ⟨h.one.fresh hu, h.two.fresh hu, h.dis⟩
theorem TwoB.swap {w0 w : World} {A1 A2 : Option Addr} {c1 c2 : Nat} {a b : List UInt8} (h : TwoB w0 w A1 c1 a A2 c2 b) : TwoB w0 w A2 c2 b A1 c1 a := ⟨h.two, h.one, fun k h1 h2 => h.dis k h2 h1⟩
theorem TwoB.app {w0 w w2 : World} {A1 A2 : Option Addr} {c1 c2 n : Nat} {a b d : List UInt8} {v : Value} (h : TwoB w0 w A1 c1 a A2 c2 b) (ho : w2.ownsRow w0.heap.size 5 1 v n (bv a ++ Lib.strCells ⟨d.toArray⟩)) (hn : n = (a ++ d).length) (hg : w.grownBy w2 (Value.slice A1 a.length c1).ownBlock)
    (hat : ∀ k, v.ownBlock = some k → (Value.slice A1 a.length c1).ownBlock = some k ∨ w.heap.size ≤ k) : ∃ A3 c3, v = .slice A3 (a ++ d).length c3 ∧ TwoB w0 w2 A3 c3 (a ++ d) A2 c2 b := by
  obtain ⟨A3, c3, rfl, h1⟩ := h.one.app ho hn hg
  refine ⟨A3, c3, rfl, h1, ⟨owns_upd h.two.own (upd_grown hg) (fun k hk e => ?_), h1.fr⟩, ?_⟩
  · rw [ownBlock_map] at hk e
    exact h.dis k e hk
  · intro k hk h2
    rcases hat k (by rw [ownBlock_map]; exact hk) with e | e
    · exact h.dis k (by rw [ownBlock_map] at e; exact e) h2
    · have := owns_lt h.two.own (k := k) (by rw [ownBlock_map]; exact h2)
      omega
def RUnO (r : List UInt8 × List UInt8 × Nat) (w : World) (e : Ending) (w' : World) : Prop := e = .returned (.agg #[.string ⟨r.1.toArray⟩, .string ⟨r.2.1.toArray⟩, .int .i64 (r.2.2 : Int)]) ∧ Fresh w w'
structure RUnAt (w0 w : World) (gr : Nat) (ls : List RLn) (k : Nat) (A1 : Option Addr) (c1 : Nat) (a : List UInt8) (A2 : Option Addr) (c2 : Nat) (b : List UInt8) : Prop where
  two : TwoB w0 w A1 c1 a A2 c2 b
  blr : Blk w gr 46 #[.string ⟨#[]⟩, .string ⟨#[]⟩, .int .i64 0]
  eq : unL (ls.drop k) a b = unL ls [] []
  len : a.length + b.length + tot (ls.drop k) ≤ 2199023255552
  hgr : w0.heap.size ≤ gr
theorem fin3 {w0 w : World} {g : Nat} {a b d : Value} (h : Fresh w0 w) (hb : Blk w g 46 #[a, b, d]) (hg : w0.heap.size ≤ g) (x y z : Value) :
    Blk (((w.setCell ⟨g, 0, none⟩ x).setCell ⟨g, 1, none⟩ y).setCell ⟨g, 2, none⟩ z) g 46 #[x, y, z] ∧ Fresh w0 (((w.setCell ⟨g, 0, none⟩ x).setCell ⟨g, 1, none⟩ y).setCell ⟨g, 2, none⟩ z) := by
  have b3 := ((hb.set_ 0 x).set_ 1 y).set_ 2 z
  have hn : ¬ g < w0.heap.size := by omega
  exact ⟨by simpa using b3, ((h.setCell (fun e => absurd e hn) x).setCell (fun e => absurd e hn) y).setCell (fun e => absurd e hn) z⟩
set_option maxHeartbeats 1600000 in
theorem runside_o {A : Option Addr} {cp : Nat} {ls : List RLn} {w : World} (h : RLs w A ls) (hn : ls.length ≤ 2199023255552) (ht : tot ls ≤ 2199023255552) :
    Calls Try.prog 15 #[.slice A ls.length cp] w (RUnO (unL ls [] []) w) := by
  obtain ⟨i5, hi5, hy0, hy1, hy2⟩ := info_parts Try.info5
  have H := Lib.hid h
  have HT := Lib.hid ht
  clear h ht
  go_enter Try.func15, Try.ntmps15
  go_upto_region 2 with fail
  have H0 := Lib.hid (show RUnAt w (w.alloc (.cells #[.string ⟨#[]⟩, .string ⟨#[]⟩, .int .i64 0] 46)) w.heap.size ls 0 none 0 [] none 0 [] from
    ⟨⟨OwnB.nil ((Upd.refl w).alloc _), OwnB.nil ((Upd.refl w).alloc _), fun _ h => by simp at h⟩, Blk.new w 46 #[.string ⟨#[]⟩, .string ⟨#[]⟩, .int .i64 0], rfl, by simpa using HT.out, Nat.le_refl _⟩)
  generalize w.alloc (.cells #[.string ⟨#[]⟩, .string ⟨#[]⟩, .int .i64 0] 46) = w1 at H0 ⊢
  obtain ⟨gr, hgr⟩ : ∃ gr, w.heap.size = gr := ⟨_, rfl⟩
  rw [hgr] at H0 ⊢
  clear hgr
  go_wp2_with fail
  go_loopg [3, 4, 5] ls.length (fun gk s3 s4 s5 wx => ∃ (k : Nat) (A1 : Option Addr) (c1 : Nat) (a : List UInt8) (A2 : Option Addr) (c2 : Nat) (b : List UInt8), gk + k = ls.length ∧ s5 = .int .i64 (k : Int) ∧ s3 = .slice A1 a.length c1 ∧ s4 = .slice A2 b.length c2 ∧ Hid (RUnAt w wx gr ls k A1 c1 a A2 c2 b))
  case atStart => exact ⟨0, none, 0, [], none, 0, [], rfl, rfl, rfl, rfl, H0.out⟩
  case round =>
    obtain ⟨k, A1, c1, a, A2, c2, b, hgk, rfl, rfl, rfl, HR5⟩ := hrel
    clear H0
    have r0 := HR5.out.blr.cell 0
    have r1 := HR5.out.blr.cell 1
    have r2 := HR5.out.blr.cell 2
    simp only [List.getElem?_toArray, List.getElem?_cons_zero, List.getElem?_cons_succ] at r0 r1 r2
    have fr0 := HR5.out.blr.frozen 0
    have fr1 := HR5.out.blr.frozen 1
    have fr2 := HR5.out.blr.frozen 2
    by_cases hk : k < ls.length
    · obtain ⟨ad, hA, e0, e1⟩ := (H.out.fresh HR5.out.two.one.fr).at_ hk
      subst hA
      have HQ := Lib.hid HR5.out.eq
      have HN := Lib.hid HR5.out.len
      rw [List.drop_eq_getElem_cons hk] at HQ HN
      generalize ls[k] = x at e0 e1 HQ HN
      obtain ⟨xk, xd⟩ := x
      dsimp only at e0 e1 HQ HN
      by_cases hk1 : xk = 1
      · subst hk1
        rcases xd with _ | ⟨x0, t⟩
        · have HX := Lib.hid (show unL ls [] [] = ([], [], 3) by rw [← HQ.out, unL])
          have HF := Lib.hid (fin3 HR5.out.two.one.fr HR5.out.blr HR5.out.hgr (.string ⟨#[]⟩) (.string ⟨#[]⟩) (.int .i64 3))
          go_wp2_with fail
          generalize ((wr.setCell ⟨gr, 0, none⟩ (.string ⟨#[]⟩)).setCell ⟨gr, 1, none⟩ (.string ⟨#[]⟩)).setCell ⟨gr, 2, none⟩ (.int .i64 3) = w9 at HF ⊢
          have q0 := HF.out.1.cell 0
          have q1 := HF.out.1.cell 1
          have q2 := HF.out.1.cell 2
          simp only [List.getElem?_toArray, List.getElem?_cons_zero, List.getElem?_cons_succ] at q0 q1 q2
          refine bodyPost_ret (v := .agg #[.string ⟨#[]⟩, .string ⟨#[]⟩, .int .i64 3]) (by simp [results, Try.results15, go_sem, q0, q1, q2]) rfl ?_
          rw [HX.out]
          exact ⟨rfl, HF.out.2⟩
        · have hss := sub_str (x0 :: t) 1 (t.length + 1)
          rw [List.drop_succ_cons, List.drop_zero, show t.length + 1 - 1 = t.length by omega, List.take_length] at hss
          have hsz : (⟨(x0 :: t).toArray⟩ : ByteArray).size = t.length + 1 := by simp [ByteArray.size]
          have hne : (x0 :: t).isEmpty = false := rfl
          have hidx : ((⟨(x0 :: t).toArray⟩ : ByteArray)[0]'(by rw [hsz]; omega)).toNat = x0.toNat := rfl
          have hts : (⟨t.toArray⟩ : ByteArray).size = t.length := by simp [ByteArray.size]
          have HLEN := Lib.hid (show a.length + b.length + t.length + tot (ls.drop (k + 1)) ≤ 2199023255552 by
            have := HN.out
            rw [tot_cons] at this
            simp only [List.length_cons] at this
            omega)
          have hlt : a.length + b.length + t.length ≤ 2199023255552 := by have := HN.out; simp [tot] at this; omega
          rcases (show x0.toNat = 1 ∨ x0.toNat = 2 ∨ x0.toNat = 3 ∨ (x0.toNat ≠ 1 ∧ x0.toNat ≠ 2 ∧ x0.toNat ≠ 3) by omega) with hv | hv | hv | hv
          · have hx : x0 = 1 := UInt8.toNat_inj.1 hv
            have HX := Lib.hid (show unL (ls.drop (k + 1)) (a ++ t) b = unL ls [] [] by
              rw [← HQ.out]
              conv => rhs; rw [unL, if_neg (by simp)]
              rw [if_pos hx])
            clear hx
            generalize (x0 :: t) = d at e1 hss hsz hne hidx HQ HN
            rw [hv] at hidx
            go_upto_region 10 with fail
            go_wp2_with (first
              | (at_builtin
                 refine wpList_append_str_at rfl (.tmp 36) (.tmp 42) 23 9 rfl w.heap.size 5 i5 Try.underlying23 Try.underlying9 hi5 hy0 hy1 hy2 (.slice A1 a.length c1) a.length (bv a) rfl HR5.out.two.one.own ⟨t.toArray⟩ rfl (by unfold maxLen; omega) (by omega) HR5.out.two.one.fr.size ?_
                 intro v5 w5 hown5 hg5 hat5
                 obtain ⟨A5, d5, rfl, h5⟩ := HR5.out.two.app hown5 (by rw [List.length_append]; rfl) hg5 hat5
                 have HT5 := Lib.hid h5
                 have HB5 := Lib.hid (HR5.out.blr.grown hg5 (fun e => own_blk_ne HR5.out.two.one.own HR5.out.blr (by decide) e.symm))
                 clear hown5 hg5 hat5 h5))
            go_roundg (gk - 1)
            case measure => omega
            case rel =>
              refine ⟨k + 1, A5, d5, a ++ t, A2, c2, b, by omega, by go_num, by simp, by simp, HT5.out, HB5.out, HX.out, ?_, HR5.out.hgr⟩
              have := HLEN.out
              rw [List.length_append]
              omega
          · have hx : x0 = 2 := UInt8.toNat_inj.1 hv
            have HX := Lib.hid (show unL (ls.drop (k + 1)) a (b ++ t) = unL ls [] [] by
              rw [← HQ.out]
              conv => rhs; rw [unL, if_neg (by simp)]
              rw [if_neg (by rw [hx]; decide), if_pos hx])
            clear hx
            generalize (x0 :: t) = d at e1 hss hsz hne hidx HQ HN
            rw [hv] at hidx
            go_upto_region 12 with fail
            go_wp2_with (first
              | (at_builtin
                 refine wpList_append_str_at rfl (.tmp 46) (.tmp 52) 23 9 rfl w.heap.size 5 i5 Try.underlying23 Try.underlying9 hi5 hy0 hy1 hy2 (.slice A2 b.length c2) b.length (bv b) rfl HR5.out.two.two.own ⟨t.toArray⟩ rfl (by unfold maxLen; omega) (by omega) HR5.out.two.one.fr.size ?_
                 intro v5 w5 hown5 hg5 hat5
                 obtain ⟨A5, d5, rfl, h5⟩ := HR5.out.two.swap.app hown5 (by rw [List.length_append]; rfl) hg5 hat5
                 have HT5 := Lib.hid h5
                 have HB5 := Lib.hid (HR5.out.blr.grown hg5 (fun e => own_blk_ne HR5.out.two.two.own HR5.out.blr (by decide) e.symm))
                 clear hown5 hg5 hat5 h5))
            go_roundg (gk - 1)
            case measure => omega
            case rel =>
              refine ⟨k + 1, A1, c1, a, A5, d5, b ++ t, by omega, by go_num, by simp, by simp, HT5.out.swap, HB5.out, HX.out, ?_, HR5.out.hgr⟩
              have := HLEN.out
              rw [List.length_append]
              omega
          · have hx : x0 = 3 := UInt8.toNat_inj.1 hv
            have HX := Lib.hid (show unL ls [] [] = ([], t, 80) by
              rw [← HQ.out, unL, if_neg (by simp), if_neg (by rw [hx]; decide), if_neg (by rw [hx]; decide), if_pos hx])
            clear hx
            generalize (x0 :: t) = d at e1 hss hsz hne hidx HQ HN
            rw [hv] at hidx
            go_upto_region 14 with fail
            have HF := Lib.hid (fin3 HR5.out.two.one.fr HR5.out.blr HR5.out.hgr (.string ⟨#[]⟩) (.string ⟨t.toArray⟩) (.int .i64 80))
            go_wp2_with fail
            generalize ((wr.setCell ⟨gr, 0, none⟩ (.string ⟨#[]⟩)).setCell ⟨gr, 1, none⟩ (.string ⟨t.toArray⟩)).setCell ⟨gr, 2, none⟩ (.int .i64 80) = w9 at HF ⊢
            have q0 := HF.out.1.cell 0
            have q1 := HF.out.1.cell 1
            have q2 := HF.out.1.cell 2
            simp only [List.getElem?_toArray, List.getElem?_cons_zero, List.getElem?_cons_succ] at q0 q1 q2
            refine bodyPost_ret (v := .agg #[.string ⟨#[]⟩, .string ⟨t.toArray⟩, .int .i64 80]) (by simp [results, Try.results15, go_sem, q0, q1, q2]) rfl ?_
            rw [HX.out]
            exact ⟨rfl, HF.out.2⟩
          · obtain ⟨v1, v2, v3⟩ := hv
            have HX := Lib.hid (show unL ls [] [] = ([], [], 3) by
              rw [← HQ.out, unL, if_neg (by simp), if_neg (fun e => v1 (by rw [e]; rfl)), if_neg (fun e => v2 (by rw [e]; rfl)), if_neg (fun e => v3 (by rw [e]; rfl))])
            have b1 : ((x0.toNat : Int) == 1) = false := by simpa using fun e => v1 (by omega)
            have b2 : ((x0.toNat : Int) == 2) = false := by simpa using fun e => v2 (by omega)
            have b3 : ((x0.toNat : Int) == 3) = false := by simpa using fun e => v3 (by omega)
            generalize (x0 :: t) = d at e1 hss hsz hne hidx HQ HN
            have HF := Lib.hid (fin3 HR5.out.two.one.fr HR5.out.blr HR5.out.hgr (.string ⟨#[]⟩) (.string ⟨#[]⟩) (.int .i64 3))
            go_wp2_with fail
            generalize ((wr.setCell ⟨gr, 0, none⟩ (.string ⟨#[]⟩)).setCell ⟨gr, 1, none⟩ (.string ⟨#[]⟩)).setCell ⟨gr, 2, none⟩ (.int .i64 3) = w9 at HF ⊢
            have q0 := HF.out.1.cell 0
            have q1 := HF.out.1.cell 1
            have q2 := HF.out.1.cell 2
            simp only [List.getElem?_toArray, List.getElem?_cons_zero, List.getElem?_cons_succ] at q0 q1 q2
            refine bodyPost_ret (v := .agg #[.string ⟨#[]⟩, .string ⟨#[]⟩, .int .i64 3]) (by simp [results, Try.results15, go_sem, q0, q1, q2]) rfl ?_
            rw [HX.out]
            exact ⟨rfl, HF.out.2⟩
      · have HX := Lib.hid (show unL ls [] [] = ([], [], 3) by
          rw [← HQ.out]
          cases xd with
          | nil => rw [unL]
          | cons x0 t => rw [unL, if_pos hk1])
        have HF := Lib.hid (fin3 HR5.out.two.one.fr HR5.out.blr HR5.out.hgr (.string ⟨#[]⟩) (.string ⟨#[]⟩) (.int .i64 3))
        go_wp2_with fail
        generalize ((wr.setCell ⟨gr, 0, none⟩ (.string ⟨#[]⟩)).setCell ⟨gr, 1, none⟩ (.string ⟨#[]⟩)).setCell ⟨gr, 2, none⟩ (.int .i64 3) = w9 at HF ⊢
        have q0 := HF.out.1.cell 0
        have q1 := HF.out.1.cell 1
        have q2 := HF.out.1.cell 2
        simp only [List.getElem?_toArray, List.getElem?_cons_zero, List.getElem?_cons_succ] at q0 q1 q2
        refine bodyPost_ret (v := .agg #[.string ⟨#[]⟩, .string ⟨#[]⟩, .int .i64 3]) (by simp [results, Try.results15, go_sem, q0, q1, q2]) rfl ?_
        rw [HX.out]
        exact ⟨rfl, HF.out.2⟩
    · have HX := Lib.hid (show unL ls [] [] = (a, b, 0) by rw [← HR5.out.eq, List.drop_of_length_le (by omega)]; rfl)
      have cv1 := conv_of (c := c1) HR5.out.two.one.reads
      have cv2 := conv_of (c := c2) HR5.out.two.two.reads
      have HF := Lib.hid (fin3 HR5.out.two.one.fr HR5.out.blr HR5.out.hgr (.string ⟨a.toArray⟩) (.string ⟨b.toArray⟩) (.int .i64 0))
      go_wp2_with fail
      generalize ((wr.setCell ⟨gr, 0, none⟩ (.string ⟨a.toArray⟩)).setCell ⟨gr, 1, none⟩ (.string ⟨b.toArray⟩)).setCell ⟨gr, 2, none⟩ (.int .i64 0) = w9 at HF ⊢
      have q0 := HF.out.1.cell 0
      have q1 := HF.out.1.cell 1
      have q2 := HF.out.1.cell 2
      simp only [List.getElem?_toArray, List.getElem?_cons_zero, List.getElem?_cons_succ] at q0 q1 q2
      refine bodyPost_ret (v := .agg #[.string ⟨a.toArray⟩, .string ⟨b.toArray⟩, .int .i64 0]) (by simp [results, Try.results15, go_sem, q0, q1, q2]) rfl ?_
      rw [HX.out]
      exact ⟨rfl, HF.out.2⟩
end Go.Proofs.Ytgknfbmlljhidaa
