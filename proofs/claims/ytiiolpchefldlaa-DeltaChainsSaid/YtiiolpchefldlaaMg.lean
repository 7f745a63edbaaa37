import Derived.Test.YtiiolpchefldlaaMf
import Derived.Test.YtiiolpchefldlaaLp
import Derived.Test.YtiiolpchefldlaaGm
namespace Go.Proofs.Ytiiolpchefldlaa
open Go.RowKit

/-! ### Make, whatever the target -/
theorem wt_mine {w0 w : World} {A : Option Addr} {c : Nat} {b : List UInt8} (h : Wt w0 w A c b) (hc : 0 < c) {k : Nat} {o : Obj} (hk : A.map (·.block) = some k) (ho : w.heap[k]? = some o) : Mine o := by
  obtain ⟨g, off, cur, rfl, hb, _⟩ := h.row hc
  obtain rfl : g = k := by simpa using hk
  unfold Blk at hb
  rw [hb] at ho
  cases ho
  exact .inl rfl
theorem MkV.push {w0 wk w w' : World} {g co cw c2 n : Nat} {V : Value} {Ao Aw A2 : Option Addr} {out wt wt2 : List UInt8} (h : MkV w0 wk w g V Ao co out Aw cw wt) (hw : Wt w0 w' A2 c2 wt2) (hg : w.grownBy w' (if wt.length < cw then Aw.map (·.block) else none))
    (hat : (0 < cw ∧ A2.map (·.block) = Aw.map (·.block)) ∨ ∀ k, A2.map (·.block) = some k → w.heap.size ≤ k) (hn : n = wt2.length) : MkV w0 wk (w'.setCell ⟨g, 1, none⟩ (.slice A2 n c2)) g V Ao co out A2 c2 wt2 := by
  subst hn
  have hrow : ∀ k, (if wt.length < cw then Aw.map (·.block) else none) = some k → 0 < cw ∧ Aw.map (·.block) = some k := fun k hk => by
    split at hk
    · exact ⟨by omega, hk⟩
    · cases hk
  have hb1 : Blk w' g 44 #[V, .slice Aw wt.length cw] := h.blk.grown hg (fun e => by
    obtain ⟨hc, hk⟩ := hrow g e.symm
    exact absurd (h.wait.ty hc hk h.blk) (by decide))
  have ho1 : w'.ownsRow 0 5 1 (.slice Ao out.length co) out.length (bv out) := owns_upd h.own.own (upd_grown hg) (fun k hk e => by
    obtain ⟨hc, hk2⟩ := hrow k e
    exact h.dis hc k hk2 (by rw [← hk, ownBlock_map]))
  have hf1 : Fresh w0 w' := h.own.fr.grown hg (fun k hk hlt => by
    obtain ⟨hc, hk2⟩ := hrow k hk
    have := (h.wait.lt hc hk2).1
    omega)
  have hk1 : KeepO wk w' := h.kp.grown hg (fun k o hk ho => by
    obtain ⟨hc, hk2⟩ := hrow k hk
    exact wt_mine h.wait hc hk2 ho)
  have hu := upd_set w' ⟨g, 1, none⟩ (.slice A2 wt2.length c2)
  have hb2 := hb1.set_ 1 (.slice A2 wt2.length c2)
  refine ⟨by simpa using hb2, ⟨owns_upd ho1 hu (fun k hk e => own_blk_ne ho1 hb1 (by decide) (by rw [hk, e])), h.own.ab, hf1.setCell (fun e => absurd e (by have := h.gg; simp; omega)) _⟩, hw.upd hu (fun hc k hk e => ?_), h.gg, fun hc k hk e => ?_, hk1.setCell (fun o ho => blk_mine hb1 ho) _⟩
  · subst e
    exact absurd (hw.ty hc hk hb1) (by decide)
  · rcases hat with ⟨hc0, e2⟩ | e2
    · rw [e2] at hk
      exact h.dis hc0 k hk e
    · have h1 := e2 k hk
      have h2 := (h.own.own.lt k (by rw [ownBlock_map]; exact e)).2
      omega
theorem step_append_eq {P : Program} {ops : Array Oper} {o : Oper} {a : Act} {w w' : World} {K : Act → World → Prop} {Q : Exit → Act → World → Prop} {E : Prop} (hgd : o.guard = none) (s x : Operand) (t : TypeId)
    (ho : o.op = .call { callee := .builtin .append, args := #[s, x], argTypes := #[t, t] }) (vs vx v' : Value) (hs : a.eval s = vs) (hx : a.eval x = vx)
    (hrun : (Builtin.append_ #[t, t] o.type #[vs, vx]).run P w = .ok v' w') (h : K (a.put o.dst v') w') : if Region.wanted o (yielded ops a.tmps) = true then Oper.wp P o a w K Q else E := by
  have hw : Region.wanted o (yielded ops a.tmps) = true := by simp [Region.wanted, hgd]
  rw [if_pos hw]
  unfold Oper.wp execOp
  simp only [ho, resolve, invoke, builtin, Sem.run_bind, Sem.run_pure, Result.andThen_ok, List.map_toArray, List.map_cons, List.map_nil, hs, hx, hrun]
  exact h
theorem places_nv {w : World} {A : Option Addr} {mn L : Nat} {zs : List Int} (hz : ∀ z ∈ zs, 0 ≤ z ∧ z ≤ (L : Int)) (h : Reads w (fun _ => True) 1 A (1 + zs.length) ([.int .i64 (mn : Int)] ++ zs.map (Value.int .i64))) :
    Reads w (fun _ => True) 1 A (mn :: zs.map Int.toNat).length (nv .i64 (mn :: zs.map Int.toNat)) := by
  have e : nv .i64 (mn :: zs.map Int.toNat) = [.int .i64 (mn : Int)] ++ zs.map (Value.int .i64) := by
    rw [nv, List.map_cons, List.singleton_append, List.map_map]
    congr 1
    refine List.map_congr_left fun z hz2 => ?_
    have := (hz z hz2).1
    simp only [Function.comp]
    congr 1
    omega
  rw [e, List.length_cons, List.length_map, Nat.add_comm]
  exact h
set_option maxHeartbeats 6400000 in
set_option maxRecDepth 100000 in
theorem make_other_o {As At : Option Addr} {cs ct : Nat} {base target : List UInt8} {w : World} {m : Int} (hb : Sl w As base cs) (ht : Sl w At target ct) (hs : base.length ≤ 1073741824) (hts : target.length ≤ 1073741824)
    (hm : w.cell? ⟨0, 0, none⟩ = some (.int .i64 m)) (hi : Lib.index base target < 0) :
    Calls Try.prog 9 #[.slice As base.length cs, .slice At target.length ct] w (MakeO base target (target.length + target.length / 127 + 8) w) := by
  have hidx : Lib.index base target = -1 := by have := Lib.index_ge base target; omega
  obtain ⟨i0, hi0, hz0, hz1, hz2⟩ := info_parts Try.info5
  have HI := Lib.hid (fun (w9 : World) (hf : Fresh w w9) => index_o (hb.fresh hf) (ht.fresh hf) (by omega) ((hf.cell (World.block_lt_of_cell? w _ hm) (fun h => h)).trans hm))
  rw [hidx] at HI
  have hl1 := numS_pos base.length
  have hl2 := numS_pos target.length
  have hl3 := numS_len base.length
  have hl4 := numS_len target.length
  unfold MakeO
  have hbl := Lib.hid (number_o (base.length : Int) w (by omega) (by omega))
  have htl := Lib.hid (fun w1 => number_o (target.length : Int) w1 (by omega) (by omega))
  unfold NumO at hbl htl
  simp only [Int.toNat_natCast] at hbl htl
  generalize numS base.length = p at *
  generalize numS target.length = q at *
  have HB := Lib.hid hb
  have HT := Lib.hid ht
  have hbc := hb.le
  have hbm := hb.cm
  have htc := ht.le
  have htm := ht.cm
  clear hm hb ht hidx hi
  go_enter Try.func9, Try.ntmps9
  go_wp2_with fail
  refine hbl.out.mono ?_
  rintro e w1 ⟨A1, rfl, G1⟩
  replace G1 := Lib.hid G1
  go_wp2_with fail
  refine (htl.out w1).mono ?_
  rintro e w2 ⟨A2, rfl, G2⟩
  have F2 := Lib.hid (G1.out.2.2.trans G2.2.2 (fun _ _ h => h))
  have R1 := Lib.hid (G1.out.1.upd G2.2.2 (fun _ _ h => h))
  replace G2 := Lib.hid G2
  obtain ⟨a1, hA1, -⟩ := R1.out.reads.2 (by omega)
  obtain ⟨a2, hA2, -⟩ := G2.out.1.reads.2 (by omega)
  subst hA1 hA2
  have e1 : (bv p).length = p.length * 1 := by simp [bv]
  have e2 : (bv q).length = q.length * 1 := by simp [bv]
  go_upto_region 2 with (first
    | (at_builtin
       refine wpList_append_grows _ rfl (.tmp 17) (.tmp 20) 22 rfl 5 i0 _ 1 1 Try.underlying22 hi0 hz0 hz1 hz2 rfl (by omega) (some a1) p.length p.length (bv p) rfl (fun h => by cases h) e1 (fun b hb => by injection hb with hb; subst hb; exact R1.out.cells1) a2 q.length q.length (bv q) rfl e2 G2.out.1.cells1 (bv_one _) (by omega) (by unfold maxLen; omega) (by omega) ?_
       intro v3 w3 hown3 hg3
       obtain ⟨A3, c3, rfl, HO⟩ := Own.grows F2.out hown3 hg3 (by rw [List.length_append])
       replace HO := Lib.hid HO
       clear hown3 hg3))
  rw [← List.length_append]
  have hol : (p ++ q).length ≤ 20 := by rw [List.length_append]; omega
  clear G1 R1 G2 F2 e1 e2 hl1 hl2 hl3 hl4
  generalize hpq : p ++ q = o at HO hol ⊢
  replace hpq := Lib.hid hpq
  have HM := Lib.hid (show Mkr w (w3.alloc (.cells #[.slice A3 o.length c3, .slice none 0 0] 44)) (w3.alloc (.cells #[.slice A3 o.length c3, .slice none 0 0] 44)) w3.heap.size A3 c3 o none 0 [] from
    ⟨Blk.new w3 44 _, HO.out.fresh ((Upd.refl w3).alloc _), Wt.nil _ _, HO.out.fr.size, fun h => absurd h (by omega), KeepO.refl _⟩)
  generalize w3.alloc (.cells #[.slice A3 o.length c3, .slice none 0 0] 44) = w4 at HM ⊢
  generalize w3.heap.size = g at HM ⊢
  clear HO
  obtain ⟨i3, hi3, hw0, hw1, hw2⟩ := info_parts Try.info3
  have hmm := @run_makeMap Try.prog
  go_wp2_with fail
  refine (HI.out w4 HM.out.own.fr).mono ?_
  rintro e w5 ⟨rfl, F5⟩
  replace HM := Lib.hid (HM.out.fresh F5)
  clear F5 HI
  go_upto_region 8 with fail
  have HG := Lib.hid (Grp.made w5 base.length)
  have HF5 := Lib.hid (show Fresh w5 (w5.alloc (.map #[] 0)) from (Upd.refl w5).alloc _)
  generalize w5.alloc (.map #[] 0) = w6 at HG HF5 ⊢
  obtain ⟨B, hB⟩ : ∃ B, w5.heap.size = B := ⟨_, rfl⟩
  rw [hB] at HG ⊢
  replace hB := Lib.hid hB
  go_loopg [8] (base.length + 16) (fun gk s8 wx => ∃ (i n : Nat) (D : DataW Unit), gk + i = base.length + 16 ∧ s8 = .int .i64 (i : Int) ∧ n ≤ i ∧ Hid (Grp wx B n base.length D) ∧ Hid (Fresh w5 wx))
  case atStart => exact ⟨0, 0, .map [], rfl, rfl, Nat.le_refl _, HG.out, HF5.out⟩
  case round =>
    obtain ⟨i, n, D, hgk, rfl, hni, HGr, HF⟩ := hrel
    by_cases hi : i + 16 ≤ base.length
    · have hcs : (i : Int) < (cs : Int) := by omega
      obtain ⟨ab, rfl, -⟩ := HB.out.rd.2 (by omega)
      have hWd := Lib.hid (show Calls Try.prog 18 #[.slice (some (ab.add i)) (base.length - i) (cs - i)] wr fun e w' => ∃ x : Int, e = .returned (.int .u64 x) ∧ 0 ≤ x ∧ x < 18446744073709551616 ∧ Fresh wr w' from by
        have h1 := (HB.out.fresh (HM.out.own.fr.trans HF.out (fun _ _ h => h))).from_ (k := i) (by omega)
        rw [if_neg (by omega)] at h1
        have h2 := word_o h1 (by rw [List.length_drop]; omega)
        rwa [List.length_drop] at h2)
      go_wp2_with fail
      refine hWd.out.mono ?_
      rintro e w7 ⟨x, rfl, hx1, hx2, F7⟩
      have hG7 := Lib.hid (HGr.out.keep (keep_fresh F7))
      replace F7 := Lib.hid (HF.out.trans F7 (fun _ _ h => h))
      have hBs : B + 1 ≤ w7.heap.size := by
        obtain ⟨es, clock, h1, _⟩ := hG7.out.own
        exact (Array.getElem?_eq_some_iff.1 h1).1
      clear hWd HGr HF
      have tok1 : True := trivial
      go_upto_if 65 with (first
        | (at_lookup
           have _t := tok1
           refine wpList_lookup_groups _ rfl _ _ 47 rfl 48 50 3 .i64 law48 Try.underlying47 (zero50 _) (B + 1) B n D rfl hG7.out.own (by unfold maxLen; omega) _ _ rfl (key48 hx1 hx2) ?_
           intro v zs hat hoi hzl hback
           obtain ⟨Av, cv, rfl⟩ := hoi.1.shape
           clear tok1 hat hback))
      by_cases h16 : zs.length < 16
      · have h16i : (zs.length : Int) < 16 := by omega
        clear hoi hzl h16
        have tok2 : True := trivial
        have wfi : (Lit.int .i64 (i : Int)).wf = true := by
          simp [Lit.wf, IntKind.min, IntKind.max, IntKind.bits, IntKind.signed]
          omega
        go_wp2_with (first
          | (at_lookup
             have _t := tok2
             refine wpList_lookup_groups _ rfl _ _ 47 rfl 48 50 3 .i64 law48 Try.underlying47 (zero50 _) (B + 1) B n D rfl hG7.out.own (by unfold maxLen; omega) _ _ rfl (key48 hx1 hx2) ?_
             intro v2 zs2 hat hoi hzl hback
             have hgd := goodM_at hG7.out.good hat hoi
             clear tok2 hat)
          | (at_builtin
             refine wpList_append_own_at _ rfl (.tmp 70) (.tmp 72) 50 rfl (B + 1) 3 i3 (.int .i64 0) 1 8 Try.underlying50 hi3 hw0 hw1 hw2 rfl (by decide) _ _ _ rfl (hoi.1.alloc _) ⟨w7.heap.size, 0, none⟩ 1 1 [.int .i64 (i : Int)] rfl rfl (cell_one_new _ _ _) (ints_oneCell .i64 [(i : Int)]) (by unfold maxLen; omega) (by omega) (by simp; omega) ?_
             intro v3 w8 hown8 hgrow8 hnil8 hloc8)
          | (at_mapUpdate
             refine wpList_mapUpdate_back _ rfl _ _ _ 47 rfl hback rfl rfl rfl ((World.grownBy_alloc _ _ _).trans hgrow8) (hoi.appended hown8 wfi) (by simp; omega) (hloc8.imp id (fun h => ⟨_, h, by simp⟩)) ?_
             intro w9 hown9 hgrow9))
        have hG9 := Lib.hid (show Grp w9 B (n + 1) base.length (D.put (.int .u64 x) (rowDatum .i64 v3 (zs2 ++ [(i : Int)]))) from ⟨hown9, goodM_put hG7.out.good (fun z hz => by
          rcases List.mem_append.1 hz with h | h
          · exact hgd z h
          · rw [List.mem_singleton.1 h]
            omega)⟩)
        have hF9 := Lib.hid (show Fresh w5 w9 from by
          have e := hB.out
          have h1 : Fresh w5 w8 := (Upd.grown F7.out ((World.grownBy_alloc _ _ _).trans hgrow8) (fun j hj hlt => by
            have := (hoi.1.lt j hj).1
            omega))
          exact h1.grown hgrow9 (fun j hj hlt => by
            injection hj with hj
            omega))
        go_roundg (gk - 16)
        case measure => omega
        case rel => exact ⟨i + 16, n + 1, _, by omega, by go_num, by omega, hG9.out, hF9.out⟩
      · have h16i : ¬ (zs.length : Int) < 16 := by omega
        clear hoi hzl
        go_wp2_with fail
        go_roundg (gk - 16)
        case measure => omega
        case rel => exact ⟨i + 16, n, D, by omega, by go_num, by omega, hG7.out, F7.out⟩
    · have HG2 := Lib.hid (HGr.out)
      have HM2 := Lib.hid (show Mkr w wr wr g A3 c3 o none 0 [] from
        let h := HM.out.fresh HF.out
        ⟨h.blk, h.own, h.wait, h.gg, h.dis, KeepO.refl _⟩)
      clear HM HF HGr HF5 HG
      obtain ⟨wM, rfl⟩ : ∃ w', w' = wr := ⟨wr, rfl⟩
      go_wp2_with fail
      go_loopg [10] target.length (fun gk s10 wx => ∃ (i2 : Nat) (A : Option Addr) (co : Nat) (code made : List UInt8) (Aw : Option Addr) (cw : Nat) (wt : List UInt8), gk + i2 = target.length ∧ s10 = .int .i64 (i2 : Int) ∧ Hid (Mkr w wM wx g A co (o ++ code) Aw cw wt) ∧ Hid (LpAt base target code made wt i2))
      case atStart => exact ⟨0, A3, c3, [], [], none, 0, [], rfl, rfl, by rw [List.append_nil]; exact HM2.out, LpAt.start base target⟩
      case round =>
        obtain ⟨i2, A, co, code, made, Aw, cw, wt, hgk2, rfl, HMk, HLp⟩ := hrel
        have hlens := HLp.out.lens
        have hcl := HLp.out.len
        by_cases hi2 : i2 < target.length
        · go_upto_if 82 with fail
          go_cut [11, 12, 13] (fun sa sb sn wy => ∃ at_ back n : Nat, sa = .int .i64 (at_ : Int) ∧ sb = .int .i64 (back : Int) ∧ sn = .int .i64 (n : Int) ∧ Hid (FindG base target i2 wt.length at_ back n) ∧ Hid (Fresh wr wy))
          case first =>
            by_cases g16 : i2 + 16 ≤ target.length
            · have hcs : (i2 : Int) < (ct : Int) := by omega
              obtain ⟨at2, rfl, -⟩ := HT.out.rd.2 (by omega)
              have hWd := Lib.hid (show ∀ W, Fresh wr W → Calls Try.prog 18 #[.slice (some (at2.add i2)) (target.length - i2) (ct - i2)] W fun e w' => ∃ x : Int, e = .returned (.int .u64 x) ∧ 0 ≤ x ∧ x < 18446744073709551616 ∧ Fresh W w' from fun W hW => by
                have h1 := (HT.out.fresh (HMk.out.own.fr.trans hW (fun _ _ h => h))).from_ (k := i2) (by omega)
                rw [if_neg (by omega)] at h1
                have h2 := word_o h1 (by rw [List.length_drop]; omega)
                rwa [List.length_drop] at h2)
              go_upto_region 17 with fail
              go_cut [14] (fun sp wy => ∃ (Ap : Option Addr) (cp : Nat) (ps : List Nat), sp = .slice Ap ps.length cp ∧ ps.length ≤ 2147483648 ∧ Hid (Reads wy (fun _ => True) 1 Ap ps.length (nv .i64 ps)) ∧ Hid (∀ p ∈ ps, p ≤ base.length) ∧ Hid (Fresh wr wy))
              case first =>
                have hGr := Lib.hid (HG2.out.keep HMk.out.kp)
                obtain ⟨mn, hmn, hmnl⟩ : ∃ mn : Nat, min (i2 : Int) (base.length : Int) = (mn : Int) ∧ mn ≤ base.length := ⟨min i2 base.length, by omega, by omega⟩
                have HOw := Lib.hid (show (wr.alloc (.cells #[.int .i64 (mn : Int)] 3)).ownsRow 0 3 1 (.slice (some ⟨wr.heap.size, 0, none⟩) 1 1) 1 [.int .i64 (mn : Int)] from
                  ⟨rfl, .inr ⟨wr.heap.size, 1, #[.int .i64 (mn : Int)], rfl, Nat.zero_le _, heap_alloc_new _ _, Nat.le_refl _, by unfold maxLen; omega, rfl, rfl⟩⟩)
                have tok1 : True := trivial
                go_wp2_with fail
                refine (hWd.out _ ((Upd.refl wr).alloc _)).mono ?_
                rintro e w7 ⟨x, rfl, hx1, hx2, F7⟩
                have hG7 := Lib.hid (hGr.out.keep (keep_fresh (((Upd.refl (F := fun _ => False) wr).alloc (.cells #[.int .i64 (mn : Int)] 3)).trans F7 (fun _ _ h => h))))
                replace HOw := Lib.hid (owns_upd HOw.out F7 (fun _ _ h => h))
                replace F7 := Lib.hid (((Upd.refl (F := fun _ => False) wr).alloc (.cells #[.int .i64 (mn : Int)] 3)).trans F7 (fun _ _ h => h))
                go_wp2_with (first
                  | (at_lookup
                     have _t := tok1
                     refine wpList_lookup_groups _ rfl _ _ 47 rfl 48 50 3 .i64 law48 Try.underlying47 (zero50 _) (B + 1) B n D rfl hG7.out.own (by unfold maxLen; omega) _ _ rfl (key48 hx1 hx2) ?_
                     intro v zs hat hoi hzl hback
                     have hgd := goodM_at hG7.out.good hat hoi
                     obtain ⟨Av, cv, rfl⟩ := hoi.1.shape
                     have HRz := Lib.hid ((Reads.of_own hoi.1).weak (S' := fun _ => True) (fun _ _ => trivial))
                     replace hgd := Lib.hid hgd
                     clear tok1 hat hback hoi)
                  | (at_builtin
                     refine wpList_append_any _ rfl (.tmp 87) (.tmp 93) 50 rfl 3 i3 (.int .i64 0) 1 8 Try.underlying50 hi3 hw0 hw1 hw2 rfl (by omega) (.slice (some ⟨wr.heap.size, 0, none⟩) 1 1) 1 [.int .i64 (mn : Int)] rfl HOw.out (fun _ => True) Av zs.length cv (zs.map (Value.int .i64)) rfl HRz.out (ints_oneCell .i64 zs) (by unfold maxLen; omega) (by omega) ?_
                     intro A8 d8 w8 hown8 hg8 hat8
                     have HR8 := Lib.hid (places_nv hgd.out ((Reads.of_own hown8).weak (S' := fun _ => True) (fun _ _ => trivial)))
                     have F8 := Lib.hid (F7.out.grown hg8 (fun j hj hlt => by simp [Value.ownBlock] at hj; omega))
                     clear hown8 hg8 hat8))
                go_meet
                refine ⟨A8, d8, mn :: zs.map Int.toNat, by simp [Nat.add_comm], by simp; omega, HR8.out, fun p hp => ?_, F8.out⟩
                rcases List.mem_cons.1 hp with h | h
                · omega
                · obtain ⟨z, hz, rfl⟩ := List.mem_map.1 h
                  have := hgd.out z hz
                  omega
              obtain ⟨Ap, cp, ps, rfl, hpsl, HPs, HPl, F2⟩ := hcut
              have HMw := Lib.hid (HMk.out.fresh F2.out)
              have cw1 := HMw.out.blk.cell 1
              simp only [List.getElem?_toArray, List.getElem?_cons_zero, List.getElem?_cons_succ] at cw1
              have hFd := Lib.hid (find_o (cp := cp) (i := i2) (wait := wt.length) (HB.out.fresh HMw.out.own.fr) (HT.out.fresh HMw.out.own.fr) HPs.out HPl.out (by omega) (by omega) hs hts hpsl)
              go_wp2_with fail
              refine hFd.out.mono ?_
              rintro e w9 ⟨fa, fb, fn, rfl, hfg, F9⟩
              go_wp2_with fail
              go_meet
              exact ⟨fa, fb, fn, rfl, rfl, rfl, hfg, F2.out.trans F9 (fun _ _ h => h)⟩
            · go_wp2_with fail
              go_meet
              exact ⟨0, 0, 0, rfl, rfl, rfl, .inl ⟨rfl, rfl⟩, Upd.refl _⟩
          obtain ⟨at_, back, n, rfl, rfl, rfl, HFg, F3⟩ := hcut
          have HM3 := Lib.hid (HMk.out.fresh F3.out)
          have c1 := HM3.out.blk.cell 1
          have f1 := HM3.out.blk.frozen 1
          simp only [List.getElem?_toArray, List.getElem?_cons_zero, List.getElem?_cons_succ] at c1
          have hol2 : (o ++ code).length ≤ 2147483648 := by rw [List.length_append]; omega
          rcases HFg.out with ⟨rfl, rfl⟩ | hgood
          · obtain ⟨at2, rfl, -⟩ := HT.out.rd.2 (by omega)
            have HLw := Lib.hid (HLp.out.wait hi2)
            have HS := Lib.hid (show ∀ W, Fresh w W → W.cell? (at2.add i2) = some (.int .u8 ((target[i2]).toNat : Int)) from fun W hW => bytes_at (HT.out.fresh hW).rd hi2)
            generalize target[i2] = x at HLw HS
            go_upto_region 20 with fail
            go_cut [] (fun wx => ∃ (A5 : Option Addr) (c5 : Nat), Hid (Mkr w wM wx g A co (o ++ code) A5 c5 (wt ++ [x])))
            case first =>
              have HM1 := Lib.hid (HM3.out.fresh (((Upd.refl wc).alloc (.cells #[.int .u8 x.toNat] 5)).drew))
              have d1 := HM1.out.blk.cell 1
              simp only [List.getElem?_toArray, List.getElem?_cons_zero, List.getElem?_cons_succ] at d1
              have hnx : ((wc.alloc (.cells #[.int .u8 x.toNat] 5)).drew).cell? ⟨wc.heap.size, 0, none⟩ = some (.int .u8 (x.toNat : Int)) := (Blk.new wc 5 #[.int .u8 x.toNat]).cell 0
              have z1 : (i2 : Int) < (target.length : Int) := by omega
              have z0 : (0 : Int) ≤ (i2 : Int) := by omega
              refine wp_region_held_drew (S := fun W => W.cell? (at2.add i2) = some (.int .u8 (x.toNat : Int))) (by kernel_rfl) ?_ (fun hHeld => ?_)
              · exact HS.out _ (HM3.out.own.fr.drew)
              change wpAnyH _ _ _ _ _ _ _ _ _
              refine wpAnyH_take (i := 0) (v := ?_) rfl (by kernel_rfl) (by kernel_rfl) (by kernel_rfl) (fun _ _ _ h => h) (Or.inl ⟨by rfl, ?_⟩) hHeld ?_
              case refine_2 => (intro w9 hS9; (try dsimp only at hS9); go_simp; try with_reducible rfl)
              try simp only [Act.put, List.setIfInBounds_toArray, List.set_cons_zero, List.set_cons_succ]
              refine wpAnyH_take (i := 1) (v := ?_) rfl (by kernel_rfl) (by kernel_rfl) (by kernel_rfl) (fun _ _ _ h => h) (Or.inl ⟨by rfl, ?_⟩) hHeld ?_
              case refine_2 => (intro w9 hS9; (try dsimp only at hS9); go_simp; try with_reducible rfl)
              try simp only [Act.put, List.setIfInBounds_toArray, List.set_cons_zero, List.set_cons_succ]
              refine wpAnyH_take (i := 2) (v := ?_) rfl (by kernel_rfl) (by kernel_rfl) (by kernel_rfl) (fun _ _ _ h => h) (Or.inl ⟨by rfl, ?_⟩) hHeld ?_
              case refine_2 => (intro w9 hS9; (try dsimp only at hS9); go_simp; try with_reducible rfl)
              try simp only [Act.put, List.setIfInBounds_toArray, List.set_cons_zero, List.set_cons_succ]
              refine wpAnyH_take (i := 3) (v := ?_) rfl (by kernel_rfl) (by kernel_rfl) (by kernel_rfl) (fun _ _ _ h => h) (Or.inl ⟨by rfl, ?_⟩) hHeld ?_
              case refine_2 => (intro w9 hS9; (try dsimp only at hS9); go_simp; try with_reducible rfl)
              try simp only [Act.put, List.setIfInBounds_toArray, List.set_cons_zero, List.set_cons_succ]
              refine wpAnyH_take (i := 5) (v := ?_) rfl (by kernel_rfl) (by kernel_rfl) (by kernel_rfl) (fun _ _ _ h => h) (Or.inl ⟨by rfl, ?_⟩) hHeld ?_
              case refine_2 => (intro w9 hS9; (try dsimp only at hS9); go_simp; try with_reducible rfl)
              try simp only [Act.put, List.setIfInBounds_toArray, List.set_cons_zero, List.set_cons_succ]
              refine wpAnyH_take (i := 6) (v := ?_) rfl (by kernel_rfl) (by kernel_rfl) (by kernel_rfl) (fun _ _ _ h => h) (Or.inl ⟨by rfl, ?_⟩) hHeld ?_
              case refine_2 => (intro w9 hS9; (try dsimp only at hS9); go_simp; try with_reducible rfl)
              try simp only [Act.put, List.setIfInBounds_toArray, List.set_cons_zero, List.set_cons_succ]
              refine wpAnyH_take (i := 7) (v := ?_) rfl (by kernel_rfl) (by kernel_rfl) (by kernel_rfl) (fun _ _ _ h => h) (Or.inl ⟨by rfl, ?_⟩) hHeld ?_
              case refine_2 => (intro w9 hS9; (try dsimp only at hS9); go_simp; try with_reducible rfl)
              try simp only [Act.put, List.setIfInBounds_toArray, List.set_cons_zero, List.set_cons_succ]
              refine wpAnyH_take (i := 8) (v := ?_) rfl (by kernel_rfl) (by kernel_rfl) (by kernel_rfl) (fun _ _ _ h => h) (Or.inl ⟨by rfl, ?_⟩) hHeld ?_
              case refine_2 => (intro w9 hS9; (try dsimp only at hS9); go_simp; try with_reducible rfl)
              try simp only [Act.put, List.setIfInBounds_toArray, List.set_cons_zero, List.set_cons_succ]
              refine wpAnyH_ready (rs := [4, 9]) (by kernel_rfl) (by simp) ?_
              refine AllReadyH.cons rfl (fun K hK => ?_) (AllReadyH.cons rfl (fun K hK => ?_) AllReadyH.nil)
              · go_simp
                refine hK.out _ _ ?_ (fun hHeld => ?_)
                · exact HS.out _ (HM3.out.own.fr.drew)
                clear hK K
                try simp only [Act.put, List.setIfInBounds_toArray, List.set_cons_zero, List.set_cons_succ]
                refine wpAnyH_ready (rs := [9]) (by kernel_rfl) (by simp) ?_
                refine AllReadyH.cons rfl (fun K hK => ?_) AllReadyH.nil
                go_simp
                refine hK.out _ _ ?_ (fun hHeld => ?_)
                · exact HS.out _ HM1.out.own.fr
                clear hK K
                try simp only [Act.put, List.setIfInBounds_toArray, List.set_cons_zero, List.set_cons_succ]
                refine wpAnyH_ready (rs := [10]) (by kernel_rfl) (by simp) ?_
                refine AllReadyH.cons rfl (fun K hK => ?_) AllReadyH.nil
                obtain ⟨A5, c5, w5x, hrun5, hW5, hg5, hat5⟩ := run_append_wt HM1.out.wait HM1.out.own.fr.size 22 x ⟨wc.heap.size, 0, none⟩ 1 hnx (by omega)
                refine step_append_eq rfl (.tmp 115) (.tmp 120) 22 rfl _ _ _ rfl rfl hrun5 ?_
                have HP := Lib.hid (HM1.out.push hW5 hg5 hat5 (n := wt.length + 1) (by simp))
                have k0f := HP.out.blk.frozen 1
                have hcell5 : w5x.cell? ⟨g, 1, none⟩ = some (.slice Aw wt.length cw) := by
                  have hb5 : Blk w5x g 44 #[.slice A (o ++ code).length co, .slice Aw wt.length cw] := HM1.out.blk.grown hg5 (fun e => by
                    split at e
                    · rename_i hlt
                      exact absurd (HM1.out.wait.ty (by omega) e.symm HM1.out.blk) (by decide)
                    · cases e)
                  have := hb5.cell 1
                  simpa using this
                have hfz5 : w5x.frozen? ⟨g, 1, none⟩ = false := by
                  have hb5 : Blk w5x g 44 #[.slice A (o ++ code).length co, .slice Aw wt.length cw] := HM1.out.blk.grown hg5 (fun e => by
                    split at e
                    · rename_i hlt
                      exact absurd (HM1.out.wait.ty (by omega) e.symm HM1.out.blk) (by decide)
                    · cases e)
                  exact hb5.frozen 1
                have hs5 : w5x.cell? (at2.add i2) = some (.int .u8 (x.toNat : Int)) := HS.out _ (HM1.out.own.fr.grown hg5 (fun k hk hlt => by
                  split at hk
                  · rename_i hlt2
                    have := (HM1.out.wait.lt (by omega) hk).1
                    omega
                  · cases hk))
                refine hK.out _ _ ?_ (fun hHeld => ?_)
                · exact hs5
                clear hK K
                try simp only [Act.put, List.setIfInBounds_toArray, List.set_cons_zero, List.set_cons_succ]
                refine wpAnyH_take (i := 11) (v := ?_) rfl (by kernel_rfl) (by kernel_rfl) (by kernel_rfl) (fun _ _ _ h => h) (Or.inl ⟨by rfl, ?_⟩) hHeld ?_
                case refine_2 => (intro w9 hS9; (try dsimp only at hS9); go_simp; try with_reducible rfl)
                try simp only [Act.put, List.setIfInBounds_toArray, List.set_cons_zero, List.set_cons_succ]
                refine wpAnyH_take (i := 12) (v := ?_) rfl (by kernel_rfl) (by kernel_rfl) (by kernel_rfl) (fun _ _ _ h => h) (Or.inl ⟨by rfl, ?_⟩) hHeld ?_
                case refine_2 => (intro w9 hS9; (try dsimp only at hS9); go_simp; try with_reducible rfl)
                try simp only [Act.put, List.setIfInBounds_toArray, List.set_cons_zero, List.set_cons_succ]
                refine wpAnyH_ready (rs := [13]) (by kernel_rfl) (by simp) ?_
                refine AllReadyH.cons rfl (fun K hK => ?_) AllReadyH.nil
                go_simp
                refine hK.out _ _ ?_ (fun hHeld => ?_)
                · exact HS.out _ HP.out.own.fr
                clear hK K
                try simp only [Act.put, List.setIfInBounds_toArray, List.set_cons_zero, List.set_cons_succ]
                refine wpAnyH_done (by kernel_rfl) ?_ _
                go_wp2_with fail
                go_meet
                exact ⟨A5, c5, HP.out⟩
              · go_simp
                refine hK.out _ _ ?_ (fun hHeld => ?_)
                · exact HS.out _ HM1.out.own.fr
                clear hK K
                try simp only [Act.put, List.setIfInBounds_toArray, List.set_cons_zero, List.set_cons_succ]
                refine wpAnyH_ready (rs := [4]) (by kernel_rfl) (by simp) ?_
                refine AllReadyH.cons rfl (fun K hK => ?_) AllReadyH.nil
                go_simp
                refine hK.out _ _ ?_ (fun hHeld => ?_)
                · exact HS.out _ HM1.out.own.fr
                clear hK K
                try simp only [Act.put, List.setIfInBounds_toArray, List.set_cons_zero, List.set_cons_succ]
                refine wpAnyH_ready (rs := [10]) (by kernel_rfl) (by simp) ?_
                refine AllReadyH.cons rfl (fun K hK => ?_) AllReadyH.nil
                obtain ⟨A5, c5, w5x, hrun5, hW5, hg5, hat5⟩ := run_append_wt HM1.out.wait HM1.out.own.fr.size 22 x ⟨wc.heap.size, 0, none⟩ 1 hnx (by omega)
                refine step_append_eq rfl (.tmp 115) (.tmp 120) 22 rfl _ _ _ rfl rfl hrun5 ?_
                have HP := Lib.hid (HM1.out.push hW5 hg5 hat5 (n := wt.length + 1) (by simp))
                have k0f := HP.out.blk.frozen 1
                have hcell5 : w5x.cell? ⟨g, 1, none⟩ = some (.slice Aw wt.length cw) := by
                  have hb5 : Blk w5x g 44 #[.slice A (o ++ code).length co, .slice Aw wt.length cw] := HM1.out.blk.grown hg5 (fun e => by
                    split at e
                    · rename_i hlt
                      exact absurd (HM1.out.wait.ty (by omega) e.symm HM1.out.blk) (by decide)
                    · cases e)
                  have := hb5.cell 1
                  simpa using this
                have hfz5 : w5x.frozen? ⟨g, 1, none⟩ = false := by
                  have hb5 : Blk w5x g 44 #[.slice A (o ++ code).length co, .slice Aw wt.length cw] := HM1.out.blk.grown hg5 (fun e => by
                    split at e
                    · rename_i hlt
                      exact absurd (HM1.out.wait.ty (by omega) e.symm HM1.out.blk) (by decide)
                    · cases e)
                  exact hb5.frozen 1
                have hs5 : w5x.cell? (at2.add i2) = some (.int .u8 (x.toNat : Int)) := HS.out _ (HM1.out.own.fr.grown hg5 (fun k hk hlt => by
                  split at hk
                  · rename_i hlt2
                    have := (HM1.out.wait.lt (by omega) hk).1
                    omega
                  · cases hk))
                refine hK.out _ _ ?_ (fun hHeld => ?_)
                · exact hs5
                clear hK K
                try simp only [Act.put, List.setIfInBounds_toArray, List.set_cons_zero, List.set_cons_succ]
                refine wpAnyH_take (i := 11) (v := ?_) rfl (by kernel_rfl) (by kernel_rfl) (by kernel_rfl) (fun _ _ _ h => h) (Or.inl ⟨by rfl, ?_⟩) hHeld ?_
                case refine_2 => (intro w9 hS9; (try dsimp only at hS9); go_simp; try with_reducible rfl)
                try simp only [Act.put, List.setIfInBounds_toArray, List.set_cons_zero, List.set_cons_succ]
                refine wpAnyH_take (i := 12) (v := ?_) rfl (by kernel_rfl) (by kernel_rfl) (by kernel_rfl) (fun _ _ _ h => h) (Or.inl ⟨by rfl, ?_⟩) hHeld ?_
                case refine_2 => (intro w9 hS9; (try dsimp only at hS9); go_simp; try with_reducible rfl)
                try simp only [Act.put, List.setIfInBounds_toArray, List.set_cons_zero, List.set_cons_succ]
                refine wpAnyH_ready (rs := [13]) (by kernel_rfl) (by simp) ?_
                refine AllReadyH.cons rfl (fun K hK => ?_) AllReadyH.nil
                go_simp
                refine hK.out _ _ ?_ (fun hHeld => ?_)
                · exact HS.out _ HP.out.own.fr
                clear hK K
                try simp only [Act.put, List.setIfInBounds_toArray, List.set_cons_zero, List.set_cons_succ]
                refine wpAnyH_done (by kernel_rfl) ?_ _
                go_wp2_with fail
                go_meet
                exact ⟨A5, c5, HP.out⟩
            obtain ⟨A5, c5, HM5⟩ := hcut
            go_wp2_with fail
            go_roundg (gk - 1)
            case measure => omega
            case rel => exact ⟨i2 + 1, A, co, code, made, A5, c5, wt ++ [x], by omega, by go_num, HM5.out, HLw.out⟩
          · have hw1 := hgood.bw
            have hw2 := hgood.ba
            have hw3 := hgood.r1
            have hw4 := hgood.r2
            have hw5 := hgood.n16
            have HLf := Lib.hid (HLp.out.find hgood (by omega))
            clear HFg hgood
            have hn16 : ¬ (n : Int) < 16 := by omega
            obtain ⟨kk, hkk⟩ : ∃ kk : Nat, kk = wt.length - back := ⟨_, rfl⟩
            have hkI : (wt.length : Int) - (back : Int) = (kk : Int) := by omega
            obtain ⟨ca, hca⟩ : ∃ ca : Nat, ca = at_ - back := ⟨_, rfl⟩
            have hcaI : (at_ : Int) - (back : Int) = (ca : Int) := by omega
            obtain ⟨cn, hcn⟩ : ∃ cn : Nat, cn = back + n := ⟨_, rfl⟩
            have hcnI : (back : Int) + (n : Int) = (cn : Int) := by omega
            have hkl : kk ≤ wt.length := by omega
            have hkc : kk ≤ cw := by have := HM3.out.wait.le; omega
            have hcwm := HM3.out.wait.cm
            rw [← hkk, ← hca, ← hcn] at HLf
            have hcr : ca + cn ≤ 1099511627776 := by omega
            have hcn2 : cn ≤ 1073741824 := by omega
            replace hkk := Lib.hid hkk
            replace hca := Lib.hid hca
            replace hcn := Lib.hid hcn
            go_upto_region 22 with fail
            go_cut [] (fun wx => ∃ wt2 : List UInt8, Hid (wt2 = wt.take kk) ∧ Hid (Mkr w wM wx g A co (o ++ code) Aw cw wt2))
            case first =>
              have htl : (wt.take kk).length = kk := by rw [List.length_take]; omega
              have HP := Lib.hid (show Mkr w wM ((wc.setCell ⟨g, 1, none⟩ (.slice Aw kk cw)).drew) g A co (o ++ code) Aw cw (wt.take kk) from
                (HM3.out.set1 (HM3.out.wait.upto hkl) HM3.out.dis htl.symm).fresh ((Upd.refl _).drew))
              have z0 : (0 : Int) ≤ (kk : Int) := by omega
              have z1 : (kk : Int) ≤ (cw : Int) := by omega
              rcases Aw with _ | aw
              · obtain rfl := HM3.out.wait.nn rfl
                obtain rfl : kk = 0 := by omega
                go_region
                all_goals go_wp2_with fail
                all_goals go_meet
                all_goals exact ⟨_, rfl, HP.out⟩
              · go_region
                all_goals go_wp2_with fail
                all_goals go_meet
                all_goals exact ⟨_, rfl, HP.out⟩
            obtain ⟨wt2, hwt2, HM5⟩ := hcut
            have hwl : wt2.length ≤ 1073741824 := by rw [hwt2.out, List.length_take]; omega
            have HCp := Lib.hid (copy_o HM5.out (at_ := ca) (n := cn) (by omega) hcr)
            go_wp2_with fail
            refine HCp.out.mono ?_
            rintro e w9 ⟨rfl, A9, c9, Aw9, cw9, M9⟩
            replace M9 := Lib.hid M9
            have he9 : o ++ code ++ flushS wt2 ++ copyS ca cn = o ++ (code ++ flushS wt2 ++ copyS ca cn) := by simp
            rw [he9] at M9
            rw [← hwt2.out] at HLf
            go_wp2_with fail
            go_roundg (gk - n)
            case measure => omega
            case rel => exact ⟨i2 + n, A9, c9, code ++ flushS wt2 ++ copyS ca cn, target.take (i2 + n), Aw9, cw9, [], by omega, by go_num, M9.out, HLf.out⟩
        · have hi3 : i2 = target.length := by have := HLp.out.le; omega
          obtain ⟨hmk, hmlen⟩ := HLp.out.done hi3
          have hol2 : (o ++ code).length ≤ 2147483648 := by rw [List.length_append]; omega
          have hFl := Lib.hid (flush_o HMk.out (by omega))
          rw [List.append_assoc] at hFl
          go_wp2_with fail
          refine hFl.out.mono ?_
          rintro e w6 ⟨rfl, A6, c6, Aw6, cw6, M6⟩
          have hcp := owns_cap M6.own.own
          unfold maxLen at hcp
          have c0 := M6.blk.cell 0
          simp only [List.getElem?_toArray, List.getElem?_cons_zero, List.getElem?_cons_succ] at c0
          replace M6 := Lib.hid M6
          have hmk := Lib.hid hmk
          clear hFl hcl hlens HLp HMk
          generalize hcode : code ++ flushS wt = code2 at *
          generalize hres : o ++ code2 = r at *
          replace hcode := Lib.hid hcode
          go_upto_region 26 with fail
          go_quiet (fail)
          go_wp2_with fail
          go_ret
          exact ⟨A6, code2, hmk.out, by omega, by rw [hpq.out, hres]; rfl, by rw [hpq.out, hres]; exact (M6.out.own.fresh (fresh_drewN _ _)).got⟩
end Go.Proofs.Ytiiolpchefldlaa
