import Derived.Test.YtgknfbmlljhidaaSi
import Derived.Test.YtgknfbmlljhidaaPla
namespace Go.Proofs.Ytgknfbmlljhidaa
open Go.RowKit

/-! ### A guarded append -/
section
variable {P : Program} {w : World}
theorem wpList_append_want {ops : Array Oper} {rest : List Oper} {o : Oper} {a : Act} {Q : Exit → Act → World → Prop} (hw : Region.wanted o (yielded ops a.tmps) = true) (s x : Operand) (t : TypeId)
    (ho : o.op = .call { callee := .builtin .append, args := #[s, x], argTypes := #[t, t] })
    (e : TypeId) (i : TypeInfo) (z : Value) (size bytes : Nat) (ht : P.underlying t = some (.slice e)) (hi : P.info? e = some i) (hz : i.zero = some z)
    (hsize : i.size = size) (hby : i.bytes = bytes) (hzs : z.cells.size = size) (hsz : 0 < size)
    (v : Value) (n : Nat) (xs : List Value) (hs : a.eval s = v) (hown : w.ownsRow 0 e size v n xs)
    (S : Nat → Prop) (A : Option Addr) (m c : Nat) (news : List Value) (hx : a.eval x = .slice A m c) (hr : Reads w S size A m news) (h1 : ∀ u ∈ news, u.oneCell' = true)
    (h63 : n + m ≤ maxLen) (hbytes : (n + m) * bytes ≤ 140737488355328)
    (h : ∀ A' c' w', w'.ownsRow 0 e size (.slice A' (n + m) c') (n + m) (xs ++ news) → w.grownBy w' v.ownBlock → ((Value.slice A' (n + m) c').ownBlock = v.ownBlock ∨ (Value.slice A' (n + m) c').ownBlock = some w.heap.size) → wpList P ops Q rest (a.put o.dst (.slice A' (n + m) c')) w') : wpList P ops Q (o :: rest) a w :=
  wpList_step fun K hK => by
    rw [if_pos hw]
    exact wp_append_any w s x t ho e i z size bytes ht hi hz hsize hby hzs hsz v n xs hs hown S A m c news hx hr h1 h63 hbytes fun A' c' w' h2 h3 h4 => hK _ _ (h A' c' w' h2 h3 h4)
end

/-! ### One side there and back -/
theorem unL_side1 {m : Nat} (hm : 1 ≤ m) : ∀ (f : Nat) (b a c : List UInt8), b.length ≤ f → unL (sideL 1 m f b) a c = (a ++ b, c, 0)
  | 0, b, a, c, h => by
    obtain rfl : b = [] := List.eq_nil_of_length_eq_zero (by omega)
    simp [sideL, unL]
  | f + 1, b, a, c, h => by
    rw [sideL]
    by_cases hb : b = []
    · subst hb; simp [unL]
    · rw [if_neg hb, unL, if_neg (by simp), if_pos rfl, unL_side1 hm f (b.drop m) _ c (by have := List.length_pos_iff.2 hb; rw [List.length_drop]; omega), List.append_assoc, List.take_append_drop]
theorem unL_side2 {m : Nat} (hm : 1 ≤ m) : ∀ (f : Nat) (b a c : List UInt8), b.length ≤ f → unL (sideL 2 m f b) a c = (a, c ++ b, 0)
  | 0, b, a, c, h => by
    obtain rfl : b = [] := List.eq_nil_of_length_eq_zero (by omega)
    simp [sideL, unL]
  | f + 1, b, a, c, h => by
    rw [sideL]
    by_cases hb : b = []
    · subst hb; simp [unL]
    · rw [if_neg hb, unL, if_neg (by simp), if_neg (by decide), if_pos rfl, unL_side2 hm f (b.drop m) a _ (by have := List.length_pos_iff.2 hb; rw [List.length_drop]; omega), List.append_assoc, List.take_append_drop]
theorem side_back1 (x : Int) (b : List UInt8) : unL (sideS 1 x b) [] [] = (b, [], 0) := by
  rw [sideS, show sbyte 1 = 1 from rfl, unL_side1 (mostS_le x).1 _ _ _ _ (Nat.le_refl _), List.nil_append]
theorem side_back2 (x : Int) (b : List UInt8) : unL (sideS 2 x b) [] [] = ([], b, 0) := by
  rw [sideS, show sbyte 2 = 2 from rfl, unL_side2 (mostS_le x).1 _ _ _ _ (Nat.le_refl _), List.nil_append]
theorem tot_side {s : UInt8} {m : Nat} : ∀ (f : Nat) (b : List UInt8), tot (sideL s m f b) ≤ f * 5 + b.length
  | 0, b => by simp [sideL, tot]
  | f + 1, b => by
    rw [sideL]
    split
    · simp [tot]
    · rw [tot_cons]
      have := tot_side (s := s) (m := m) f (b.drop m)
      have h2 := List.length_take (i := m) (l := b)
      rw [List.length_drop] at this
      simp only [List.length_cons]
      omega
/-- What was cut and read in two pieces. -/
theorem cut_back (L : List RLn) (h : ∀ x ∈ L, okLn x) (q : Nat) (hq : q ≤ (encs L).length) : ∃ l1 l2, L = l1 ++ l2 ∧ decS ((encs L).take q) = (l1, (encs l1).length, 0) ∧ (encs l1).length ≤ q ∧ decS ((encs L).drop (encs l1).length) = (l2, (encs l2).length, 0) ∧ (encs l1).length + (encs l2).length = (encs L).length := by
  obtain ⟨l1, l2, e, h1, h2⟩ := dec_prefix L h q hq
  have he : encs L = encs l1 ++ encs l2 := by rw [e]; simp [encs]
  refine ⟨l1, l2, e, h1, h2, ?_, ?_⟩
  · rw [he, List.drop_left]
    exact dec_full l2 (fun x hx => h x (by rw [e]; exact List.mem_append_right _ hx))
  · rw [he, List.length_append]
theorem all_ok (L : List RLn) (h1 : (encL L []).2 = 0) (h2 : ∀ x ∈ L, x.1 = 1 ∨ x.2 = []) : ∀ x ∈ L, okLn x := by
  intro x hx
  rcases encL_err L [] h1 x hx with h | h
  · exact .inl h
  · refine .inr ⟨h, ?_⟩
    rcases h2 x hx with e | e
    · omega
    · exact e
theorem tmod_in (n : Int) (k : Nat) : -(k : Int) ≤ n.tmod ((k : Int) + 1) ∧ n.tmod ((k : Int) + 1) ≤ (k : Int) := by
  rcases (show 0 ≤ n ∨ n < 0 by omega) with h | h
  · rw [Int.tmod_eq_emod_of_nonneg h]
    have h1 := Int.emod_nonneg n (show ((k : Int) + 1) ≠ 0 by omega)
    have h2 := Int.emod_lt_of_pos n (show 0 < ((k : Int) + 1) by omega)
    omega
  · have e : n.tmod ((k : Int) + 1) = -((-n).tmod ((k : Int) + 1)) := by rw [Int.neg_tmod, Int.neg_neg]
    rw [e, Int.tmod_eq_emod_of_nonneg (show 0 ≤ -n by omega)]
    have h1 := Int.emod_nonneg (-n) (show ((k : Int) + 1) ≠ 0 by omega)
    have h2 := Int.emod_lt_of_pos (-n) (show 0 < ((k : Int) + 1) by omega)
    omega
theorem encs_tot (L : List RLn) : (encs L).length ≤ tot L := by
  induction L with
  | nil => simp [encs, tot]
  | cons x r ih =>
    have e : encs (x :: r) = encOne x ++ encs r := by simp [encs]
    rw [e, List.length_append, tot_cons]
    have : (encOne x).length ≤ x.2.length + 4 := by
      unfold encOne
      split
      · rw [List.length_append, hex4_length]; omega
      · simp
    omega

set_option maxHeartbeats 2000000 in
set_option maxRecDepth 100000 in
theorem back_any {A B : Option Addr} {ca cb : Nat} {ls : List Ln} {b : List UInt8} {w : World} (n x : Int) (h1 : LsR w A ls) (h2 : Reads w (fun _ => True) 1 B b.length (bv b)) (hn : ls.length ≤ 1048576) (ht : tot (ls.map Ln.p) ≤ 1099511627776) (hb : b.length ≤ 1048576) (hc : b.length ≤ cb) (hm : cb ≤ 9223372036854775807) (hx1 : -9223372036854775808 ≤ x) (hx2 : x ≤ 9223372036854775807) (hn1 : -9223372036854775808 ≤ n) (hn2 : n ≤ 9223372036854775807) :
    Calls Try.prog 6 #[.slice A ls.length ca, .int .i64 n, .slice B b.length cb, .int .i64 x] w (BoolO true w) := by
  by_cases h5 : 5000 < b.length
  · go_enter Try.func6, Try.ntmps6
    go_wp2_with fail
    refine (awake_any _).mono ?_
    rintro e w4 ⟨rfl, h4⟩
    go_wp2_with fail
    go_ret
    exact ⟨rfl, h4⟩
  · obtain ⟨i0, hi0, hz0, hz1, hz2⟩ := info_parts Try.info60
    have H1 := Lib.hid h1
    have H2 := Lib.hid h2
    have HS1 := Lib.hid (fun (w1 : World) (hf : Fresh w w1) => side_o 1 x (h2.upd hf (fun _ _ h => h)) hb hc hm hx1 hx2)
    have HS2 := Lib.hid (fun (w1 : World) (hf : Fresh w w1) => side_o 2 x (h2.upd hf (fun _ _ h => h)) hb hc hm hx1 hx2)
    have HL1 := Lib.hid (sideS_len 1 x b)
    have HL2 := Lib.hid (sideS_len 2 x b)
    have HT1 := Lib.hid (show tot (sideS 1 x b) ≤ 2199023255552 from Nat.le_trans (tot_side _ _) (by omega))
    have HT2 := Lib.hid (show tot (sideS 2 x b) ≤ 2199023255552 from Nat.le_trans (tot_side _ _) (by omega))
    have HEn := Lib.hid (fun (w1 : World) (hf : Fresh w w1) => enc_o (cp := ca) (h1.fresh hf) (by omega) (by omega))
    have HTo := Lib.hid (fun (w1 : World) (hf : Fresh w w1) => to_o (cp := ca) (h1.fresh hf) (by omega))
    have HTT := Lib.hid ht
    clear h1 h2 ht
    go_enter Try.func6, Try.ntmps6
    go_upto_region 3 with fail
    go_wp2_with fail
    refine (HS1.out _ (Upd.refl w)).mono ?_
    rintro e w1 ⟨A7, c7, ls7, rfl, O7, hm7⟩
    have HUa := Lib.hid (unside_o (cp := ls7.length) O7.lsr (by have := HL1.out; rw [← hm7, List.length_map] at this; omega) (by rw [hm7]; exact HT1.out))
    rw [hm7, side_back1] at HUa
    have O7 := Lib.hid O7.fr
    clear hm7
    go_wp2_with fail
    refine HUa.out.mono ?_
    rintro e w2 ⟨A9, A10, rfl, R9, R10, F2⟩
    dsimp only at R9
    have R9 := Lib.hid R9
    have F2 := Lib.hid (show Fresh w w2 from O7.out.trans F2 (fun _ _ h => h))
    clear R10 O7 HUa
    go_upto_region 4 with fail
    go_wp2_with fail
    refine (HS2.out _ F2.out).mono ?_
    rintro e w3 ⟨A8, c8, ls8, rfl, O8, hm8⟩
    have HUb := Lib.hid (unside_o (cp := ls8.length) O8.lsr (by have := HL2.out; rw [← hm8, List.length_map] at this; omega) (by rw [hm8]; exact HT2.out))
    rw [hm8, side_back2] at HUb
    have O8 := Lib.hid O8.fr
    clear hm8
    go_wp2_with fail
    refine HUb.out.mono ?_
    rintro e w4 ⟨A12, A13, rfl, R12, R13, F4⟩
    dsimp only at R13
    have cv9 := arr_conv2 (c := b.length) ((R9.out.upd O8.out (fun _ _ h => h)).upd F4 (fun _ _ h => h))
    have cv13 := arr_conv2 (c := b.length) R13
    have F := Lib.hid (show Fresh w w4 from (F2.out.trans O8.out (fun _ _ h => h)).trans F4 (fun _ _ h => h))
    have cvb := conv_of (c := cb) (H2.out.upd F.out (fun _ _ h => h))
    clear R12 R13 F4 R9 F2 O8 HUb HS1 HS2 HL1 HL2 HT1 HT2 H2
    go_upto_region 7 with fail
    go_wp2_with fail
    go_loopg [15] ls.length (fun gk s15 wx => ∃ k : Nat, gk + k = ls.length ∧ s15 = .int .i64 (k : Int) ∧ Hid (w4 = wx ∧ ∀ j (hj : j < ls.length), j < k → ls[j].k = 1 ∨ ls[j].d = []))
    case atStart => exact ⟨0, rfl, rfl, rfl, fun j hj h => by omega⟩
    case round =>
      obtain ⟨k, hgk, rfl, HK⟩ := hrel
      obtain rfl := HK.out.1
      have HJ := Lib.hid HK.out.2
      clear HK cv9 cv13 cvb
      by_cases hk : k < ls.length
      · obtain ⟨ad, hA, e0, e1⟩ := (H1.out.fresh F.out).at_ hk
        subst hA
        have HK1 := Lib.hid (show (ls[k].k = 1 ∨ ls[k].d = []) → ∀ j (hj : j < ls.length), j < k + 1 → ls[j].k = 1 ∨ ls[j].d = [] from fun h j hj hjk => by
          rcases (show j < k ∨ j = k by omega) with h2 | h2
          · exact HJ.out j hj h2
          · subst h2; exact h)
        generalize ls[k] = x5 at e0 e1 HK1
        obtain ⟨xk, xd, xB, xc⟩ := x5
        dsimp only at e0 e1 HK1
        by_cases hk1 : xk = 1
        · subst hk1
          go_wp2_with fail
          go_roundg (gk - 1)
          case measure => omega
          case rel => exact ⟨k + 1, by omega, by go_num, rfl, HK1.out (by simp)⟩
        · rcases xd with _ | ⟨x0, xt⟩
          · go_wp2_with fail
            go_roundg (gk - 1)
            case measure => omega
            case rel => exact ⟨k + 1, by omega, by go_num, rfl, HK1.out (by simp)⟩
          · have hpos : 0 < (x0 :: xt).length := by simp
            generalize x0 :: xt = d at *
            go_wp2_with fail
            refine (awake_any _).mono ?_
            rintro e w5 ⟨rfl, h5⟩
            go_wp2_with fail
            go_ret
            exact ⟨rfl, F.out.trans h5 (fun _ _ h => h)⟩
      · have HALL := Lib.hid (show ∀ y ∈ ls.map Ln.p, y.1 = 1 ∨ y.2 = [] from fun y hy => by
          obtain ⟨z, hz, rfl⟩ := List.mem_map.1 hy
          obtain ⟨j, hj, rfl⟩ := List.getElem_of_mem hz
          exact HJ.out j hj (by omega))
        have HE := Lib.hid (HEn.out _ F.out)
        have HTo4 := Lib.hid (fun (w9 : World) (hf : Fresh w4 w9) => HTo.out w9 (F.out.trans hf (fun _ _ h => h)))
        clear HJ HEn HTo H1
        have HLn := Lib.hid (show (ls.map Ln.p).length ≤ 1048576 by rw [List.length_map]; exact hn)
        generalize ls.map Ln.p = L at HALL HE HTo4 HTT HLn
        by_cases he : (encL L []).2 = 0
        · have hok := all_ok L he HALL.out
          rw [encL_ok L [] hok, List.nil_append] at HE
          have hol := Nat.le_trans (encs_tot L) HTT.out
          have HC := Lib.hid (cut_back L hok)
          clear he HALL HTT hok
          change Hid (Calls _ _ _ _ (EncO (encs L, 0) w4)) at HE
          generalize encs L = o at HE hol HC
          go_wp2_with fail
          refine HE.out.mono ?_
          rintro e w5 ⟨A16, rfl, G16⟩
          have G16 := Lib.hid G16
          dsimp only at G16
          go_upto_region 15 with fail
          obtain ⟨hm1, hm2⟩ := tmod_in n o.length
          go_cut [18] (fun s18 wx => ∃ q : Nat, q ≤ o.length ∧ s18 = .int .i64 (q : Int) ∧ w5 = wx)
          case first =>
            obtain ⟨m1, hm⟩ : ∃ m1, n.tmod ((o.length : Int) + 1) = m1 := ⟨_, rfl⟩
            rw [hm] at hm1 hm2
            have hq0 := Int.emod_nonneg (m1 + o.length + 1) (show ((o.length : Int) + 1) ≠ 0 by omega)
            have hq1 := Int.emod_lt_of_pos (m1 + o.length + 1) (show 0 < ((o.length : Int) + 1) by omega)
            obtain ⟨q, hq⟩ : ∃ q, (m1 + o.length + 1) % ((o.length : Int) + 1) = q := ⟨_, rfl⟩
            rw [hq] at hq0 hq1
            have HQ := Lib.hid (show (m1 + o.length + 1).tmod ((o.length : Int) + 1) = q by rw [Int.tmod_eq_emod_of_nonneg (by omega), hq])
            clear hq
            have hqt := HQ.out
            go_wp2_with fail
            go_meet
            clear hqt hm
            exact ⟨q.toNat, by omega, by congr 1; omega, rfl⟩
          obtain ⟨q, hq, rfl, rfl⟩ := hcut
          clear hm1 hm2
          obtain ⟨l1, l2, hLL, hd1, hp, hd2, hsum⟩ := HC.out q hq
          generalize (encs l1).length = p at hd1 hp hd2 hsum
          generalize (encs l2).length = p2 at hd2 hsum
          have HLL := Lib.hid hLL
          have HD1 := Lib.hid hd1
          have HD2 := Lib.hid hd2
          clear hLL hd1 hd2 HC
          go_upto_region 16 with fail
          have HRo := Lib.hid (show Reads w5 (fun _ => True) 1 A16 o.length (bv o) from (G16.out.1.reads).weak (fun _ _ => trivial))
          have F5 := Lib.hid (show Fresh w4 w5 from G16.out.2.2)
          clear G16 HE
          have hqi : (q : Int) ≤ (o.length : Int) := by omega
          go_cut [19, 20, 21] (fun s19 s20 s21 wx => ∃ (A19 : Option Addr) (c19 : Nat) (ls19 : List Ln), s19 = .slice A19 ls19.length ls19.length ∧ s20 = .int .i64 (p : Int) ∧ s21 = .int .i64 0 ∧ Hid (OwnL w5 wx A19 c19 ls19 ∧ ls19.map Ln.p = l1))
          case first =>
            rcases A16 with _ | ad
            · obtain rfl : o = [] := List.eq_nil_of_length_eq_zero (HRo.out.zero).1
              obtain rfl : q = 0 := by simpa using hq
              have HC1 := dec_o (A := none) (cp := 0) (b := []) (w := w5) Reads.none_ (by simp) (by simp) (by omega)
              have hd := HD1.out
              rw [List.take_nil] at hd
              rw [hd] at HC1
              have HC1 := Lib.hid HC1
              clear hd
              go_wp2_with fail
              refine HC1.out.mono ?_
              rintro e w6 ⟨A19, c19, ls19, rfl, O9, hm9⟩
              have O9 := Lib.hid O9
              go_wp2_with fail
              go_meet
              exact ⟨A19, c19, ls19, rfl, rfl, rfl, O9.out, hm9⟩
            · have hs := sub_bytes HRo.out 0 q (by omega)
              rw [List.drop_zero] at hs
              have HC1 := dec_o (cp := o.length) (b := o.take q) hs (by simp; omega) (by simp; omega) (by omega)
              rw [HD1.out, List.length_take, Nat.min_eq_left hq] at HC1
              change Calls _ _ #[.slice (some ad) q o.length] w5 _ at HC1
              have HC1 := Lib.hid HC1
              clear hs
              go_wp2_with fail
              refine HC1.out.mono ?_
              rintro e w6 ⟨A19, c19, ls19, rfl, O9, hm9⟩
              have O9 := Lib.hid O9
              go_wp2_with fail
              go_meet
              exact ⟨A19, c19, ls19, rfl, rfl, rfl, O9.out, hm9⟩
          obtain ⟨A19, c19, ls19, rfl, rfl, rfl, HO19⟩ := hcut
          generalize wc = w6 at *
          have HR6 := Lib.hid (HRo.out.upd HO19.out.1.fr (fun _ _ h => h))
          have hpi : (p : Int) ≤ (q : Int) := by omega
          have hpo : (p : Int) ≤ (o.length : Int) := by omega
          go_upto_region 19 with fail
          go_cut [22, 23, 24] (fun s22 s23 s24 wx => ∃ (A22 : Option Addr) (c22 : Nat) (ls22 : List Ln), s22 = .slice A22 ls22.length ls22.length ∧ s23 = .int .i64 (p2 : Int) ∧ s24 = .int .i64 0 ∧ Hid (OwnL w6 wx A22 c22 ls22 ∧ ls22.map Ln.p = l2))
          case first =>
            rcases A16 with _ | ad
            · obtain rfl : o = [] := List.eq_nil_of_length_eq_zero (HRo.out.zero).1
              obtain rfl : p = 0 := by simpa using hpo
              have HC2 := dec_o (A := none) (cp := 0) (b := []) (w := w6) Reads.none_ (by simp) (by simp) (by omega)
              have hd := HD2.out
              rw [List.drop_nil] at hd
              rw [hd] at HC2
              have HC2 := Lib.hid HC2
              clear hd
              go_wp2_with fail
              refine HC2.out.mono ?_
              rintro e w7 ⟨A22, c22, ls22, rfl, O9, hm9⟩
              have O9 := Lib.hid O9
              go_wp2_with fail
              go_meet
              exact ⟨A22, c22, ls22, rfl, rfl, rfl, O9.out, hm9⟩
            · by_cases hpo2 : o.length = p
              · have HC2 := dec_o (A := some ad) (cp := 0) (b := []) (w := w6) ⟨rfl, fun h => absurd h (by simp)⟩ (by simp) (by simp) (by omega)
                have hd := HD2.out
                rw [List.drop_of_length_le (by omega)] at hd
                rw [hd] at HC2
                have HC2 := Lib.hid HC2
                clear hd
                generalize o.length = ol at *
                subst hpo2
                go_wp2_with fail
                refine HC2.out.mono ?_
                rintro e w7 ⟨A22, c22, ls22, rfl, O9, hm9⟩
                have O9 := Lib.hid O9
                go_wp2_with fail
                go_meet
                exact ⟨A22, c22, ls22, rfl, rfl, rfl, O9.out, hm9⟩
              · have hs := sub_bytes HR6.out p (o.length - p) (by omega)
                rw [List.take_of_length_le (by rw [List.length_drop]; exact Nat.le_refl _)] at hs
                have HC2 := dec_o (cp := o.length - p) (b := o.drop p) hs (by simp; omega) (by simp) (by omega)
                rw [HD2.out, List.length_drop] at HC2
                have HC2 := Lib.hid HC2
                clear hs
                go_wp2_with fail
                refine HC2.out.mono ?_
                rintro e w7 ⟨A22, c22, ls22, rfl, O9, hm9⟩
                have O9 := Lib.hid O9
                go_wp2_with fail
                go_meet
                exact ⟨A22, c22, ls22, rfl, rfl, rfl, O9.out, hm9⟩
          obtain ⟨A22, c22, ls22, rfl, rfl, rfl, HO22⟩ := hcut
          generalize wc = w7 at *
          have hlen := congrArg List.length HLL.out
          rw [List.length_append] at hlen
          have hLn := HLn.out
          have HT19 := Lib.hid (to_o (cp := ls19.length) (HO19.out.1.lsr.fresh HO22.out.1.fr) (by have := congrArg List.length HO19.out.2; rw [List.length_map] at this; omega))
          rw [HO19.out.2] at HT19
          have HT22 := Lib.hid (fun (w9 : World) (h9 : Fresh w7 w9) => to_o (cp := ls22.length) (HO22.out.1.lsr.fresh h9) (by have := congrArg List.length HO22.out.2; rw [List.length_map] at this; omega))
          rw [HO22.out.2] at HT22
          have F7 := Lib.hid (show Fresh w4 w7 from (F5.out.trans HO19.out.1.fr (fun _ _ h => h)).trans HO22.out.1.fr (fun _ _ h => h))
          have hl1 : l1.length ≤ 1048576 := by omega
          have hl2 : l2.length ≤ 1048576 := by omega
          have HLE := Lib.hid (show l1.length + l2.length = L.length by omega)
          have hsumI : (p : Int) + (p2 : Int) = (o.length : Int) := by omega
          have hLm : L.length ≤ 9223372036854775807 := by omega
          clear HO19 HO22 HD1 HD2 HR6 HRo F5 hlen hLn HLn hsum
          go_wp2_with fail
          refine HT19.out.mono ?_
          rintro e w8 ⟨A1', c1', rfl, O1⟩
          have O1 := Lib.hid O1
          go_wp2_with fail
          refine (HT22.out _ O1.out.fr).mono ?_
          rintro e w9 ⟨A2', c2', rfl, O2⟩
          have O2 := Lib.hid O2
          go_wp2_with (first
            | (at_builtin
               refine wpList_append_want (by rfl) (.tmp 148) (.tmp 150) 36 rfl 60 i0 _ 2 24 Try.underlying36 hi0 hz0 hz1 hz2 rfl (by omega) (.slice A1' l1.length c1') l1.length (rlcells l1) rfl (O1.out.fresh O2.out.fr).own (fun _ => True) A2' l2.length c2' (rlcells l2) rfl O2.out.rls (rlcells_one _) (by unfold maxLen; omega) (by omega) ?_
               intro A3 d3 wA hown3 hg3 hat3
               rw [← rlcells_append, ← HLL.out] at hown3
               rw [HLE.out] at hown3 ⊢
               have HRL := Lib.hid (show RLs wA A3 L from (Reads.of_own hown3).weak (fun _ _ => trivial))
               have FA := Lib.hid (show Fresh w7 wA from by
                 have hu := (Fresh.to (F := fun i => w7.heap.size ≤ i) (O1.out.fr.trans O2.out.fr (fun _ _ h => h))).grown hg3 (fun i hi _ => O1.out.ab i (by rw [ownBlock_map] at hi; exact hi))
                 exact ⟨hu.os, hu.tape, hu.output, hu.size, fun k hk _ => hu.block k hk (by omega)⟩)
               clear hown3 hg3 hat3))
          refine (HTo4.out _ (F7.out.trans FA.out (fun _ _ h => h))).mono ?_
          rintro e wB ⟨A4, c4, rfl, O4⟩
          have O4 := Lib.hid O4
          go_wp2_with fail
          refine (same_yes (HRL.out.fresh O4.out.fr) O4.out.rls hLm).mono ?_
          rintro e wC ⟨rfl, hC⟩
          have hC := Lib.hid hC
          go_wp2_with fail
          refine (awake_any _).mono ?_
          rintro e wD ⟨rfl, hD⟩
          go_wp2_with fail
          go_ret
          exact ⟨rfl, ((((F.out.trans F7.out (fun _ _ h => h)).trans FA.out (fun _ _ h => h)).trans O4.out.fr (fun _ _ h => h)).trans hC.out (fun _ _ h => h)).trans hD (fun _ _ h => h)⟩
        · have HB := Lib.hid (encL_bad L [] he)
          obtain ⟨e5, he5⟩ : ∃ e5, (encL L []).2 = e5 := ⟨_, rfl⟩
          have hpe : encL L [] = ([], e5) := Prod.ext HB.out he5
          rw [hpe] at HE
          rw [he5] at he
          clear hpe he5 HB HALL
          have he2 : ((e5 : Int) == 0) = false := by simpa using he
          go_wp2_with fail
          refine HE.out.mono ?_
          rintro e w5 ⟨A16, rfl, G16⟩
          have F5 := Lib.hid G16.2.2
          clear G16
          go_wp2_with fail
          refine (awake_any _).mono ?_
          rintro e w6 ⟨rfl, h6⟩
          go_wp2_with fail
          go_ret
          exact ⟨rfl, (F.out.trans F5.out (fun _ _ h => h)).trans h6 (fun _ _ h => h)⟩
end Go.Proofs.Ytgknfbmlljhidaa
