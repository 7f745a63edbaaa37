import Derived.Test.YtiiolpchefldlaaPc
namespace Go.Proofs.Ytiiolpchefldlaa
open Go.RowKit

/-! ### word -/
theorem u64_range (z : Int) : 0 ≤ IntKind.u64.wrap z ∧ IntKind.u64.wrap z < 18446744073709551616 := by
  rw [IntKind.wrap_u64]
  omega
set_option maxHeartbeats 1600000 in
set_option maxRecDepth 100000 in
theorem word_o {A : Option Addr} {c : Nat} {b : List UInt8} {w : World} (h : Sl w A b c) (h16 : 16 ≤ b.length) :
    Calls Try.prog 18 #[.slice A b.length c] w fun e w' => ∃ x : Int, e = .returned (.int .u64 x) ∧ 0 ≤ x ∧ x < 18446744073709551616 ∧ Fresh w w' := by
  obtain ⟨ad, rfl, -⟩ := h.rd.2 (by omega)
  have H := Lib.hid h
  have hcp := h.le
  have hcm := h.cm
  clear h
  go_enter Try.func18, Try.ntmps18
  go_wp2_with fail
  go_loopg [3, 5, 9] 16 (fun gk s3 s5 s9 wx => ∃ (i : Nat) (x : Int), gk + i = 16 ∧ s9 = .int .i64 (i : Int) ∧ s3 = .int .u64 x ∧ 0 ≤ x ∧ x < 18446744073709551616 ∧ w = wx)
  case atStart => exact ⟨0, 14695981039346656037, rfl, rfl, rfl, by omega, by omega, rfl⟩
  case round =>
    obtain ⟨i, x, hgk, rfl, rfl, hx1, hx2, rfl⟩ := hrel
    by_cases hi : i < 16
    · have hc := bytes_at H.out.rd (k := i) (by omega)
      generalize b[i] = y at hc
      go_wp2_with fail
      go_roundg (gk - 1)
      case measure => omega
      case rel => exact ⟨i + 1, _, by omega, by go_num, rfl, (u64_range _).1, (u64_range _).2, rfl⟩
    · go_wp2_with fail
      go_ret
      exact ⟨x, rfl, hx1, hx2, Upd.refl w⟩
/-! ### find -/
theorem take_more {b t : List UInt8} {p i k : Nat} (h : (b.drop p).take k = (t.drop i).take k) (h1 : p + k < b.length) (h2 : i + k < t.length) (he : b[p + k] = t[i + k]) : (b.drop p).take (k + 1) = (t.drop i).take (k + 1) := by
  rw [List.take_add_one, List.take_add_one, h, List.getElem?_drop, List.getElem?_drop, List.getElem?_eq_getElem h1, List.getElem?_eq_getElem h2, he]
theorem back_more {b t : List UInt8} {p i k : Nat} (h : (b.drop (p - k)).take k = (t.drop (i - k)).take k) (hp : k < p) (hi : k < i) (h1 : p - k - 1 < b.length) (h2 : i - k - 1 < t.length) (he : b[p - k - 1] = t[i - k - 1]) : (b.drop (p - (k + 1))).take (k + 1) = (t.drop (i - (k + 1))).take (k + 1) := by
  rw [show p - (k + 1) = p - k - 1 by omega, show i - (k + 1) = i - k - 1 by omega, List.drop_eq_getElem_cons h1, List.drop_eq_getElem_cons h2, List.take_succ_cons, List.take_succ_cons, he, show p - k - 1 + 1 = p - k by omega, show i - k - 1 + 1 = i - k by omega, h]
structure Good (base target : List UInt8) (i wait at_ back n : Nat) : Prop where
  n16 : 16 ≤ n
  r1 : at_ + n ≤ base.length
  r2 : i + n ≤ target.length
  eq : (base.drop at_).take n = (target.drop i).take n
  bw : back ≤ wait
  ba : back ≤ at_
  beq : (base.drop (at_ - back)).take back = (target.drop (i - back)).take back
def FindG (base target : List UInt8) (i wait at_ back n : Nat) : Prop := (n = 0 ∧ back = 0) ∨ Good base target i wait at_ back n
structure Fwd (base target : List UInt8) (p i k : Nat) : Prop where
  r1 : p + k ≤ base.length
  r2 : i + k ≤ target.length
  eq : (base.drop p).take k = (target.drop i).take k
structure Bwd (base target : List UInt8) (p i wait b : Nat) : Prop where
  bw : b ≤ wait
  bp : b ≤ p
  eq : (base.drop (p - b)).take b = (target.drop (i - b)).take b
set_option maxHeartbeats 3200000 in
set_option maxRecDepth 100000 in
theorem find_o {As At Ap : Option Addr} {cs ct cp i wait : Nat} {base target : List UInt8} {ps : List Nat} {w : World} (hb : Sl w As base cs) (ht : Sl w At target ct) (hp : Reads w (fun _ => True) 1 Ap ps.length (nv .i64 ps))
    (hpl : ∀ p ∈ ps, p ≤ base.length) (hi : i ≤ target.length) (hw : wait ≤ i) (hs1 : base.length ≤ 1073741824) (hs2 : target.length ≤ 1073741824) (hs3 : ps.length ≤ 2147483648) :
    Calls Try.prog 19 #[.slice As base.length cs, .slice At target.length ct, .slice Ap ps.length cp, .int .i64 (i : Int), .int .i64 (wait : Int)] w fun e w' => ∃ at_ back n : Nat, e = .returned (.tuple #[.int .i64 (at_ : Int), .int .i64 (back : Int), .int .i64 (n : Int)]) ∧ FindG base target i wait at_ back n ∧ Fresh w w' := by
  have HB := Lib.hid hb
  have HT := Lib.hid ht
  have HP := Lib.hid hp
  have HL := Lib.hid hpl
  clear hb ht hp hpl
  go_enter Try.func19, Try.ntmps19
  go_wp2_with fail
  go_loopg [10, 11, 12, 19] ps.length (fun gk s10 s11 s12 s19 wx => ∃ j at_ back n : Nat, gk + j = ps.length ∧ s19 = .int .i64 (j : Int) ∧ s10 = .int .i64 (at_ : Int) ∧ s11 = .int .i64 (back : Int) ∧ s12 = .int .i64 (n : Int) ∧ Hid (FindG base target i wait at_ back n) ∧ Hid (Fresh w wx))
  case atStart => exact ⟨0, 0, 0, 0, rfl, rfl, rfl, rfl, rfl, .inl ⟨rfl, rfl⟩, Upd.refl w⟩
  case round =>
    obtain ⟨j, at_, back, n, hgk, rfl, rfl, rfl, rfl, HG, HF⟩ := hrel
    by_cases hj : j < ps.length
    · obtain ⟨ap, u, rfl, -, -, hu, hc⟩ := (HP.out.upd HF.out (fun _ _ h => h)).at_ hj
      obtain rfl := nv_at hj hu
      clear hu
      have hpm : nAt ps j ≤ base.length := HL.out _ (by rw [nAt, List.getD, List.getElem?_eq_getElem hj]; exact List.getElem_mem hj)
      generalize nAt ps j = p at hc hpm
      obtain ⟨wO, rfl⟩ : ∃ w', w' = wr := ⟨wr, rfl⟩
      go_wp2_with fail
      go_loopg [15] (base.length - p) (fun gk s15 wx => ∃ k : Nat, gk + (p + k) = base.length ∧ s15 = .int .i64 (k : Int) ∧ Hid (Fwd base target p i k) ∧ Hid (Fresh w wx))
      case atStart => exact ⟨0, by omega, rfl, ⟨by omega, by omega, by simp⟩, HF.out⟩
      case round =>
        obtain ⟨k, hgk2, rfl, HK, HF2⟩ := hrel
        have hbl := HK.out.r1
        have htl := HK.out.r2
        have w1 : IntKind.i64.wrap ((p : Int) + (k : Int)) = (p : Int) + (k : Int) := by rw [IntKind.wrap_i64]; omega
        have w2 : IntKind.i64.wrap ((i : Int) + (k : Int)) = (i : Int) + (k : Int) := by rw [IntKind.wrap_i64]; omega
        have t1 : ((p : Int) + (k : Int)).toNat = p + k := by omega
        have t2 : ((i : Int) + (k : Int)).toNat = i + k := by omega
        have p1 : (0 : Int) ≤ (p : Int) + (k : Int) := by omega
        have p2 : (0 : Int) ≤ (i : Int) + (k : Int) := by omega
        obtain ⟨B, hBt, hBf⟩ : ∃ B : Bool, (B = true → Fwd base target p i (k + 1)) ∧ (B = decide (∃ (h1 : p + k < base.length) (h2 : i + k < target.length), base[p + k] = target[i + k])) := ⟨decide (∃ (h1 : p + k < base.length) (h2 : i + k < target.length), base[p + k] = target[i + k]), fun h => by
          obtain ⟨h1, h2, he⟩ := of_decide_eq_true h
          exact ⟨by omega, by omega, take_more HK.out.eq h1 h2 he⟩, rfl⟩
        go_upto_region 5 with fail
        go_cut [51] (fun s wx => s = .bool B ∧ Hid (Fresh w wx))
        case first =>
          by_cases g1 : p + k < base.length
          · have q1 : (p : Int) + (k : Int) < (base.length : Int) := by omega
            by_cases g2 : i + k < target.length
            · have q2 : (i : Int) + (k : Int) < (target.length : Int) := by omega
              obtain ⟨ab, rfl, -⟩ := HB.out.rd.2 (by omega)
              obtain ⟨at2, rfl, -⟩ := HT.out.rd.2 (by omega)
              have cb := bytes_at (HB.out.fresh HF2.out).rd g1
              have ct := bytes_at (HT.out.fresh HF2.out).rd g2
              by_cases he : base[p + k] = target[i + k]
              · have eB : B = true := by rw [hBf]; exact decide_eq_true ⟨g1, g2, he⟩
                rw [he] at cb
                clear hBf hBt he
                generalize target[i + k] = x at cb ct
                subst eB
                go_quiet (fail)
                go_wp2_with fail
                go_meet
                exact ⟨rfl, HF2.out.drewN _⟩
              · have eB : B = false := by rw [hBf]; exact decide_eq_false (fun ⟨_, _, h⟩ => he h)
                have hne : (((base[p + k]).toNat : Int) == ((target[i + k]).toNat : Int)) = false := by
                  rw [beq_eq_false_iff_ne]
                  intro h
                  exact he (UInt8.toNat_inj.1 (by omega))
                clear hBf hBt he
                generalize target[i + k] = x at ct hne
                generalize base[p + k] = y at cb hne
                subst eB
                go_quiet (fail)
                go_wp2_with fail
                go_meet
                exact ⟨rfl, HF2.out.drewN _⟩
            · have q2 : decide ((i : Int) + (k : Int) < (target.length : Int)) = false := decide_eq_false (by omega)
              have eB : B = false := by rw [hBf]; exact decide_eq_false (fun ⟨_, h, _⟩ => g2 h)
              clear hBf hBt
              subst eB
              go_quiet (fail)
              go_wp2_with fail
              go_meet
              exact ⟨rfl, HF2.out.drewN _⟩
          · have q1 : decide ((p : Int) + (k : Int) < (base.length : Int)) = false := decide_eq_false (by omega)
            have eB : B = false := by rw [hBf]; exact decide_eq_false (fun ⟨h, _⟩ => g1 h)
            clear hBf hBt
            subst eB
            go_quiet (fail)
            go_wp2_with fail
            go_meet
            exact ⟨rfl, HF2.out.drewN _⟩
        clear w1 w2 t1 t2 p1 p2 hBf
        obtain ⟨rfl, F3⟩ := hcut
        rcases B with _ | _
        · clear hBt
          obtain ⟨wP, rfl⟩ : ∃ w', w' = wc := ⟨wc, rfl⟩
          go_wp2_with fail
          go_loopg [16] wait (fun gk s16 wx => ∃ b : Nat, gk + b = wait ∧ s16 = .int .i64 (b : Int) ∧ Hid (Bwd base target p i wait b) ∧ Hid (Fresh w wx))
          case atStart => exact ⟨0, rfl, rfl, ⟨by omega, by omega, by simp⟩, F3.out⟩
          case round =>
            obtain ⟨b, hgk3, rfl, HW, HF4⟩ := hrel
            have hbw := HW.out.bw
            have hbp := HW.out.bp
            obtain ⟨B, hBt, hBf⟩ : ∃ B : Bool, (B = true → Bwd base target p i wait (b + 1)) ∧ (B = decide (b < wait ∧ b < p ∧ ∃ (h1 : p - b - 1 < base.length) (h2 : i - b - 1 < target.length), base[p - b - 1] = target[i - b - 1])) := ⟨decide (b < wait ∧ b < p ∧ ∃ (h1 : p - b - 1 < base.length) (h2 : i - b - 1 < target.length), base[p - b - 1] = target[i - b - 1]), fun h => by
              obtain ⟨g1, g2, h1, h2, he⟩ := of_decide_eq_true h
              exact ⟨by omega, by omega, back_more HW.out.eq g2 (by omega) h1 h2 he⟩, rfl⟩
            go_upto_region 8 with fail
            go_cut [78] (fun s wx => s = .bool B ∧ Hid (Fresh w wx))
            case first =>
              by_cases g1 : b < wait
              · have q1 : (b : Int) < (wait : Int) := by omega
                by_cases g2 : b < p
                · have q2 : (b : Int) < (p : Int) := by omega
                  have w1 : IntKind.i64.wrap ((p : Int) - (b : Int)) = (p : Int) - (b : Int) := by rw [IntKind.wrap_i64]; omega
                  have w2 : IntKind.i64.wrap ((i : Int) - (b : Int)) = (i : Int) - (b : Int) := by rw [IntKind.wrap_i64]; omega
                  have w3 : IntKind.i64.wrap ((p : Int) - (b : Int) - 1) = (p : Int) - (b : Int) - 1 := by rw [IntKind.wrap_i64]; omega
                  have w4 : IntKind.i64.wrap ((i : Int) - (b : Int) - 1) = (i : Int) - (b : Int) - 1 := by rw [IntKind.wrap_i64]; omega
                  have t1 : ((p : Int) - (b : Int) - 1).toNat = p - b - 1 := by omega
                  have t2 : ((i : Int) - (b : Int) - 1).toNat = i - b - 1 := by omega
                  have p1 : (0 : Int) ≤ (p : Int) - (b : Int) - 1 := by omega
                  have p2 : (0 : Int) ≤ (i : Int) - (b : Int) - 1 := by omega
                  have p3 : (p : Int) - (b : Int) - 1 < (base.length : Int) := by omega
                  have p4 : (i : Int) - (b : Int) - 1 < (target.length : Int) := by omega
                  obtain ⟨ab, rfl, -⟩ := HB.out.rd.2 (by omega)
                  obtain ⟨at2, rfl, -⟩ := HT.out.rd.2 (by omega)
                  have g3 : p - b - 1 < base.length := by omega
                  have g4 : i - b - 1 < target.length := by omega
                  have cb := bytes_at (HB.out.fresh HF4.out).rd g3
                  have ct := bytes_at (HT.out.fresh HF4.out).rd g4
                  by_cases he : base[p - b - 1] = target[i - b - 1]
                  · have eB : B = true := by rw [hBf]; exact decide_eq_true ⟨g1, g2, g3, g4, he⟩
                    rw [he] at cb
                    clear hBf hBt he
                    generalize target[i - b - 1] = x at cb ct
                    subst eB
                    go_quiet (fail)
                    go_wp2_with fail
                    go_meet
                    exact ⟨rfl, HF4.out.drewN _⟩
                  · have eB : B = false := by rw [hBf]; exact decide_eq_false (fun ⟨_, _, _, _, h⟩ => he h)
                    have hne : (((base[p - b - 1]).toNat : Int) == ((target[i - b - 1]).toNat : Int)) = false := by
                      rw [beq_eq_false_iff_ne]
                      intro h
                      exact he (UInt8.toNat_inj.1 (by omega))
                    clear hBf hBt he
                    generalize target[i - b - 1] = x at ct hne
                    generalize base[p - b - 1] = y at cb hne
                    subst eB
                    go_quiet (fail)
                    go_wp2_with fail
                    go_meet
                    exact ⟨rfl, HF4.out.drewN _⟩
                · have q2 : decide ((b : Int) < (p : Int)) = false := decide_eq_false (by omega)
                  have eB : B = false := by rw [hBf]; exact decide_eq_false (fun ⟨_, h, _⟩ => g2 h)
                  clear hBf hBt
                  subst eB
                  go_quiet (fail)
                  go_wp2_with fail
                  go_meet
                  exact ⟨rfl, HF4.out.drewN _⟩
              · have q1 : decide ((b : Int) < (wait : Int)) = false := decide_eq_false (by omega)
                have eB : B = false := by rw [hBf]; exact decide_eq_false (fun ⟨h, _⟩ => g1 h)
                clear hBf hBt
                subst eB
                go_quiet (fail)
                go_wp2_with fail
                go_meet
                exact ⟨rfl, HF4.out.drewN _⟩
            clear hBf
            obtain ⟨rfl, F5⟩ := hcut
            rcases B with _ | _
            · clear hBt
              have hbk : back ≤ target.length := by
                rcases HG.out with ⟨_, h⟩ | h
                · omega
                · have := h.bw
                  omega
              have hnn : n ≤ target.length := by
                rcases HG.out with ⟨h, _⟩ | h
                · omega
                · have := h.r2
                  omega
              by_cases g1 : 16 ≤ k
              · have q1 : (16 : Int) ≤ (k : Int) := by omega
                by_cases g2 : back + n < k + b
                · have q2 : (back : Int) + (n : Int) < (k : Int) + (b : Int) := by omega
                  have HGd := Lib.hid (show Good base target i wait p b k from ⟨g1, HK.out.r1, HK.out.r2, HK.out.eq, HW.out.bw, HW.out.bp, HW.out.eq⟩)
                  go_wp2_with fail
                  go_roundg (ps.length - (j + 1))
                  case measure => omega
                  case rel => exact ⟨j + 1, p, b, k, by omega, by go_num, rfl, rfl, rfl, .inr HGd.out, F5.out⟩
                · have q2 : ¬ (back : Int) + (n : Int) < (k : Int) + (b : Int) := by omega
                  go_wp2_with fail
                  go_roundg (ps.length - (j + 1))
                  case measure => omega
                  case rel => exact ⟨j + 1, at_, back, n, by omega, by go_num, rfl, rfl, rfl, HG.out, F5.out⟩
              · have q1 : ¬ (16 : Int) ≤ (k : Int) := by omega
                go_wp2_with fail
                go_roundg (ps.length - (j + 1))
                case measure => omega
                case rel => exact ⟨j + 1, at_, back, n, by omega, by go_num, rfl, rfl, rfl, HG.out, F5.out⟩
            · have hn := hBt rfl
              have := hn.bw
              go_wp2_with fail
              go_roundg (gk - 1)
              case measure => omega
              case rel => exact ⟨b + 1, by omega, by go_num, hn, F5.out⟩
        · have hn := hBt rfl
          have := hn.r1
          go_wp2_with fail
          go_roundg (gk - 1)
          case measure => omega
          case rel => exact ⟨k + 1, by omega, by go_num, hn, F3.out⟩
    · go_wp2_with fail
      go_ret3
      exact ⟨at_, back, n, rfl, HG.out, HF.out⟩
end Go.Proofs.Ytiiolpchefldlaa
