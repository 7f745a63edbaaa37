import Derived.Test.YtiiolpchefldlaaNd
namespace Go.Proofs.Ytiiolpchefldlaa
open Go.RowKit

/-! ### The document's number -/
def rnumS (b : List UInt8) : Nat × Nat × Nat := ((numDS b).1, if (numDS b).2.2 = 0 then b.length - (numDS b).2.1.length else 0, (numDS b).2.2)
def RDecO (r : Nat × Nat × Nat) (w : World) (e : Ending) (w' : World) : Prop := e = .returned (.tuple #[.int .i64 (r.1 : Int), .int .i64 (r.2.1 : Int), .int .i64 (r.2.2 : Int)]) ∧ Fresh w w'
set_option maxHeartbeats 1600000 in
set_option maxRecDepth 100000 in
theorem rdecn_o {A : Option Addr} {c : Nat} {b : List UInt8} {w : World} (h : Sl w A b c) : Calls Try.prog 23 #[.slice A b.length c] w (RDecO (rnumS b) w) := by
  have H := Lib.hid h
  have hle := h.le
  have hcm := h.cm
  clear h
  go_enter Try.func23, Try.ntmps23
  go_wp2_with fail
  go_loopg [5, 6] 5 (fun gk s5 s6 wx => ∃ i v : Nat, gk + i = 5 ∧ s6 = .int .i64 (i : Int) ∧ s5 = .int .i64 (v : Int) ∧ Hid (DAt b i v) ∧ w = wx)
  case atStart => exact ⟨0, 0, rfl, rfl, rfl, DAt.start b, rfl⟩
  case round =>
    obtain ⟨i, v, hgk, rfl, rfl, HD, rfl⟩ := hrel
    by_cases hi : i < 5
    · by_cases hb : b.length ≤ i
      · have HX := Lib.hid (HD.out.short hi hb)
        go_wp2_with fail
        go_ret3
        rw [rnumS, HX.out]
        exact ⟨rfl, Upd.refl w⟩
      · obtain ⟨ad, hA, -⟩ := H.out.rd.2 (by omega)
        subst hA
        have hib : i < b.length := by omega
        have hc := bytes_at H.out.rd hib
        have HL := Lib.hid (HD.out.last hi hib)
        have HNx := Lib.hid (HD.out.next hi hib)
        have hv : v < 34359738368 := by
          have h1 := HD.out.lt
          have h2 : 2 ^ (7 * i) ≤ 2 ^ 28 := Nat.pow_le_pow_right (by decide) (by omega)
          omega
        have HV := Lib.hid HD.out.lt
        generalize b[i] = x at hc HL HNx
        have hlow := u8_low7 x
        have hy : x.toNat % 128 < 128 := Nat.mod_lt _ (by decide)
        generalize hyy : x.toNat % 128 = y at hlow hy HL HNx
        have z1 : (i : Int) < (b.length : Int) := by omega
        have z0 : (0 : Int) ≤ (i : Int) := by omega
        go_upto_region 7 with fail
        go_cut [5] (fun s5 wx => s5 = .int .i64 ((v + y * 2 ^ (7 * i) : Nat) : Int) ∧ w = wx)
        case first =>
          have hor := i64_or_high v y (7 * i) HV.out (by
            have h2 : 2 ^ (7 * i) ≤ 2 ^ 28 := Nat.pow_le_pow_right (by decide) (by omega)
            have h3 : y * 2 ^ (7 * i) ≤ 127 * 2 ^ 28 := Nat.mul_le_mul (by omega) h2
            omega)
          have z2 : 0 ≤ 7 * (i : Int) := by omega
          have z3 : 7 * (i : Int) < 64 := by omega
          have z4 : (7 * (i : Int)).toNat = 7 * i := by omega
          have hsm : y * 2 ^ (7 * i) ≤ 127 * 2 ^ 28 := by
            have h2 : 2 ^ (7 * i) ≤ 2 ^ 28 := Nat.pow_le_pow_right (by decide) (by omega)
            exact Nat.mul_le_mul (by omega) h2
          have hw : wrap64 ((y : Int) * 2 ^ (7 * i)) = ((y * 2 ^ (7 * i) : Nat) : Int) := by
            rw [show ((y : Int) * 2 ^ (7 * i)) = ((y * 2 ^ (7 * i) : Nat) : Int) by simp]
            generalize y * 2 ^ (7 * i) = z at hsm
            have := IntKind.wrap_i64 (z : Int)
            unfold wrap64
            omega
          obtain ⟨z, hz⟩ : ∃ z, y * 2 ^ (7 * i) = z := ⟨_, rfl⟩
          rw [hz] at hw hsm
          have hz2 : z ≤ 34091302912 := Nat.le_trans hsm (by decide)
          have HW := Lib.hid (show wrap64 ((v : Int) + wrap64 ((y : Int) * 2 ^ (7 * i))) = ((v + y * 2 ^ (7 * i) : Nat) : Int) by
            rw [hw, hz]
            clear hw hz hor z4 HV
            unfold wrap64
            omega)
          clear hz hz2
          clear hw hor hsm
          go_wp2_with fail
          go_meet
          exact ⟨by rw [HW.out], rfl⟩
        obtain ⟨rfl, rfl⟩ := hcut
        clear hlow hyy
        have hV : v + y * 2 ^ (7 * i) < 70000000000 := by
          have h2 : 2 ^ (7 * i) ≤ 2 ^ 28 := Nat.pow_le_pow_right (by decide) (by omega)
          have h3 : y * 2 ^ (7 * i) ≤ 127 * 2 ^ 28 := Nat.mul_le_mul (by omega) h2
          omega
        generalize v + y * 2 ^ (7 * i) = V at HL HNx hV ⊢
        by_cases hx : x.toNat < 128
        · have HX := Lib.hid (HL.out hx)
          have hxI : (x.toNat : Int) < 128 := by omega
          by_cases hbig : 2147483647 < V
          · have HX := Lib.hid (HX.out.trans (if_pos hbig))
            have hbigI : (2147483647 : Int) < (V : Int) := by omega
            clear hbig HL HNx
            go_wp2_with fail
            go_ret3
            rw [rnumS, HX.out]
            exact ⟨rfl, Upd.refl w⟩
          · have HX := Lib.hid (HX.out.trans (if_neg hbig))
            have hbigI : (V : Int) ≤ 2147483647 := by omega
            clear hbig HL HNx hV hv
            have HDL := Lib.hid (show b.length - (b.drop (i + 1)).length = i + 1 by rw [List.length_drop]; omega)
            go_wp2_with fail
            go_ret3
            rw [rnumS, HX.out]
            refine ⟨?_, Upd.refl w⟩
            dsimp only
            rw [if_pos rfl, HDL.out]
            rfl
        · have HX := Lib.hid (HNx.out hx)
          have hxI : ¬ (x.toNat : Int) < 128 := by omega
          go_wp2_with fail
          go_roundg (gk - 1)
          case measure => omega
          case rel => exact ⟨i + 1, V, by omega, by go_num, rfl, HX.out, rfl⟩
    · have HX := Lib.hid (HD.out.long (by omega))
      go_wp2_with fail
      go_ret3
      rw [rnumS, HX.out]
      exact ⟨rfl, Upd.refl w⟩
end Go.Proofs.Ytiiolpchefldlaa
