import Derived.Test.YtdflbfkdegkboaaCnk
namespace Go.Proofs.Ytdflbfkdegkboaa
open Go.RowKit

theorem pick2 (p L : Int) (h : 0 < L) (hb : L ≤ 1000) : ∃ k : Nat, (k : Int) < L ∧ (wrap64 (p.tmod L + L)).tmod L = (k : Int) := by
  obtain ⟨n, rfl⟩ := Int.eq_ofNat_of_zero_le (Int.le_of_lt h)
  obtain ⟨k, hk, he⟩ := pick_ p n (by omega)
  have h1 : Int.tmod p n < n := Int.tmod_lt_of_pos p (by omega)
  have h2 : -(n : Int) < Int.tmod p n := Int.lt_tmod_of_pos p (by omega)
  refine ⟨k, by omega, ?_⟩
  rw [IntWalk.wrap64_in _ (by omega)]
  exact he
theorem arr_two {w : World} {B : Option Addr} {n : Nat} {x y : Value} (h : Arr w 5 B n [x, y]) : ∃ g, B = some ⟨g, 0, none⟩ ∧ w.cell? ⟨g, 0, none⟩ = some x ∧ w.cell? ⟨g, 1, none⟩ = some y := by
  have hn : n = 2 := by have := h.1; simpa using this.symm
  subst hn
  obtain ⟨ad, e, _, _, hc⟩ := h.reads.2 (by omega)
  obtain ⟨g, cur, hB, _⟩ := h.2 (by omega)
  rw [hB] at e
  injection e with e
  subst e
  exact ⟨g, hB, hc 0 _ rfl, hc 1 _ rfl⟩
theorem len_q {w0 w : World} {n g q nq : Nat} {ds : List Dg} {A : Option Addr} {c : Nat} (h : CI w0 w n g q ds A c) : Calls Try.prog 7 #[.pointer (some ⟨g, 0, none⟩)] (w.drewN nq) fun e w'' => e = .returned (.int .i64 ds.length) ∧ ∃ m, w'' = w.drewN m :=
  Calls.quiet_of_same ((len_o (h.fresh ((Upd.refl w).drewN nq)).on.nt).mono fun _ _ ⟨a, b⟩ => ⟨a, b.symm⟩)
theorem Try.info3 : (Try.prog.info? 3).map (fun i => (i.zero, i.size, i.bytes)) = some (some (.int .i64 0), 1, 8) := by kernel_rfl

set_option maxHeartbeats 40000000 in
set_option maxRecDepth 100000 in
theorem counts_any (n0 : Int) (A1 A2 : Option Addr) (cap1 cap2 : Nat) (ts ps : List Int) (w : World) (hr1 : Reads w (fun _ => True) 1 A1 ts.length (iv .i64 ts)) (hr2 : Reads w (fun _ => True) 1 A2 ps.length (iv .i64 ps)) (hl1 : ts.length ≤ 9223372036854775807) (hl2 : ps.length ≤ 9223372036854775807) :
    Calls Try.prog 5 #[.int .i64 n0, .slice A1 ts.length cap1, .slice A2 ps.length cap2] w fun e w' => e = .returned (.bool true) ∧ Fresh w w' := by
  have H1 := Lib.hid hr1
  have H2 := Lib.hid hr2
  clear hr1 hr2
  obtain ⟨n, hn⟩ : ∃ n : Nat, bits .and .i64 n0 31 = (n : Int) ∧ n < 32 := by
    have h0 := i64_mask n0 5 (by decide)
    rw [show (2 : Int) ^ 5 - 1 = 31 by decide] at h0
    have := Int.emod_nonneg n0 (b := 2 ^ 5) (by decide)
    have := Int.emod_lt_of_pos n0 (b := 2 ^ 5) (by decide)
    exact ⟨(n0 % 2 ^ 5).toNat, by rw [h0]; omega, by omega⟩
  obtain ⟨hn, hn32⟩ := hn
  go_enter Try.func5, Try.ntmps5
  go_wp2_with fail
  refine (new_yes 64 200 w (by omega) (by omega) (by omega) (by omega)).mono ?_
  rintro e w1 ⟨rfl, hn, hf⟩
  have H3 := Lib.hid (ON.mk hn hf (Nat.le_refl _) (AB.none_ w) : ON w w1 w.heap.size 64 200 0 [] none 0)
  generalize w.heap.size = g at H3 ⊢
  clear hn hf
  obtain ⟨i0, hi0, hz0, hz1, hz2⟩ := info_parts Try.info3
  have hmk : ∀ W : World, (Instr.makeSlice 22 (.int .i64 32) (.int .i64 32)).run Try.prog W = .ok (.slice (some ⟨W.heap.size, 0, none⟩) 32 32) (W.alloc (.cells (madeCells #[.int .i64 0] 32) 3)) := by
    intro W
    have h1 := run_make (P := Try.prog) W 22 3 i0 (.int .i64 0) Try.underlying22 hi0 hz0 .i64 .i64 32 32 (by omega) (Int.le_refl _) (by rw [hz2]; omega) (by omega)
    have h2 : (Value.int .i64 0).cells = #[.int .i64 0] := rfl
    rw [hz1, h2] at h1
    simpa using h1
  go_wp2_with fail
  have H4 : Hid (CI w (w1.alloc (.cells (madeCells #[.int .i64 0] 32) 3)) n g w1.heap.size [] none 0) := by
    refine ⟨H3.out.fresh ((Upd.refl w1).alloc _), ?_, H3.out.fr.size, fun d hd => by cases hd⟩
    have hb := Blk.new w1 3 (madeCells #[.int .i64 0] 32)
    have e : madeCells #[.int .i64 0] 32 = (cl []).toArray := by
      apply Array.ext'
      rw [toList_madeCells_one]
      rfl
    rw [← e]
    exact hb
  generalize hq : w1.heap.size = q at H4 ⊢
  clear hq H3
  go_wp2_with fail
  go_loopg [10] n (fun gk s10 wx => ∃ (i : Nat) (ds : List Dg) (A : Option Addr) (c : Nat), gk + i = n ∧ s10 = .int .i64 (i : Int) ∧ CI w wx n g q ds A c ∧ ds.length = i)
  case atStart => exact ⟨0, [], none, 0, rfl, rfl, H4.out, rfl⟩
  case round =>
    obtain ⟨i, ds, A, c, hgk, rfl, h, hlen⟩ := hrel
    have H := Lib.hid h
    clear h
    by_cases hin : i < n
    · go_wp2_with fail
      have HM := Lib.hid (H.out.fresh ((Upd.refl wr).alloc (F := fun _ => False) (.cells #[.int .u8 (i : Int), .int .u8 (3 * (i : Int))] 5)))
      refine (send_yes HM.out.on (i : Int) ((i : Int) + 1) _ [UInt8.ofNat i, UInt8.ofNat (3 * i)] 2 (by omega) (by omega) (by simp) (by omega) (by omega) (by omega) (by exact reads_two wr (by omega)) (fun h => by cases h)).mono ?_
      rintro e w5 ⟨rfl, d5, A5, c5, e1, e2, e3, _, h5, u5⟩
      have HU := Lib.hid (HM.out.keep u5)
      have hc5 := HU.out.cell i
      rw [cl_at ds (by omega)] at hc5
      have hk5 := cnt_le ds i
      have HX := Lib.hid (HM.out.up u5 h5 (Ok.mk (n := n) hin e1 e2 e3) rfl)
      have hz5 := HU.out.frozen i
      clear h5 u5 e1 e2 e3 HM HU
      go_wp2_with fail
      go_roundg (gk - 1)
      case measure => omega
      case rel => exact ⟨i + 1, _, _, _, by omega, by go_num, HX.out, by simp [hlen]⟩
    · obtain rfl : i = n := by omega
      go_wp2_with fail
      go_loopg [11] 20 (fun gk s11 wx => ∃ (j : Nat) (ds : List Dg) (A : Option Addr) (c : Nat), gk + j = 20 ∧ s11 = .int .i64 (j : Int) ∧ CI w wx i g q ds A c ∧ ds.length = i + j)
      case atStart => exact ⟨0, _, _, _, rfl, rfl, H.out, hlen⟩
      case round =>
        clear H hlen hgk
        obtain ⟨j, ds, A, c, hgk, rfl, h, hlen⟩ := hrel
        have H := Lib.hid h
        clear h
        by_cases hjn : j < ts.length
        · by_cases hj20 : j < 20
          · by_cases hi0 : 0 < i
            · obtain ⟨ad, u, rfl, _, _, hu, hcell⟩ := (H1.out.upd H.out.on.fr (fun _ _ h => h)).at_ (k := j) hjn
              obtain rfl := iv_at hjn hu
              clear hu
              generalize zAt ts j = p at hcell
              have hn0 : ((ds.length : Int) == 0) = false := beq_eq_false_iff_ne.2 (by omega)
              go_wp2_with fail
              go_quiet ((go_at_call 7; exact len_q H.out))
              obtain ⟨k, hkl, hke⟩ := pick2 p ((i : Int) + (j : Int)) (by omega) (by omega)
              rw [hke]
              clear hke hn0
              have hkl : k < ds.length := by omega
              obtain ⟨f, hok⟩ := H.out.ok ds[k] (List.getElem_mem _)
              have HQ := Lib.hid (H.out.fresh ((Upd.refl wr).drewN (F := fun _ => False) nq))
              go_wp2_with fail
              refine (at_yes HQ.out.on k hkl (by omega)).mono ?_
              rintro e w5 ⟨B5, rfl, _, _, u5⟩
              have H5 := Lib.hid (HQ.out.fresh u5)
              clear u5 HQ
              rw [hok.frm]
              have hfi := hok.lt
              go_wp2_with fail
              refine (twice_yes H5.out.on k hkl (by omega) (by omega)).mono ?_
              rintro e w7 ⟨rfl, A7, c7, h7, u7⟩
              have HU := Lib.hid (H5.out.keep u7)
              have hc7 := HU.out.cell f
              rw [cl_at ds (by omega)] at hc7
              have hk7 := cnt_le ds f
              have hz7 := HU.out.frozen f
              have HX := Lib.hid (H5.out.up u7 h7 hok rfl)
              clear h7 u7 HU H5
              go_wp2_with fail
              go_roundg (gk - 1)
              case measure => omega
              case rel => exact ⟨j + 1, _, _, _, by omega, by go_num, HX.out, by simp; omega⟩
            · have hi0 : i = 0 := by omega
              subst hi0
              go_wp2_with fail
              go_loopg [17] ds.length (fun gk s17 wx => ∃ (m : Nat) (ds : List Dg) (A : Option Addr) (c : Nat), gk = ds.length ∧ m + ds.length ≤ 60 ∧ s17 = .int .i64 (m : Int) ∧ CI w wx 0 g q ds A c)
              case atStart => exact ⟨0, _, _, _, rfl, by omega, rfl, H.out⟩
              case round =>
                clear H hlen hgk
                obtain ⟨m, ds, A, c, hgk, hm, rfl, h⟩ := hrel
                have H := Lib.hid h
                clear h
                by_cases hds : 0 < ds.length
                · go_wp2_with fail
                  refine (len_o H.out.on.nt).mono ?_
                  rintro e w4 ⟨rfl, rfl⟩
                  have hds2 : (0 : Int) < (ds.length : Int) := by omega
                  by_cases hmp : m < ps.length
                  · obtain ⟨ad2, u2, hA2, _, _, hu2, hcell2⟩ := (H2.out.upd H.out.on.fr (fun _ _ h => h)).at_ (k := m) hmp
                    subst hA2
                    obtain rfl := iv_at hmp hu2
                    clear hu2
                    generalize zAt ps m = p at hcell2
                    have hn0 : ((ds.length : Int) == 0) = false := beq_eq_false_iff_ne.2 (by omega)
                    go_wp2_with fail
                    go_quiet ((go_at_call 7; exact len_q H.out))
                    obtain ⟨k, hkl, hke⟩ := pick2 p (ds.length : Int) (by omega) (by omega)
                    rw [hke]
                    clear hke hn0
                    have hkl : k < ds.length := by omega
                    obtain ⟨f, hok⟩ := H.out.ok ds[k] (List.getElem_mem _)
                    have HQ := Lib.hid (H.out.fresh ((Upd.refl wr).drewN (F := fun _ => False) nq))
                    exact absurd hok.lt (Nat.not_lt_zero _)
                  · go_wp2_with fail
                    obtain ⟨k, hk0⟩ : ∃ k : Nat, k = 0 := ⟨0, rfl⟩
                    have hkl : k < ds.length := by omega
                    obtain ⟨f, hok⟩ := H.out.ok ds[k] (List.getElem_mem _)
                    have HQ := H
                    rw [show (0 : Int) = (k : Int) by omega]
                    exact absurd hok.lt (Nat.not_lt_zero _)
                · obtain rfl : ds = [] := List.eq_nil_of_length_eq_zero (by omega)
                  go_wp2_with fail
                  refine (len_o H.out.on.nt).mono ?_
                  rintro e w4 ⟨rfl, rfl⟩
                  go_wp2_with fail
                  go_loopg [23] 32 (fun gk s23 wx => ∃ m : Nat, gk + m = 32 ∧ s23 = .int .i64 (m : Int) ∧ wx = wr)
                  case atStart => exact ⟨0, rfl, rfl, rfl⟩
                  case round =>
                    obtain ⟨m, hgk, rfl, rfl⟩ := hrel
                    by_cases hm : m < 32
                    · have hc := H.out.cb.cell m
                      rw [cl_at [] hm, cnt_nil] at hc
                      go_wp2_with fail
                      go_roundg (gk - 1)
                      case measure => omega
                      case rel => exact ⟨m + 1, by omega, by go_num, rfl⟩
                    · go_wp2_with fail
                      refine (awake_any _).mono ?_
                      rintro e w6 ⟨rfl, u6⟩
                      have HF := Lib.hid (H.out.fresh u6)
                      go_wp2_with fail
                      go_ret
                      exact ⟨rfl, HF.out.on.fr⟩
          · go_wp2_with fail
            go_loopg [17] ds.length (fun gk s17 wx => ∃ (m : Nat) (ds : List Dg) (A : Option Addr) (c : Nat), gk = ds.length ∧ m + ds.length ≤ 60 ∧ s17 = .int .i64 (m : Int) ∧ CI w wx i g q ds A c)
            case atStart => exact ⟨0, _, _, _, rfl, by omega, rfl, H.out⟩
            case round =>
              clear H hlen hgk
              obtain ⟨m, ds, A, c, hgk, hm, rfl, h⟩ := hrel
              have H := Lib.hid h
              clear h
              by_cases hds : 0 < ds.length
              · go_wp2_with fail
                refine (len_o H.out.on.nt).mono ?_
                rintro e w4 ⟨rfl, rfl⟩
                have hds2 : (0 : Int) < (ds.length : Int) := by omega
                by_cases hmp : m < ps.length
                · obtain ⟨ad2, u2, hA2, _, _, hu2, hcell2⟩ := (H2.out.upd H.out.on.fr (fun _ _ h => h)).at_ (k := m) hmp
                  subst hA2
                  obtain rfl := iv_at hmp hu2
                  clear hu2
                  generalize zAt ps m = p at hcell2
                  have hn0 : ((ds.length : Int) == 0) = false := beq_eq_false_iff_ne.2 (by omega)
                  go_wp2_with fail
                  go_quiet ((go_at_call 7; exact len_q H.out))
                  obtain ⟨k, hkl, hke⟩ := pick2 p (ds.length : Int) (by omega) (by omega)
                  rw [hke]
                  clear hke hn0
                  have hkl : k < ds.length := by omega
                  obtain ⟨f, hok⟩ := H.out.ok ds[k] (List.getElem_mem _)
                  have HQ := Lib.hid (H.out.fresh ((Upd.refl wr).drewN (F := fun _ => False) nq))
                  go_wp2_with fail
                  refine (take_yes HQ.out.on k hkl (by omega)).mono ?_
                  rintro e w5 ⟨B5, rfl, ha5, _, h5, u5⟩
                  have HU := Lib.hid (HQ.out.keep u5)
                  have hc5 := HU.out.cell f
                  rw [cl_at ds (by have := hok.lt; omega)] at hc5
                  have hz5 := HU.out.frozen f
                  have hk5 := cnt_le ds f
                  have HX := Lib.hid (HQ.out.down hkl u5 h5 hok rfl)
                  have hlen5 : (ds.take k ++ ds.drop (k + 1)).length = ds.length - 1 := by simp; omega
                  clear h5 u5 HU HQ
                  rw [hok.b, two_bytes (by have := hok.lt; omega)] at ha5
                  rw [hok.frm, hok.to_, hok.b]
                  have hfi := hok.lt
                  obtain ⟨ad5, rfl, hb0, hb1⟩ := arr_two ha5
                  clear ha5
                  go_wp2_with fail
                  go_roundg (gk - 1)
                  case measure => omega
                  case rel => exact ⟨m + 1, _, _, _, by omega, by omega, by go_num, HX.out⟩
                · go_wp2_with fail
                  obtain ⟨k, hk0⟩ : ∃ k : Nat, k = 0 := ⟨0, rfl⟩
                  have hkl : k < ds.length := by omega
                  obtain ⟨f, hok⟩ := H.out.ok ds[k] (List.getElem_mem _)
                  have HQ := H
                  rw [show (0 : Int) = (k : Int) by omega]
                  go_wp2_with fail
                  refine (take_yes HQ.out.on k hkl (by omega)).mono ?_
                  rintro e w5 ⟨B5, rfl, ha5, _, h5, u5⟩
                  have HU := Lib.hid (HQ.out.keep u5)
                  have hc5 := HU.out.cell f
                  rw [cl_at ds (by have := hok.lt; omega)] at hc5
                  have hz5 := HU.out.frozen f
                  have hk5 := cnt_le ds f
                  have HX := Lib.hid (HQ.out.down hkl u5 h5 hok rfl)
                  have hlen5 : (ds.take k ++ ds.drop (k + 1)).length = ds.length - 1 := by simp; omega
                  clear h5 u5 HU HQ
                  rw [hok.b, two_bytes (by have := hok.lt; omega)] at ha5
                  rw [hok.frm, hok.to_, hok.b]
                  have hfi := hok.lt
                  obtain ⟨ad5, rfl, hb0, hb1⟩ := arr_two ha5
                  clear ha5
                  go_wp2_with fail
                  go_roundg (gk - 1)
                  case measure => omega
                  case rel => exact ⟨m + 1, _, _, _, by omega, by omega, by go_num, HX.out⟩
              · obtain rfl : ds = [] := List.eq_nil_of_length_eq_zero (by omega)
                go_wp2_with fail
                refine (len_o H.out.on.nt).mono ?_
                rintro e w4 ⟨rfl, rfl⟩
                go_wp2_with fail
                go_loopg [23] 32 (fun gk s23 wx => ∃ m : Nat, gk + m = 32 ∧ s23 = .int .i64 (m : Int) ∧ wx = wr)
                case atStart => exact ⟨0, rfl, rfl, rfl⟩
                case round =>
                  obtain ⟨m, hgk, rfl, rfl⟩ := hrel
                  by_cases hm : m < 32
                  · have hc := H.out.cb.cell m
                    rw [cl_at [] hm, cnt_nil] at hc
                    go_wp2_with fail
                    go_roundg (gk - 1)
                    case measure => omega
                    case rel => exact ⟨m + 1, by omega, by go_num, rfl⟩
                  · go_wp2_with fail
                    refine (awake_any _).mono ?_
                    rintro e w6 ⟨rfl, u6⟩
                    have HF := Lib.hid (H.out.fresh u6)
                    go_wp2_with fail
                    go_ret
                    exact ⟨rfl, HF.out.on.fr⟩
        · go_wp2_with fail
          go_loopg [17] ds.length (fun gk s17 wx => ∃ (m : Nat) (ds : List Dg) (A : Option Addr) (c : Nat), gk = ds.length ∧ m + ds.length ≤ 60 ∧ s17 = .int .i64 (m : Int) ∧ CI w wx i g q ds A c)
          case atStart => exact ⟨0, _, _, _, rfl, by omega, rfl, H.out⟩
          case round =>
            clear H hlen hgk
            obtain ⟨m, ds, A, c, hgk, hm, rfl, h⟩ := hrel
            have H := Lib.hid h
            clear h
            by_cases hds : 0 < ds.length
            · go_wp2_with fail
              refine (len_o H.out.on.nt).mono ?_
              rintro e w4 ⟨rfl, rfl⟩
              have hds2 : (0 : Int) < (ds.length : Int) := by omega
              by_cases hmp : m < ps.length
              · obtain ⟨ad2, u2, hA2, _, _, hu2, hcell2⟩ := (H2.out.upd H.out.on.fr (fun _ _ h => h)).at_ (k := m) hmp
                subst hA2
                obtain rfl := iv_at hmp hu2
                clear hu2
                generalize zAt ps m = p at hcell2
                have hn0 : ((ds.length : Int) == 0) = false := beq_eq_false_iff_ne.2 (by omega)
                go_wp2_with fail
                go_quiet ((go_at_call 7; exact len_q H.out))
                obtain ⟨k, hkl, hke⟩ := pick2 p (ds.length : Int) (by omega) (by omega)
                rw [hke]
                clear hke hn0
                have hkl : k < ds.length := by omega
                obtain ⟨f, hok⟩ := H.out.ok ds[k] (List.getElem_mem _)
                have HQ := Lib.hid (H.out.fresh ((Upd.refl wr).drewN (F := fun _ => False) nq))
                go_wp2_with fail
                refine (take_yes HQ.out.on k hkl (by omega)).mono ?_
                rintro e w5 ⟨B5, rfl, ha5, _, h5, u5⟩
                have HU := Lib.hid (HQ.out.keep u5)
                have hc5 := HU.out.cell f
                rw [cl_at ds (by have := hok.lt; omega)] at hc5
                have hz5 := HU.out.frozen f
                have hk5 := cnt_le ds f
                have HX := Lib.hid (HQ.out.down hkl u5 h5 hok rfl)
                have hlen5 : (ds.take k ++ ds.drop (k + 1)).length = ds.length - 1 := by simp; omega
                clear h5 u5 HU HQ
                rw [hok.b, two_bytes (by have := hok.lt; omega)] at ha5
                rw [hok.frm, hok.to_, hok.b]
                have hfi := hok.lt
                obtain ⟨ad5, rfl, hb0, hb1⟩ := arr_two ha5
                clear ha5
                go_wp2_with fail
                go_roundg (gk - 1)
                case measure => omega
                case rel => exact ⟨m + 1, _, _, _, by omega, by omega, by go_num, HX.out⟩
              · go_wp2_with fail
                obtain ⟨k, hk0⟩ : ∃ k : Nat, k = 0 := ⟨0, rfl⟩
                have hkl : k < ds.length := by omega
                obtain ⟨f, hok⟩ := H.out.ok ds[k] (List.getElem_mem _)
                have HQ := H
                rw [show (0 : Int) = (k : Int) by omega]
                go_wp2_with fail
                refine (take_yes HQ.out.on k hkl (by omega)).mono ?_
                rintro e w5 ⟨B5, rfl, ha5, _, h5, u5⟩
                have HU := Lib.hid (HQ.out.keep u5)
                have hc5 := HU.out.cell f
                rw [cl_at ds (by have := hok.lt; omega)] at hc5
                have hz5 := HU.out.frozen f
                have hk5 := cnt_le ds f
                have HX := Lib.hid (HQ.out.down hkl u5 h5 hok rfl)
                have hlen5 : (ds.take k ++ ds.drop (k + 1)).length = ds.length - 1 := by simp; omega
                clear h5 u5 HU HQ
                rw [hok.b, two_bytes (by have := hok.lt; omega)] at ha5
                rw [hok.frm, hok.to_, hok.b]
                have hfi := hok.lt
                obtain ⟨ad5, rfl, hb0, hb1⟩ := arr_two ha5
                clear ha5
                go_wp2_with fail
                go_roundg (gk - 1)
                case measure => omega
                case rel => exact ⟨m + 1, _, _, _, by omega, by omega, by go_num, HX.out⟩
            · obtain rfl : ds = [] := List.eq_nil_of_length_eq_zero (by omega)
              go_wp2_with fail
              refine (len_o H.out.on.nt).mono ?_
              rintro e w4 ⟨rfl, rfl⟩
              go_wp2_with fail
              go_loopg [23] 32 (fun gk s23 wx => ∃ m : Nat, gk + m = 32 ∧ s23 = .int .i64 (m : Int) ∧ wx = wr)
              case atStart => exact ⟨0, rfl, rfl, rfl⟩
              case round =>
                obtain ⟨m, hgk, rfl, rfl⟩ := hrel
                by_cases hm : m < 32
                · have hc := H.out.cb.cell m
                  rw [cl_at [] hm, cnt_nil] at hc
                  go_wp2_with fail
                  go_roundg (gk - 1)
                  case measure => omega
                  case rel => exact ⟨m + 1, by omega, by go_num, rfl⟩
                · go_wp2_with fail
                  refine (awake_any _).mono ?_
                  rintro e w6 ⟨rfl, u6⟩
                  have HF := Lib.hid (H.out.fresh u6)
                  go_wp2_with fail
                  go_ret
                  exact ⟨rfl, HF.out.on.fr⟩
end Go.Proofs.Ytdflbfkdegkboaa
