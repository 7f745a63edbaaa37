import Derived.Test.YtdflbfkdegkboaaAll
import Derived.Deep.CutBlock
namespace Go.Proofs.Ytdflbfkdegkboaa
open Go.RowKit

def mOf (k : Nat) (z : Int) : Nat := (z % 2 ^ k).toNat
theorem mask_of (k : Nat) (hk : k ≤ 62) (z m : Int) (hm : m = 2 ^ k - 1) : bits .and .i64 z m = (mOf k z : Int) := by
  have hp : (0 : Int) < 2 ^ k := by exact Int.pow_pos (by decide)
  have h0 := Int.emod_nonneg z (Int.ne_of_gt hp)
  rw [hm, i64_mask z k hk, mOf]
  omega
theorem mOf_lt (k : Nat) (z : Int) : mOf k z < 2 ^ k := by
  have hp : (0 : Int) < 2 ^ k := by exact Int.pow_pos (by decide)
  have h0 := Int.emod_nonneg z (Int.ne_of_gt hp)
  have h1 := Int.emod_lt_of_pos z hp
  have h2 : ((2 ^ k : Nat) : Int) = (2 : Int) ^ k := by simp
  unfold mOf
  omega
theorem zero_bytes (w : World) (n : Nat) : Reads (w.alloc (.cells (madeCells #[.int .u8 0] n) 5)) (fun _ => True) 1 (some ⟨w.heap.size, 0, none⟩) (List.replicate n (0 : UInt8)).length (bv (List.replicate n 0)) := by
  have h := reads_new w (madeCells #[.int .u8 0] n) 5 1 n (by simp [madeCells])
  rw [toList_madeCells_one] at h
  have e : bv (List.replicate n 0) = List.replicate n (Value.int .u8 0) := by simp [bv]
  rw [e, List.length_replicate]
  exact h

theorem read_at {w : World} {ad : Addr} {zs : List Int} (h : Reads w (fun _ => True) 1 (some ad) zs.length (iv .i64 zs)) {i : Nat} (hi : i < zs.length) : w.cell? (ad.add i) = some (.int .i64 (zAt zs i)) := by
  obtain ⟨ad', u, e, _, _, hu, hc⟩ := h.at_ hi
  injection e with e
  subst e
  rw [hc, iv_at hi hu]

/-- A net, some datagrams lost. -/
def BX (w0 w : World) (g M K i L : Nat) : Prop := L ≤ i ∧ ∃ ds A c, ON w0 w g M K L ds A c ∧ ds.length ≤ K
set_option maxHeartbeats 4000000 in
set_option maxRecDepth 100000 in
theorem bounds_any (A0 : Option Addr) (cap0 : Nat) (zs : List Int) (mtu most : Int) (w : World) (hr : Reads w (fun _ => True) 1 A0 zs.length (iv .i64 zs)) (hl : zs.length ≤ 9223372036854775807) :
    Calls Try.prog 3 #[.int .i64 mtu, .int .i64 most, .slice A0 zs.length cap0] w fun e w' => e = .returned (.bool true) ∧ Fresh w w' := by
  obtain ⟨i0, hi0, hz0, hz1, hz2⟩ := info_parts Try.info5
  have HZ := Lib.hid hr
  clear hr
  obtain ⟨M, hM⟩ : ∃ M : Nat, M = 64 + mOf 10 mtu := ⟨_, rfl⟩
  obtain ⟨K, hK⟩ : ∃ K : Nat, K = 1 + mOf 4 most := ⟨_, rfl⟩
  have m1 := mask_of 10 (by decide) mtu 1023 (by decide)
  have m2 := mask_of 4 (by decide) most 15 (by decide)
  have l1 := mOf_lt 10 mtu
  have l2 := mOf_lt 4 most
  have hM1 : 64 ≤ M ∧ M ≤ 1087 := by omega
  have hK1 : 1 ≤ K ∧ K ≤ 16 := by omega
  have HM0 := Lib.hid hM
  have HK0 := Lib.hid hK
  obtain ⟨hM1, hM2⟩ := hM1
  obtain ⟨hK1, hK2⟩ := hK1
  clear hM hK
  go_enter Try.func3, Try.ntmps3
  go_upto_region 1 with fail
  go_cut [0, 1] (fun s0 s1 wx => w = wx ∧ s0 = .int .i64 (M : Int) ∧ s1 = .int .i64 (K : Int))
  case first =>
    go_wp2_with fail
    go_meet
    exact ⟨rfl, by rw [HM0.out]; go_num, by rw [HK0.out]; go_num⟩
  obtain ⟨rfl, rfl, rfl⟩ := hcut
  clear m1 m2 l1 l2
  go_wp2_with fail
  refine (new_yes M K w hM1 (by omega) hK1 (by omega)).mono ?_
  rintro e w1 ⟨rfl, hn, hf⟩
  have H1 := Lib.hid (ON.mk hn hf (Nat.le_refl _) (AB.none_ w) : ON w w1 w.heap.size M K 0 [] none 0)
  generalize w.heap.size = g at H1 ⊢
  clear hn hf
  go_wp2_with fail
  go_loopg [9, 10] 40 (fun gk s9 s10 wx => ∃ i L : Nat, gk + i = 40 ∧ s10 = .int .i64 (i : Int) ∧ s9 = .int .i64 (L : Int) ∧ Hid (BX w wx g M K i L))
  case atStart => exact ⟨0, 0, rfl, rfl, rfl, Nat.le_refl _, [], none, 0, H1.out, Nat.zero_le _⟩
  case round =>
    obtain ⟨i, L, hgk, rfl, rfl, HX⟩ := hrel
    by_cases him : i < zs.length
    · by_cases hi40 : i < 40
      · obtain ⟨hLi, ds, A, c, h, hlen⟩ := HX.out
        have H := Lib.hid h
        clear h HX
        obtain ⟨ad, u, rfl, _, _, hu, hcell⟩ := (HZ.out.upd H.out.fr (fun _ _ h => h)).at_ (k := i) him
        obtain rfl := iv_at him hu
        clear hu
        have m3 := mask_of 3 (by decide) (zAt zs i) 7 (by decide)
        have l3 := mOf_lt 3 (zAt zs i)
        generalize mOf 3 (zAt zs i) = d3 at m3 l3
        obtain ⟨sz, hsz⟩ : ∃ sz : Nat, (sz : Int) = (M : Int) - 3 + d3 := ⟨M - 3 + d3, by omega⟩
        have HSZ := Lib.hid hsz
        have hsz1 : M ≤ sz + 3 := by omega
        have hsz2 : sz ≤ M + 4 := by omega
        clear hsz
        have p1 : (0 : Int) ≤ (M : Int) - 3 + d3 := by omega
        go_upto_region 9 with fail
        go_cut [11] (fun s11 wx => wr = wx ∧ s11 = .int .i64 (sz : Int))
        case first =>
          go_wp2_with fail
          all_goals go_meet
          all_goals first | exact ⟨rfl, by rw [HSZ.out]⟩ | (exfalso; omega)
        obtain ⟨rfl, rfl⟩ := hcut
        clear m3 p1 hcell
        go_wp2_with fail
        refine (len_o H.out.nt).mono ?_
        rintro e w4 ⟨rfl, rfl⟩
        have hmk : ∀ W : World, (Instr.makeSlice 29 (.int .i64 (sz : Int)) (.int .i64 (sz : Int))).run Try.prog W = .ok (.slice (some ⟨W.heap.size, 0, none⟩) sz sz) (W.alloc (.cells (madeCells #[.int .u8 0] sz) 5)) := by
          intro W
          have h1 := run_make (P := Try.prog) W 29 5 i0 (.int .u8 0) Try.underlying29 hi0 hz0 .i64 .i64 (sz : Int) (sz : Int) (by omega) (Int.le_refl _) (by rw [hz2]; omega) (by omega)
          have h2 : (Value.int .u8 0).cells = #[.int .u8 0] := rfl
          rw [hz1, h2] at h1
          simpa using h1
        have HM := Lib.hid (H.out.fresh ((Upd.refl wr).alloc (F := fun _ => False) (.cells (madeCells #[.int .u8 0] sz) 5)))
        have hsend := send_all HM.out 0 1 (some ⟨wr.heap.size, 0, none⟩) (List.replicate sz 0) sz (by omega) (by omega) (by omega) (by omega) (by simp; omega) (zero_bytes wr sz) (fun h => by cases h)
        rw [List.length_replicate] at hsend
        obtain ⟨sk, hsk⟩ : ∃ sk, sendC M K ds.length 0 1 sz = sk := ⟨_, rfl⟩
        rw [hsk] at hsend
        have HSK := Lib.hid hsk
        have HSD := Lib.hid hsend
        clear hsk hsend
        go_wp2_with fail
        refine HSD.out.mono ?_
        rintro e w5 ⟨rfl, ds', A', c', h1, h2, _, _⟩
        have H5 := Lib.hid h1
        have HD := Lib.hid (congrArg List.length h2)
        clear h1 h2 HSD HM hmk
        go_upto_block 2 with fail
        go_cut [9] (fun s9 wx => ∃ L' : Nat, s9 = .int .i64 (L' : Int) ∧ Hid (BX w wx g M K (i + 1) L'))
        case first =>
          as_aux_lemma =>
            by_cases hlong : M < sz
            · have e : sk = 2 := by rw [← HSK.out]; simp [sendC, hlong]
              subst e
              have hdl : ds'.length = ds.length := by have := HD.out; simpa [sendD] using this
              have hne : ((ds'.length : Int) != ds.length) = false := by simp [hdl]
              go_wp2_with fail
              refine (len_o H5.out.nt).mono ?_
              rintro e w6 ⟨rfl, rfl⟩
              go_wp2_with fail
              go_meet
              exact ⟨L, rfl, by omega, ds', A', c', H5.out, by omega⟩
            · by_cases hfull : K ≤ ds.length
              · have e : sk = 60 := by rw [← HSK.out]; simp [sendC, hlong, hfull]
                subst e
                have hdl : ds'.length = ds.length := by have := HD.out; simpa [sendD] using this
                have hne : ((ds'.length : Int) != ds.length) = false := by simp [hdl]
                have hKi : ((ds.length : Int) == (K : Int)) = true := by simp; omega
                go_wp2_with fail
                refine (len_o H5.out.nt).mono ?_
                rintro e w6 ⟨rfl, rfl⟩
                go_wp2_with fail
                go_meet
                exact ⟨L + 1, by go_num, by omega, ds', A', c', H5.out, by omega⟩
              · have e : sk = 0 := by rw [← HSK.out]; simp [sendC, hlong, hfull]
                subst e
                have hdl : ds'.length = ds.length + 1 := by have := HD.out; simpa [sendD] using this
                have hne : ((ds'.length : Int) != (ds.length : Int) + 1) = false := by simp [hdl]
                have hKi : ((ds.length : Int) == (K : Int)) = false := by simp; omega
                go_wp2_with fail
                refine (len_o H5.out.nt).mono ?_
                rintro e w6 ⟨rfl, rfl⟩
                go_wp2_with fail
                go_meet
                exact ⟨L, rfl, by omega, ds', A', c', H5.out, by omega⟩
        clear H5 HD HSK HSZ
        obtain ⟨L', rfl, HX⟩ := hcut
        go_upto_region 21 with fail
        obtain ⟨hLi', ds2, A2, c2, hon, hlen2⟩ := HX.out
        have HS := Lib.hid hon
        have hcell5 := read_at (HZ.out.upd HS.out.fr (fun _ _ h => h)) him
        clear hon HX
        have hKb : K ≤ 16 := hK2
        by_cases hfl : bits BinOp.and IntKind.i64 (zAt zs i) 64 = 64
        · by_cases hpos : 0 < ds2.length
          · have hpos2 : (0 : Int) < (ds2.length : Int) := by omega
            have hlen3 : (ds2.take 0 ++ ds2.drop (0 + 1)).length ≤ K := by rw [List.length_append, List.length_take, List.length_drop]; omega
            go_wp2_with fail
            refine (len_o HS.out.nt).mono ?_
            rintro e w6 ⟨rfl, rfl⟩
            go_wp2_with fail
            refine (take_yes HS.out 0 hpos (by omega)).mono ?_
            rintro e w7 ⟨B7, rfl, _, _, h7, _⟩
            have HF := Lib.hid h7
            clear h7
            go_wp2_with fail
            refine (lost_o HF.out.nt).mono ?_
            rintro e w8 ⟨rfl, rfl⟩
            go_wp2_with fail
            go_roundg (40 - (i + 1))
            case measure => omega
            case rel => exact ⟨i + 1, L', by omega, by go_num, rfl, hLi', _, _, _, HF.out, hlen3⟩
          · have hpos2 : decide ((0 : Int) < (ds2.length : Int)) = false := decide_eq_false (by omega)
            go_wp2_with fail
            refine (len_o HS.out.nt).mono ?_
            rintro e w6 ⟨rfl, rfl⟩
            go_wp2_with fail
            refine (lost_o HS.out.nt).mono ?_
            rintro e w8 ⟨rfl, rfl⟩
            go_wp2_with fail
            go_roundg (40 - (i + 1))
            case measure => omega
            case rel => exact ⟨i + 1, L', by omega, by go_num, rfl, hLi', _, _, _, HS.out, hlen2⟩
        · have hfl2 : (bits BinOp.and IntKind.i64 (zAt zs i) 64 == 64) = false := by simpa using hfl
          go_wp2_with fail
          refine (lost_o HS.out.nt).mono ?_
          rintro e w8 ⟨rfl, rfl⟩
          go_wp2_with fail
          go_roundg (40 - (i + 1))
          case measure => omega
          case rel => exact ⟨i + 1, L', by omega, by go_num, rfl, hLi', _, _, _, HS.out, hlen2⟩
      · obtain ⟨_, ds, A, c, h, _⟩ := HX.out
        have H := Lib.hid h
        clear h HX
        go_wp2_with fail
        refine (awake_any _).mono ?_
        rintro e w4 ⟨rfl, u4⟩
        have H4 := Lib.hid (H.out.fresh u4)
        go_wp2_with fail
        go_ret
        exact ⟨rfl, H4.out.fr⟩
    · obtain ⟨_, ds, A, c, h, _⟩ := HX.out
      have H := Lib.hid h
      clear h HX
      go_wp2_with fail
      refine (awake_any _).mono ?_
      rintro e w4 ⟨rfl, u4⟩
      have H4 := Lib.hid (H.out.fresh u4)
      go_wp2_with fail
      go_ret
      exact ⟨rfl, H4.out.fr⟩
end Go.Proofs.Ytdflbfkdegkboaa
