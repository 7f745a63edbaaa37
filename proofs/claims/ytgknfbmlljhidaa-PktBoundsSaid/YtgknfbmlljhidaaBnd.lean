import Derived.Test.YtgknfbmlljhidaaAwk
import Derived.Test.YtgknfbmlljhidaaPla
import Derived.Deep.CutBlock
import Derived.Deep.Cut
import Derived.Deep.CutRange
namespace Go.Proofs.Ytgknfbmlljhidaa
open Go.RowKit

theorem own_zero {w : World} {base : Nat} {e : TypeId} {size n : Nat} {v : Value} {xs : List Value} (h : w.ownsRow base e size v n xs) : w.ownsRow 0 e size v n xs := by
  refine ⟨h.1, ?_⟩
  rcases h.2 with h | ⟨g, cap, cur, rfl, _, rest⟩
  · exact .inl h
  · exact .inr ⟨g, cap, cur, rfl, Nat.zero_le _, rest⟩
theorem wpList_append_grows {P : Program} {w : World} {ops : Array Oper} {rest : List Oper} {o : Oper} {a : Act} {Q : Exit → Act → World → Prop} (hgd : o.guard = none) (s x : Operand) (t : TypeId)
    (ho : o.op = .call { callee := .builtin .append, args := #[s, x], argTypes := #[t, t] })
    (e : TypeId) (i : TypeInfo) (z : Value) (size bytes : Nat) (ht : P.underlying t = some (.slice e)) (hi : P.info? e = some i) (hz : i.zero = some z)
    (hsize : i.size = size) (hby : i.bytes = bytes) (hzs : z.cells.size = size) (hsz : 0 < size)
    (b : Addr) (n cap : Nat) (olds : List Value) (hs : a.eval s = .slice (some b) n cap) (hlo : olds.length = n * size) (holds : ∀ j u, olds[j]? = some u → w.cell? (b.add j) = some u)
    (ad : Addr) (m c : Nat) (news : List Value) (hx : a.eval x = .slice (some ad) m c) (hn : news.length = m * size) (hc : ∀ j u, news[j]? = some u → w.cell? (ad.add j) = some u) (h1 : ∀ u ∈ news, u.oneCell' = true)
    (hfull : cap < n + m) (b1 : n + m ≤ maxLen) (b2 : (n + m) * bytes ≤ 140737488355328)
    (h : ∀ A' c' w', w'.ownsRow 0 e size (.slice A' (n + m) c') (n + m) (olds ++ news) → Fresh w w' → (∀ k, A'.map (·.block) = some k → w.heap.size ≤ k) → wpList P ops Q rest (a.put o.dst (.slice A' (n + m) c')) w') : wpList P ops Q (o :: rest) a w := by
  obtain ⟨v', w', hrun, r1, r2⟩ := run_append_arg_grows (P := P) w t o.type e i z size bytes ht hi hz hsize hby hzs hsz b n cap olds hlo holds ad m c news hn hc hfull b1 b2
  obtain ⟨A', c', rfl⟩ := r1.shape
  refine wpList_plain hgd fun K hK => ?_
  unfold Oper.wp execOp
  simp only [ho, resolve, invoke, builtin, Sem.run_bind, Sem.run_pure, Result.andThen_ok, List.map_toArray, List.map_cons, List.map_nil, hs, hx, hrun]
  refine hK _ _ (h A' c' w' (own_zero r1) ((Upd.refl w).grown r2 (fun g hg => by cases hg)) ?_)
  intro k hk
  exact (r1.lt k (by rw [ownBlock_map]; exact hk)).1

theorem zero_bytes (w : World) (n : Nat) : Reads (w.alloc (.cells (madeCells #[.int .u8 0] n) 5)) (fun _ => True) 1 (some ⟨w.heap.size, 0, none⟩) (List.replicate n (0 : UInt8)).length (bv (List.replicate n 0)) := by
  have h := reads_new w (madeCells #[.int .u8 0] n) 5 1 n (by simp [madeCells])
  rw [toList_madeCells_one] at h
  have e : bv (List.replicate n 0) = List.replicate n (Value.int .u8 0) := by simp [bv]
  rw [e, List.length_replicate]
  exact h
theorem enc_one (d : List UInt8) (h0 : 0 < d.length) : encL [(1, d)] [] = if 65516 < d.length then ([], 5) else (hex4 (d.length + 4) ++ d, 0) := by
  have hne : d ≠ [] := List.length_pos_iff.1 h0
  rw [encL, if_neg (by simp [hne]), if_neg (by simp)]
  split
  · rfl
  · simp [encL]
theorem dec_of_one (d : List UInt8) (h0 : 0 < d.length) (h : d.length ≤ 65516) : decS (hex4 (d.length + 4) ++ d) = ([(1, d)], d.length + 4, 0) := by
  have h1 := dec_full [(1, d)] (by
    intro x hx
    simp at hx
    subst hx
    exact .inl ⟨rfl, List.length_pos_iff.1 h0, h⟩)
  have e : encs [((1 : Int), d)] = hex4 (d.length + 4) ++ d := by simp [encs, encOne]
  rw [e] at h1
  rw [h1]
  simp [hex4]

/-! ### Four bytes and an x -/
theorem dec5_none (b : List UInt8) (hb : b.length = 4) (h : sizeS b = none) : decS (b ++ [120]) = ([], 0, 3) := by
  have hl : (b ++ [120]).length = 5 := by simp [hb]
  have e : (b ++ [120]).take 4 = b := by rw [List.take_append, List.take_of_length_le (by omega)]; simp [hb]
  rw [decS_D, hl, D, hl, if_neg (by omega), e, h]
theorem dec5_some (b : List UInt8) (n : Nat) (hb : b.length = 4) (h : sizeS b = some n) : decS (b ++ [120]) = if 65520 < n then ([], 0, 5) else if n < 3 then ([(2 + (n : Int), [])], 4, 0) else if n = 5 then ([(1, [120])], 5, 0) else ([], 0, 0) := by
  have hl : (b ++ [120]).length = 5 := by simp [hb]
  have e : (b ++ [120]).take 4 = b := by rw [List.take_append, List.take_of_length_le (by omega)]; simp [hb]
  have hne := sizeS_ne h
  have ed : (b ++ [120]).drop 4 = [120] := by rw [List.drop_append, List.drop_of_length_le (by omega)]; simp [hb]
  have ed5 : (b ++ [120]).drop 5 = [] := List.drop_of_length_le (by omega)
  rw [decS_D, hl, D, hl, if_neg (by omega), e, h]
  simp only [ed]
  by_cases h1 : 65520 < n
  · rw [if_pos h1, if_pos h1]
  · rw [if_neg h1, if_neg h1]
    by_cases h2 : n < 3
    · rw [if_pos h2, if_pos h2]
      rfl
    · rw [if_neg h2, if_neg h2]
      by_cases h3 : n = 5
      · subst h3
        rw [if_neg (by omega), if_pos rfl, ed5]
        rfl
      · rw [if_pos (by omega), if_neg h3]

/-- Four digits, under way: what they say, or that one is none. -/
structure FourAt (b : List UInt8) (k V : Nat) (G : Bool) : Prop where
  lt : V < 16 ^ k
  yes : G = true → NumAt b k V
  no : G = false → sizeS b = none
theorem FourAt.step {b : List UInt8} {k V d : Nat} {G : Bool} (h : FourAt b k V G) (hk : k < b.length) (hd : hexv b[k] = some d) (hlt : d < 16) : FourAt b (k + 1) (16 * V + d) G := by
  refine ⟨?_, fun hg => (h.yes hg).step hk hd hlt, h.no⟩
  have := h.lt
  rw [Nat.pow_succ]
  omega
theorem FourAt.bad {b : List UInt8} {k V : Nat} {G : Bool} (h : FourAt b k V G) (hk : k < b.length) (hd : hexv b[k] = none) : FourAt b (k + 1) V false := by
  refine ⟨?_, (fun hg => by cases hg), fun _ => ?_⟩
  · have := h.lt
    rw [Nat.pow_succ]
    omega
  · cases G with
    | false => exact h.no rfl
    | true => exact (h.yes rfl).bad hk hd
theorem FourAt.done {b : List UInt8} {V : Nat} (h : FourAt b b.length V true) : sizeS b = if V = 3 ∨ V = 4 then none else some V := by
  unfold sizeS
  rw [(h.yes rfl).done]

set_option maxHeartbeats 4000000 in
set_option maxRecDepth 100000 in
theorem bounds_any (n : Int) (x0 x1 x2 x3 : UInt8) (w : World) :
    Calls Try.prog 3 #[.int .i64 n, .agg #[.int .u8 (x0.toNat : Int), .int .u8 (x1.toNat : Int), .int .u8 (x2.toNat : Int), .int .u8 (x3.toNat : Int)]] w fun e w' => e = .returned (.bool true) ∧ Fresh w w' := by
  obtain ⟨i0, hi0, hz0, hz1, hz2⟩ := info_parts Try.info5
  obtain ⟨N, hN1, hN2, hN⟩ : ∃ N : Nat, 65510 ≤ N ∧ N ≤ 65525 ∧ 65510 + bits .and .i64 n 15 = (N : Int) := by
    have h0 := i64_mask n 4 (by decide)
    rw [show (2 : Int) ^ 4 - 1 = 15 by decide] at h0
    have := Int.emod_nonneg n (b := 2 ^ 4) (by decide)
    have := Int.emod_lt_of_pos n (b := 2 ^ 4) (by decide)
    exact ⟨(65510 + n % 2 ^ 4).toNat, by omega, by omega, by rw [h0]; omega⟩
  go_enter Try.func3, Try.ntmps3
  go_upto_region 2 with fail
  obtain ⟨b, hb, hcs⟩ : ∃ b : List UInt8, b.length = 4 ∧ (#[.int .u8 (x0.toNat : Int), .int .u8 (x1.toNat : Int), .int .u8 (x2.toNat : Int), .int .u8 (x3.toNat : Int)] : Array Value) = (bv b).toArray := ⟨[x0, x1, x2, x3], rfl, rfl⟩
  rw [hcs]
  have HX := Lib.hid (Blk.new w 22 (bv b).toArray)
  have HF := Lib.hid ((Upd.refl w).alloc (F := fun _ => False) (.cells (bv b).toArray 22))
  have HBL := Lib.hid hb
  generalize w.alloc (.cells (bv b).toArray 22) = w1 at HX HF ⊢
  generalize w.heap.size = g3 at HX ⊢
  clear hcs hb hN
  have hmk : ∀ W : World, (Instr.makeSlice 23 (.int .i64 (N : Int)) (.int .i64 (N : Int))).run Try.prog W = .ok (.slice (some ⟨W.heap.size, 0, none⟩) N N) (W.alloc (.cells (madeCells #[.int .u8 0] N) 5)) := by
    intro W
    have h1 := run_make (P := Try.prog) W 23 5 i0 (.int .u8 0) Try.underlying23 hi0 hz0 .i64 .i64 (N : Int) (N : Int) (by omega) (Int.le_refl _) (by rw [hz2]; omega) (by omega)
    have h2 : (Value.int .u8 0).cells = #[.int .u8 0] := rfl
    rw [hz1, h2] at h1
    simpa using h1
  have HZ := Lib.hid (zero_bytes w1 N)
  have HF2 := Lib.hid ((Upd.refl w1).alloc (F := fun _ => False) (.cells (madeCells #[.int .u8 0] N) 5))
  go_wp2_with fail
  have hsz : (w1.alloc (.cells (madeCells #[.int .u8 0] N) 5)).heap.size = w1.heap.size + 1 := by simp
  generalize w1.alloc (.cells (madeCells #[.int .u8 0] N) 5) = w2 at HZ HF2 hsz ⊢
  rw [← hsz]
  clear hmk hsz
  obtain ⟨d, hd, hdl⟩ : ∃ d : List UInt8, d = List.replicate N 0 ∧ d.length = N := ⟨_, rfl, by simp⟩
  rw [← hd] at HZ
  clear hd
  have HL := Lib.hid (show LsR (w2.alloc (.cells #[.int .i64 1, .slice (some ⟨w1.heap.size, 0, none⟩) N N] 28)) (some ⟨w2.heap.size, 0, none⟩) [⟨1, d, some ⟨w1.heap.size, 0, none⟩, N⟩] by
    refine ⟨?_, ?_⟩
    · have := reads_new w2 #[.int .i64 1, .slice (some ⟨w1.heap.size, 0, none⟩) N N] 28 2 1 rfl
      simpa [lcells, Ln.cells, hdl] using this
    · intro x hx
      simp at hx
      subst hx
      exact ⟨HZ.out.alloc _, fun h => (by cases h), by simp only; omega, by simp only; omega⟩)
  have he := enc_one d (by omega)
  refine (enc_o (ls := [⟨1, d, some ⟨w1.heap.size, 0, none⟩, N⟩]) HL.out (by simp) (by simp [tot, Ln.p]; omega)).mono ?_
  rintro e w5 ⟨A5, rfl, hg5⟩
  have e1 : [(⟨1, d, some ⟨w1.heap.size, 0, none⟩, N⟩ : Ln)].map Ln.p = [(1, d)] := rfl
  rw [e1] at hg5 ⊢
  rw [hdl] at he
  generalize encL [(1, d)] [] = r at he hg5 ⊢
  obtain ⟨out, er⟩ := r
  have HE := Lib.hid he
  have HG := Lib.hid hg5
  have HF5 := Lib.hid ((((HF.out.trans HF2.out (fun _ _ h => h)).alloc (.cells #[.int .i64 1, .slice (some ⟨w1.heap.size, 0, none⟩) N N] 28)).trans hg5.2.2 (fun _ _ h => h)))
  have HX5 := Lib.hid (((HX.out.upd HF2.out (fun h => h)).alloc (.cells #[.int .i64 1, .slice (some ⟨w1.heap.size, 0, none⟩) N N] 28)).upd hg5.2.2 (fun h => h))
  have HDL := Lib.hid hdl
  clear he hg5 e1 hdl HL HZ HF2 HX HF
  dsimp only
  go_upto_region 3 with fail
  go_cut [45] (fun s45 wx => s45 = .bool false ∧ w5 = wx)
  case first =>
    by_cases hN : N ≤ 65516
    · have h := HE.out
      rw [if_neg (by omega)] at h
      injection h with h1 h2
      subst h2
      have b1 : decide ((N : Int) ≤ 65516) = true := by simp; omega
      clear h1
      go_wp2_with fail
      go_meet
      exact ⟨rfl, rfl⟩
    · have h := HE.out
      rw [if_pos (by omega)] at h
      injection h with h1 h2
      subst h1
      subst h2
      have b1 : decide ((N : Int) ≤ 65516) = false := by simp; omega
      go_wp2_with fail
      go_meet
      exact ⟨rfl, rfl⟩
  obtain ⟨rfl, rfl⟩ := hcut
  go_upto_if 47 with fail
  go_cut [] (fun wx => Hid (Fresh w5 wx))
  case first =>
    as_aux_lemma =>
      by_cases hN : N ≤ 65516
      · have h := HE.out
        rw [if_neg (by omega)] at h
        injection h with h1 h2
        subst h2
        have hol : out.length = N + 4 := by rw [h1]; simp [hex4]; have := HDL.out; omega
        have hdec : decS out = ([(1, d)], N + 4, 0) := by
          have := HDL.out
          rw [h1, ← HDL.out]
          exact dec_of_one d (by omega) (by omega)
        have HDEC := Lib.hid hdec
        have HOL := Lib.hid hol
        have holm : out.length ≤ 1099511627776 := by omega
        have holn : out.length ≤ 9223372036854775807 := by omega
        clear h1 hdec hol
        go_wp2_with fail
        refine (dec_o (b := out) (HG.out.1.reads.weak (fun _ _ => trivial)) holm (Nat.le_refl _) holn).mono ?_
        rintro e w6 ⟨A6, c6, ls6, rfl, ho6, hl6⟩
        rw [HDEC.out] at hl6 ⊢
        obtain ⟨x, rfl⟩ : ∃ x, ls6 = [x] := by
          rcases ls6 with _ | ⟨x, _ | ⟨y, r⟩⟩
          · simp at hl6
          · exact ⟨x, rfl⟩
          · simp at hl6
        have hxd : x.d = d := by simp [Ln.p] at hl6; exact hl6.2
        obtain ⟨g6, cap, hv, _, hlt6⟩ := ho6.own.form (by simp)
        injection hv with hA _ _
        subst hA
        have hc := ho6.own.cellAt 1 (by simp [lcells, Ln.cells])
        have HF6 := Lib.hid ho6.fr
        rw [show (lcells [x])[1]? = some (.slice x.B x.d.length x.c) from rfl, hxd, HDL.out] at hc
        clear ho6 hl6 hxd
        dsimp only [List.length_cons, List.length_nil]
        have b2 : (((N + 4 : Nat) : Int) != (N : Int) + 4) = false := by simp
        go_wp2_with fail
        go_meet
        exact HF6.out
      · have h := HE.out
        rw [if_pos (by omega)] at h
        injection h with h1 h2
        subst h2
        clear h1
        go_wp2_with fail
        go_meet
        exact Upd.refl _
  have HX6 := Lib.hid (HX5.out.upd hcut.out (fun h => h))
  have HF6 := Lib.hid (HF5.out.trans hcut.out (fun _ _ h => h))
  clear hcut HX5 HF5 HG HE HDL
  go_wp2_with fail
  go_loopg [10, 11, 12] 4 (fun gk s10 s11 s12 wx => ∃ (k V : Nat) (G : Bool), gk + k = 4 ∧ s12 = .int .i64 (k : Int) ∧ s10 = .int .i64 (V : Int) ∧ s11 = .bool G ∧ wc = wx ∧ Hid (FourAt b k V G))
  case atStart => exact ⟨0, 0, true, rfl, rfl, rfl, rfl, rfl, by decide, (fun _ => ⟨rfl, by decide⟩), (fun h => by cases h)⟩
  case round =>
    obtain ⟨k, V, G, hgk, rfl, rfl, rfl, rfl, HN⟩ := hrel
    by_cases hk : k < 4
    · as_aux_lemma =>
        have hkb : k < b.length := by have := HBL.out; omega
        have hcell := HX6.out.cell k
        rw [show (bv b).toArray[k]? = some (.int .u8 (b[k].toNat : Int)) by simp [bv, hkb]] at hcell
        have hv : V < 16 ^ 4 := Nat.lt_of_lt_of_le HN.out.lt (Nat.pow_le_pow_right (by decide) (by omega))
        have HS := Lib.hid (fun d => HN.out.step (d := d) hkb)
        have HY := Lib.hid (HN.out.bad hkb)
        have hlt := (b[k]).toNat_lt
        generalize b[k] = x at hcell HS HY hlt
        have HA := Lib.hid (fun h1 h2 => hexv_a (c := x) h1 h2)
        have HB2 := Lib.hid (fun h1 h2 => hexv_b (c := x) h1 h2)
        have HC := Lib.hid (fun h1 h2 => hexv_c (c := x) h1 h2)
        generalize x.toNat = y at hcell hlt HA HB2 HC
        have z0 : (0 : Int) ≤ (k : Int) := by omega
        have z1 : (k : Int) < 4 := by omega
        by_cases d1 : 48 ≤ y ∧ y ≤ 57
        · obtain ⟨d1, d2⟩ := d1
          have e1 : IntKind.u8.wrap ((y : Int) - 48) = ((y - 48 : Nat) : Int) := by rw [IntKind.wrap_u8]; omega
          have b1 : decide ((48 : Int) ≤ (y : Int)) = true := by simp; omega
          have b2 : decide ((y : Int) ≤ 57) = true := by simp; omega
          go_wp2_with fail
          go_roundg (gk - 1)
          case measure => omega
          case rel => exact ⟨k + 1, 16 * V + (y - 48), G, by omega, by go_num, by go_num, rfl, rfl, HS.out _ (HA.out d1 d2) (by omega)⟩
        · by_cases d2 : 97 ≤ y ∧ y ≤ 102
          · obtain ⟨d2, d3⟩ := d2
            have e1 : IntKind.u8.wrap ((y : Int) - 97) = ((y - 97 : Nat) : Int) := by rw [IntKind.wrap_u8]; omega
            have b1 : decide ((48 : Int) ≤ (y : Int)) = true := by simp; omega
            have b2 : decide ((y : Int) ≤ 57) = false := by simp; omega
            have b3 : decide ((97 : Int) ≤ (y : Int)) = true := by simp; omega
            have b4 : decide ((y : Int) ≤ 102) = true := by simp; omega
            clear d1
            go_wp2_with fail
            go_roundg (gk - 1)
            case measure => omega
            case rel => exact ⟨k + 1, 16 * V + (y - 87), G, by omega, by go_num, by congr 1; omega, rfl, rfl, HS.out _ (HB2.out d2 d3) (by omega)⟩
          · have HZ := Lib.hid (HY.out (HC.out d1 d2))
            have HD1 := Lib.hid d1
            have HD2 := Lib.hid d2
            clear d1 d2
            by_cases f1 : 48 ≤ y
            · have f2 : ¬ y ≤ 57 := fun h => HD1.out ⟨f1, h⟩
              have b1 : decide ((48 : Int) ≤ (y : Int)) = true := by simp; omega
              have b2 : decide ((y : Int) ≤ 57) = false := by simp; omega
              by_cases f3 : 97 ≤ y
              · have f4 : ¬ y ≤ 102 := fun h => HD2.out ⟨f3, h⟩
                have b3 : decide ((97 : Int) ≤ (y : Int)) = true := by simp; omega
                have b4 : decide ((y : Int) ≤ 102) = false := by simp; omega
                go_wp2_with fail
                go_roundg (gk - 1)
                case measure => omega
                case rel => exact ⟨k + 1, V, false, by omega, by go_num, rfl, rfl, rfl, HZ.out⟩
              · have b3 : decide ((97 : Int) ≤ (y : Int)) = false := by simp; omega
                go_wp2_with fail
                go_roundg (gk - 1)
                case measure => omega
                case rel => exact ⟨k + 1, V, false, by omega, by go_num, rfl, rfl, rfl, HZ.out⟩
            · have b1 : decide ((48 : Int) ≤ (y : Int)) = false := by simp; omega
              have b3 : decide ((97 : Int) ≤ (y : Int)) = false := by simp; omega
              go_wp2_with fail
              go_roundg (gk - 1)
              case measure => omega
              case rel => exact ⟨k + 1, V, false, by omega, by go_num, rfl, rfl, rfl, HZ.out⟩
    · have hk4 : k = b.length := by have := HBL.out; omega
      have HN4 := Lib.hid (hk4 ▸ HN.out : FourAt b b.length V G)
      have hV : V < 65536 := by have := HN4.out.lt; rw [HBL.out] at this; omega
      clear hk4 HN
      go_wp2_with (first
        | (at_builtin
           refine wpList_append_grows rfl (.tmp 111) (.tmp 112) 23 rfl 5 i0 _ 1 1 Try.underlying23 hi0 hz0 hz1 hz2 rfl (by omega) ⟨g3, 0, none⟩ 4 4 (bv b) rfl (by rw [bv_length, HBL.out]) (fun j u hu => by rw [Addr.add_lit, Nat.zero_add, (HX6.out.alloc _).cell]; simpa using hu) ⟨wc.heap.size, 0, none⟩ 1 1 (bv [120]) rfl rfl (fun j u hu => World.news_of_block (heap_alloc_new wc (.cells #[.int .u8 120] 5)) j u hu) (bv_one _) (by omega) (by unfold maxLen; omega) (by omega) ?_
           intro A7 c7 w7 hown7 hf7 _
           have HO7 := Lib.hid hown7
           have HF7 := Lib.hid (HF6.out.trans (((Upd.refl wc).alloc _).trans hf7 (fun _ _ h => h)) (fun _ _ h => h))
           clear hown7 hf7))
      as_aux_lemma =>
        have h5 : (b ++ [120]).length = 5 := by have := HBL.out; simp [this]
        have hr : Reads w7 (fun _ => True) 1 A7 (b ++ [120]).length (bv (b ++ [120])) := by
          have := (Reads.of_own HO7.out).weak (S' := fun _ => True) (fun _ _ => trivial)
          rw [h5, bv_append]
          exact this
        have hc7 := (owns_cap HO7.out).1
        have hc8 := (owns_cap HO7.out).2.2
        unfold maxLen at hc8
        have hdec := dec_o (cp := c7) hr (by omega) (by omega) (by omega)
        rw [h5] at hdec
        have HDEC := Lib.hid hdec
        clear hdec hr hc7 hc8 h5 HO7
        refine HDEC.out.mono ?_
        rintro e w8 ⟨A8, c8, ls8, rfl, ho8, hl8⟩
        have HF8 := Lib.hid (HF7.out.trans ho8.fr (fun _ _ h => h))
        clear HDEC
        cases G with
        | false =>
          rw [dec5_none b HBL.out (HN4.out.no rfl)] at hl8 ⊢
          obtain rfl : ls8 = [] := by simpa using hl8
          clear ho8 hl8
          dsimp only [List.length_nil]
          go_wp2_with fail
          refine (awake_any _).mono ?_
          rintro e w9 ⟨rfl, hf9⟩
          have HF9 := Lib.hid (HF8.out.trans hf9 (fun _ _ h => h))
          clear hf9
          go_wp2_with fail
          go_ret
          exact ⟨rfl, HF9.out⟩
        | true =>
          have hs := HN4.out.done
          by_cases h34 : V = 3 ∨ V = 4
          · rw [if_pos h34] at hs
            rw [dec5_none b HBL.out hs] at hl8 ⊢
            obtain rfl : ls8 = [] := by simpa using hl8
            clear ho8 hl8 hs HN4
            dsimp only [List.length_nil]
            rcases h34 with rfl | rfl
            · skip
              go_wp2_with fail
              refine (awake_any _).mono ?_
              rintro e w9 ⟨rfl, hf9⟩
              have HF9 := Lib.hid (HF8.out.trans hf9 (fun _ _ h => h))
              clear hf9
              go_wp2_with fail
              go_ret
              exact ⟨rfl, HF9.out⟩
            · skip
              go_wp2_with fail
              refine (awake_any _).mono ?_
              rintro e w9 ⟨rfl, hf9⟩
              have HF9 := Lib.hid (HF8.out.trans hf9 (fun _ _ h => h))
              clear hf9
              go_wp2_with fail
              go_ret
              exact ⟨rfl, HF9.out⟩
          · rw [if_neg h34] at hs
            rw [dec5_some b V HBL.out hs] at hl8 ⊢
            have n3 : ((V : Int) == 3) = false := by simp; omega
            have n4 : ((V : Int) == 4) = false := by simp; omega
            clear hs HN4 h34
            by_cases hbig : 65520 < V
            · rw [if_pos hbig] at hl8 ⊢
              obtain rfl : ls8 = [] := by simpa using hl8
              clear ho8 hl8
              dsimp only [List.length_nil]
              go_wp2_with fail
              refine (awake_any _).mono ?_
              rintro e w9 ⟨rfl, hf9⟩
              have HF9 := Lib.hid (HF8.out.trans hf9 (fun _ _ h => h))
              clear hf9
              go_wp2_with fail
              go_ret
              exact ⟨rfl, HF9.out⟩
            · rw [if_neg hbig] at hl8 ⊢
              by_cases hlow : V < 3
              · rw [if_pos hlow] at hl8 ⊢
                have h1 : ls8.length = 1 := by have := congrArg List.length hl8; simpa using this
                rw [h1]
                clear ho8 hl8 h1
                dsimp only
                go_wp2_with fail
                refine (awake_any _).mono ?_
                rintro e w9 ⟨rfl, hf9⟩
                have HF9 := Lib.hid (HF8.out.trans hf9 (fun _ _ h => h))
                clear hf9
                go_wp2_with fail
                go_ret
                exact ⟨rfl, HF9.out⟩
              · rw [if_neg hlow] at hl8 ⊢
                by_cases hfive : V = 5
                · subst hfive
                  rw [if_pos rfl] at hl8 ⊢
                  obtain ⟨x, rfl⟩ : ∃ x, ls8 = [x] := by
                    rcases ls8 with _ | ⟨x, _ | ⟨y, r⟩⟩
                    · simp at hl8
                    · exact ⟨x, rfl⟩
                    · simp at hl8
                  have hxd : x.d = [120] := by simp [Ln.p] at hl8; exact hl8.2
                  obtain ⟨g8, cap, hv, _, hlt8⟩ := ho8.own.form (by simp)
                  injection hv with hA _ _
                  subst hA
                  have hc := ho8.own.cellAt 1 (by simp [lcells, Ln.cells])
                  have hx := (ho8.dat x (List.mem_cons_self ..)).1
                  rw [hxd] at hx
                  rw [show (lcells [x])[1]? = some (.slice x.B x.d.length x.c) from rfl, hxd] at hc
                  have sx := str_of (n := 1) (c := x.c) hx
                  clear ho8 hl8 hxd hx
                  dsimp only [List.length_cons, List.length_nil] at hc ⊢
                  go_wp2_with fail
                  refine (awake_any _).mono ?_
                  rintro e w9 ⟨rfl, hf9⟩
                  have HF9 := Lib.hid (HF8.out.trans hf9 (fun _ _ h => h))
                  clear hf9
                  go_wp2_with fail
                  go_ret
                  exact ⟨rfl, HF9.out⟩
                · rw [if_neg hfive] at hl8 ⊢
                  obtain rfl : ls8 = [] := by simpa using hl8
                  have n5 : ((V : Int) == 5) = false := by simp; omega
                  clear ho8 hl8
                  dsimp only [List.length_nil]
                  go_wp2_with fail
                  refine (awake_any _).mono ?_
                  rintro e w9 ⟨rfl, hf9⟩
                  have HF9 := Lib.hid (HF8.out.trans hf9 (fun _ _ h => h))
                  clear hf9
                  go_wp2_with fail
                  go_ret
                  exact ⟨rfl, HF9.out⟩
end Go.Proofs.Ytgknfbmlljhidaa
