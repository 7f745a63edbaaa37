import Derived.Test.YtgknfbmlljhidaaSm
namespace Go.Proofs.Ytgknfbmlljhidaa
open Go.RowKit

/-! ### Lines in memory -/
structure Ln where
  k : Int
  d : List UInt8
  B : Option Addr
  c : Nat
def Ln.cells (x : Ln) : List Value := [.int .i64 x.k, .slice x.B x.d.length x.c]
def lcells (ls : List Ln) : List Value := ls.flatMap Ln.cells
theorem lcells_cons (x : Ln) (ls : List Ln) : lcells (x :: ls) = x.cells ++ lcells ls := by simp [lcells]
theorem lcells_append (a b : List Ln) : lcells (a ++ b) = lcells a ++ lcells b := by simp [lcells]
theorem lcells_length (ls : List Ln) : (lcells ls).length = ls.length * 2 := by
  induction ls with
  | nil => rfl
  | cons d ds ih => rw [lcells_cons, List.length_append, ih, List.length_cons]; simp [Ln.cells]; omega
theorem lcells_one (ls : List Ln) : ∀ u ∈ lcells ls, u.oneCell' = true := by
  intro u hu
  obtain ⟨d, _, h⟩ := List.mem_flatMap.1 hu
  simp [Ln.cells] at h
  rcases h with rfl | rfl <;> rfl
theorem lcells_at (ls : List Ln) (i : Nat) (hi : i < ls.length) : (lcells ls)[i * 2]? = some (.int .i64 ls[i].k) ∧ (lcells ls)[i * 2 + 1]? = some (.slice ls[i].B ls[i].d.length ls[i].c) := by
  induction ls generalizing i with
  | nil => simp at hi
  | cons d ds ih =>
    rw [lcells_cons]
    rcases i with _ | i
    · simp [Ln.cells]
    · have h := ih i (by simpa using hi)
      have e3 : ∀ j, (d.cells ++ lcells ds)[(i + 1) * 2 + j]? = (lcells ds)[i * 2 + j]? := by
        intro j
        rw [List.getElem?_append_right (by simp [Ln.cells]; omega)]
        congr 1
        simp [Ln.cells]; omega
      have h0 := e3 0
      rw [Nat.add_zero, Nat.add_zero] at h0
      rw [h0, e3 1]
      exact h

/-- A line's bytes lie where they are said to lie. -/
def Ln.lies (w : World) (x : Ln) : Prop := Reads w (fun _ => True) 1 x.B x.d.length (bv x.d) ∧ (x.B = none → x.c = 0) ∧ x.d.length ≤ x.c ∧ x.c ≤ 9223372036854775807
theorem Ln.lies.fresh {w w' : World} {x : Ln} (h : x.lies w) (hu : Fresh w w') : x.lies w' := ⟨h.1.upd hu (fun _ _ h => h), h.2⟩
structure LsR (w : World) (A : Option Addr) (ls : List Ln) : Prop where
  row : Reads w (fun _ => True) 2 A ls.length (lcells ls)
  dat : ∀ x ∈ ls, x.lies w
theorem LsR.fresh {w w' : World} {A : Option Addr} {ls : List Ln} (h : LsR w A ls) (hu : Fresh w w') : LsR w' A ls := ⟨h.row.upd hu (fun _ _ h => h), fun x hx => (h.dat x hx).fresh hu⟩
theorem LsR.at_ {w : World} {A : Option Addr} {ls : List Ln} (h : LsR w A ls) {i : Nat} (hi : i < ls.length) : ∃ ad, A = some ad ∧ w.cell? (ad.add (i * 2)) = some (.int .i64 ls[i].k) ∧ w.cell? ⟨(ad.add (i * 2)).block, (ad.add (i * 2)).off + 1, none⟩ = some (.slice ls[i].B ls[i].d.length ls[i].c) := by
  obtain ⟨ad, e, _, _, hc⟩ := h.row.2 (by omega)
  obtain ⟨h0, h1⟩ := lcells_at ls i hi
  refine ⟨ad, e, hc _ _ h0, ?_⟩
  rw [← add_far _ _ _ (by omega)]
  exact hc _ _ h1

/-- A list of bytes that a call has made. -/
def Got (b : List UInt8) (w : World) (A : Option Addr) (w' : World) : Prop := Arr w' 5 A b.length (bv b) ∧ AB w A ∧ Fresh w w'

/-! ### Encode -/
/-- A list of bytes under way: a row of the call's own. -/
structure Own (w0 w : World) (A : Option Addr) (c : Nat) (b : List UInt8) : Prop where
  own : w.ownsRow 0 5 1 (.slice A b.length c) b.length (bv b)
  ab : AB w0 A
  fr : Fresh w0 w
theorem Own.nil {w0 w : World} (h : Fresh w0 w) : Own w0 w none 0 [] := ⟨World.ownsRow_nil _ _ _ _, AB.none_ _, h⟩
theorem Own.fresh {w0 w w' : World} {A : Option Addr} {c : Nat} {b : List UInt8} (h : Own w0 w A c b) (hu : Fresh w w') : Own w0 w' A c b := ⟨owns_upd h.own hu (fun _ _ h => h), h.ab, h.fr.trans hu (fun _ _ h => h)⟩
theorem Own.app {w0 w w1 w2 : World} {A A2 : Option Addr} {c c2 n : Nat} {b d : List UInt8} (h : Own w0 w A c b) (h1 : Fresh w w1) (ho : w2.ownsRow 0 5 1 (.slice A2 n c2) n (bv b ++ bv d)) (hn : n = (b ++ d).length) (hg : w1.grownBy w2 (Value.slice A b.length c).ownBlock)
    (hat : (Value.slice A2 n c2).ownBlock = (Value.slice A b.length c).ownBlock ∨ (Value.slice A2 n c2).ownBlock = some w1.heap.size) : Own w0 w2 A2 c2 (b ++ d) := by
  subst hn
  refine ⟨by rw [bv_append]; exact ho, ?_, ?_⟩
  · intro k hk
    rw [ownBlock_map, ownBlock_map, hk] at hat
    rcases hat with e | e
    · exact h.ab k e.symm
    · injection e with e
      have := h.fr.size
      have := h1.size
      omega
  · have hu : Upd (fun i => w0.heap.size ≤ i) w0 w2 := (Fresh.to (h.fr.trans h1 (fun _ _ h => h))).grown hg (fun i hi _ => h.ab i (by rw [ownBlock_map] at hi; exact hi))
    exact ⟨hu.os, hu.tape, hu.output, hu.size, fun k hk _ => hu.block k hk (by omega)⟩
theorem Own.got {w0 w : World} {A : Option Addr} {c : Nat} {b : List UInt8} (h : Own w0 w A c b) : Got b w0 A w := ⟨Arr.of_own h.own, h.ab, h.fr⟩

def dgt (n : Nat) : UInt8 := if n < 10 then UInt8.ofNat (48 + n) else UInt8.ofNat (87 + n)
def hex4 (n : Nat) : List UInt8 := [dgt (n / 4096 % 16), dgt (n / 256 % 16), dgt (n / 16 % 16), dgt (n % 16)]
/-- Lines as bytes, behind 'out'; what is wrong. -/
def encL : List (Int × List UInt8) → List UInt8 → List UInt8 × Nat
  | [], out => (out, 0)
  | (k, d) :: r, out =>
    if k < 1 ∨ 4 < k ∨ (k = 1 ∧ d = []) then ([], 3)
    else if k ≠ 1 then encL r (out ++ [48, 48, 48, UInt8.ofNat (46 + k.toNat)])
    else if 65516 < d.length then ([], 5)
    else encL r (out ++ hex4 (d.length + 4) ++ d)
def Ln.p (x : Ln) : Int × List UInt8 := (x.k, x.d)
def tot (ls : List (Int × List UInt8)) : Nat := (ls.map fun x => x.2.length + 4).sum
theorem tot_cons (x : Int × List UInt8) (r : List (Int × List UInt8)) : tot (x :: r) = x.2.length + 4 + tot r := by simp [tot]
def EncO (r : List UInt8 × Nat) (w : World) (e : Ending) (w' : World) : Prop := ∃ A, e = .returned (.tuple #[.slice A r.1.length r.1.length, .int .i64 (r.2 : Int)]) ∧ Got r.1 w A w'
/-- Encode, under way. -/
structure EncAt (w0 w : World) (ls : List Ln) (k : Nat) (A : Option Addr) (c : Nat) (out : List UInt8) : Prop where
  own : Own w0 w A c out
  eq : encL ((ls.drop k).map Ln.p) out = encL (ls.map Ln.p) []
  len : out.length + tot ((ls.drop k).map Ln.p) ≤ 140737488355328

theorem reads_cells (w : World) (b : List UInt8) (cs : Array Value) (h : cs.toList = bv b) (n : Nat) (hn : n = b.length) : Reads (w.alloc (.cells cs 5)) (fun _ => True) 1 (some ⟨w.heap.size, 0, none⟩) n (bv b) := by
  subst hn
  have := reads_new w cs 5 1 b.length (by rw [← Array.length_toList, h]; simp [bv])
  rwa [h] at this
theorem dig_at (d : Nat) (h : d < 16) : ((⟨#[48, 49, 50, 51, 52, 53, 54, 55, 56, 57, 97, 98, 99, 100, 101, 102]⟩ : ByteArray)[d]'h).toNat = (dgt d).toNat := by
  have key : ∀ d : Fin 16, ((⟨#[48, 49, 50, 51, 52, 53, 54, 55, 56, 57, 97, 98, 99, 100, 101, 102]⟩ : ByteArray)[d.val]'d.isLt).toNat = (dgt d.val).toNat := by decide
  exact key ⟨d, h⟩
theorem mask15 (z : Int) (n : Nat) (h : z = (n : Int)) : bits .and .i64 z 15 = ((n % 16 : Nat) : Int) := by
  have h0 := i64_mask z 4 (by decide)
  rw [show (2 : Int) ^ 4 - 1 = 15 by decide] at h0
  rw [h0, h]
  omega
set_option maxHeartbeats 1600000 in
theorem enc_o {A : Option Addr} {cp : Nat} {ls : List Ln} {w : World} (h : LsR w A ls) (hn : ls.length ≤ 9223372036854775807) (ht : tot (ls.map Ln.p) ≤ 140737488355328) :
    Calls Try.prog 7 #[.slice A ls.length cp] w (EncO (encL (ls.map Ln.p) []) w) := by
  obtain ⟨i0, hi0, hz0, hz1, hz2⟩ := info_parts Try.info5
  have H := Lib.hid h
  have HT := Lib.hid ht
  clear h ht
  go_enter Try.func7, Try.ntmps7
  go_wp2
  go_loopg [4, 10] ls.length (fun gk s4 s10 wx => ∃ (k : Nat) (A1 : Option Addr) (c1 : Nat) (out : List UInt8), gk + k = ls.length ∧ s10 = .int .i64 (k : Int) ∧ s4 = .slice A1 out.length c1 ∧ Hid (EncAt w wx ls k A1 c1 out))
  case atStart => exact ⟨0, none, 0, [], rfl, rfl, rfl, ⟨Own.nil (Upd.refl w), rfl, by simpa using HT.out⟩⟩
  case round =>
    obtain ⟨k, A1, c1, out, hgk, rfl, rfl, HE⟩ := hrel
    by_cases hk : k < ls.length
    · obtain ⟨ad, hA, e0, e1⟩ := (H.out.fresh HE.out.own.fr).at_ hk
      subst hA
      have HL := Lib.hid (H.out.dat _ (List.getElem_mem hk))
      have HQ := Lib.hid HE.out.eq
      have HN := Lib.hid HE.out.len
      rw [List.drop_eq_getElem_cons hk, List.map_cons] at HQ HN
      generalize ls[k] = x at e0 e1 HL HQ HN
      obtain ⟨xk, xd, xB, xc⟩ := x
      dsimp only [Ln.p] at e0 e1 HL HQ HN
      go_upto_region 5 with fail
      have HB := Lib.hid (Blk.new wr 28 #[.int .i64 xk, .slice xB xd.length xc])
      have HO := Lib.hid (HE.out.own.fresh ((Upd.refl wr).alloc (.cells #[.int .i64 xk, .slice xB xd.length xc] 28)))
      generalize wr.alloc (.cells #[.int .i64 xk, .slice xB xd.length xc] 28) = w2 at HB HO ⊢
      generalize wr.heap.size = g6 at HB ⊢
      clear e0 e1 HE
      have o0 := HB.out.cell 0
      have o1 := HB.out.cell 1
      simp only [List.getElem?_toArray, List.getElem?_cons_zero, List.getElem?_cons_succ] at o0 o1
      have hg6 := HB.out.lt
      by_cases c1_ : xk < 1
      · have HR := Lib.hid (show encL (ls.map Ln.p) [] = ([], 3) by rw [← HQ.out, encL, if_pos (.inl c1_)])
        go_wp2
        go_ret2
        rw [HR.out]
        exact ⟨none, rfl, Arr.nil rfl, AB.none_ _, HO.out.fr⟩
      by_cases c2_ : 4 < xk
      · have HR := Lib.hid (show encL (ls.map Ln.p) [] = ([], 3) by rw [← HQ.out, encL, if_pos (.inr (.inl c2_))])
        have b1 : decide (xk < 1) = false := by simpa using c1_
        go_wp2
        go_ret2
        rw [HR.out]
        exact ⟨none, rfl, Arr.nil rfl, AB.none_ _, HO.out.fr⟩
      by_cases c3_ : xk = 1
      · subst c3_
        rcases xd with _ | ⟨x0, xd⟩
        · have HR := Lib.hid (show encL (ls.map Ln.p) [] = ([], 3) by rw [← HQ.out, encL, if_pos (.inr (.inr ⟨rfl, rfl⟩))])
          go_wp2
          go_ret2
          rw [HR.out]
          exact ⟨none, rfl, Arr.nil rfl, AB.none_ _, HO.out.fr⟩
        · have hne : x0 :: xd ≠ [] := by simp
          have hpos : 0 < (x0 :: xd).length := by simp
          generalize x0 :: xd = b at *
          have b1 : ((b.length : Int) == 0) = false := by simp; omega
          by_cases c4_ : 65516 < b.length
          · have HR := Lib.hid (show encL (ls.map Ln.p) [] = ([], 5) by
              rw [← HQ.out, encL, if_neg (by simp [hne]), if_neg (by simp), if_pos c4_])
            clear hne
            go_wp2
            go_ret2
            rw [HR.out]
            exact ⟨none, rfl, Arr.nil rfl, AB.none_ _, HO.out.fr⟩
          · have HR := Lib.hid (show encL ((ls.drop (k + 1)).map Ln.p) (out ++ hex4 (b.length + 4) ++ b) = encL (ls.map Ln.p) [] by
              rw [← HQ.out]; conv => rhs; rw [encL, if_neg (by simp [hne]), if_neg (by simp), if_neg c4_])
            clear hne
            obtain ⟨N, hN⟩ : ∃ N : Nat, b.length + 4 = N := ⟨_, rfl⟩
            have hN2 : N ≤ 65520 := by omega
            go_upto_region 12 with fail
            rw [show (b.length : Int) + 4 = (N : Int) by omega]
            rw [hN] at HR
            have HN4 := Lib.hid hN
            clear hN
            have hl : out.length + N ≤ 140737488355328 := by have := HN.out; have := HN4.out; simp [tot] at *; omega
            obtain ⟨d1, f1, m0, k1⟩ : ∃ d1 : Nat, d1 < 16 ∧ (N : Int) / 4096 = (d1 : Int) ∧ Hid (d1 = N / 4096 % 16) := ⟨N / 4096 % 16, by omega, by omega, rfl⟩
            obtain ⟨d2, f2, m1, k2⟩ : ∃ d1 : Nat, d1 < 16 ∧ bits .and .i64 ((N : Int) / 256) 15 = (d1 : Int) ∧ Hid (d1 = N / 256 % 16) := ⟨N / 256 % 16, by omega, mask15 _ _ (by omega), rfl⟩
            obtain ⟨d3, f3, m2, k3⟩ : ∃ d1 : Nat, d1 < 16 ∧ bits .and .i64 ((N : Int) / 16) 15 = (d1 : Int) ∧ Hid (d1 = N / 16 % 16) := ⟨N / 16 % 16, by omega, mask15 _ _ (by omega), rfl⟩
            obtain ⟨d4, f4, m3, k4⟩ : ∃ d1 : Nat, d1 < 16 ∧ bits .and .i64 (N : Int) 15 = (d1 : Int) ∧ Hid (d1 = N % 16) := ⟨N % 16, by omega, mask15 _ _ (by omega), rfl⟩
            have g1 : (d1 : Int) < 16 := by omega
            have g2 : (d2 : Int) < 16 := by omega
            have g3 : (d3 : Int) < 16 := by omega
            have g4 : (d4 : Int) < 16 := by omega
            have n1 := dig_at d1 f1
            have n2 := dig_at d2 f2
            have n3 := dig_at d3 f3
            have n4 := dig_at d4 f4
            have HX := Lib.hid (show [dgt d1, dgt d2, dgt d3, dgt d4] = hex4 N by rw [k1.out, k2.out, k3.out, k4.out]; rfl)
            generalize dgt d1 = y1 at n1 HX
            generalize dgt d2 = y2 at n2 HX
            generalize dgt d3 = y3 at n3 HX
            generalize dgt d4 = y4 at n4 HX
            have hN3 : 4 ≤ N := by have := HN4.out; omega
            refine wp_region_any (by kernel_rfl) ?_
            change wpAny _ _ _ _ _ _ _ (World.drew _)
            refine wpAny_take (i := 0) (v := ?_) rfl (by kernel_rfl) (by kernel_rfl) (by kernel_rfl) (fun _ _ _ h => h) (Or.inl ⟨by rfl, ?_⟩) ?_
            case refine_2 => (intro w9; go_simp; try with_reducible rfl)
            try simp only [Act.put, List.setIfInBounds_toArray, List.set_cons_zero, List.set_cons_succ]
            refine wpAny_take (i := 1) (v := ?_) rfl (by kernel_rfl) (by kernel_rfl) (by kernel_rfl) (fun _ _ _ h => h) (Or.inl ⟨by rfl, ?_⟩) ?_
            case refine_2 => (intro w9; go_simp; try with_reducible rfl)
            try simp only [Act.put, List.setIfInBounds_toArray, List.set_cons_zero, List.set_cons_succ]
            refine wpAny_take (i := 2) (v := ?_) rfl (by kernel_rfl) (by kernel_rfl) (by kernel_rfl) (fun _ _ _ h => h) (Or.inl ⟨by rfl, ?_⟩) ?_
            case refine_2 => (intro w9; go_simp; try with_reducible rfl)
            try simp only [Act.put, List.setIfInBounds_toArray, List.set_cons_zero, List.set_cons_succ]
            refine wpAny_take (i := 3) (v := ?_) rfl (by kernel_rfl) (by kernel_rfl) (by kernel_rfl) (fun _ _ _ h => h) (Or.inl ⟨by rfl, ?_⟩) ?_
            case refine_2 => (intro w9; go_simp; try with_reducible rfl)
            try simp only [Act.put, List.setIfInBounds_toArray, List.set_cons_zero, List.set_cons_succ]
            refine wpAny_take (i := 4) (v := ?_) rfl (by kernel_rfl) (by kernel_rfl) (by kernel_rfl) (fun _ _ _ h => h) (Or.inl ⟨by rfl, ?_⟩) ?_
            case refine_2 => (intro w9; go_simp; try with_reducible rfl)
            try simp only [Act.put, List.setIfInBounds_toArray, List.set_cons_zero, List.set_cons_succ]
            refine wpAny_take (i := 5) (v := ?_) rfl (by kernel_rfl) (by kernel_rfl) (by kernel_rfl) (fun _ _ _ h => h) (Or.inl ⟨by rfl, ?_⟩) ?_
            case refine_2 => (intro w9; go_simp; try with_reducible rfl)
            try simp only [Act.put, List.setIfInBounds_toArray, List.set_cons_zero, List.set_cons_succ]
            refine wpAny_take (i := 6) (v := ?_) rfl (by kernel_rfl) (by kernel_rfl) (by kernel_rfl) (fun _ _ _ h => h) (Or.inl ⟨by rfl, ?_⟩) ?_
            case refine_2 => (intro w9; go_simp; try with_reducible rfl)
            try simp only [Act.put, List.setIfInBounds_toArray, List.set_cons_zero, List.set_cons_succ]
            refine wpAny_take (i := 7) (v := ?_) rfl (by kernel_rfl) (by kernel_rfl) (by kernel_rfl) (fun _ _ _ h => h) (Or.inl ⟨by rfl, ?_⟩) ?_
            case refine_2 => (intro w9; go_simp; try with_reducible rfl)
            try simp only [Act.put, List.setIfInBounds_toArray, List.set_cons_zero, List.set_cons_succ]
            refine wpAny_take (i := 8) (v := ?_) rfl (by kernel_rfl) (by kernel_rfl) (by kernel_rfl) (fun _ _ _ h => h) (Or.inl ⟨by rfl, ?_⟩) ?_
            case refine_2 => (intro w9; go_simp; try with_reducible rfl)
            try simp only [Act.put, List.setIfInBounds_toArray, List.set_cons_zero, List.set_cons_succ]
            refine wpAny_take (i := 9) (v := ?_) rfl (by kernel_rfl) (by kernel_rfl) (by kernel_rfl) (fun _ _ _ h => h) (Or.inl ⟨by rfl, ?_⟩) ?_
            case refine_2 => (intro w9; go_simp; try with_reducible rfl)
            try simp only [Act.put, List.setIfInBounds_toArray, List.set_cons_zero, List.set_cons_succ]
            refine wpAny_take (i := 10) (v := ?_) rfl (by kernel_rfl) (by kernel_rfl) (by kernel_rfl) (fun _ _ _ h => h) (Or.inl ⟨by rfl, ?_⟩) ?_
            case refine_2 => (intro w9; go_simp; try with_reducible rfl)
            try simp only [Act.put, List.setIfInBounds_toArray, List.set_cons_zero, List.set_cons_succ]
            refine wpAny_take (i := 11) (v := ?_) rfl (by kernel_rfl) (by kernel_rfl) (by kernel_rfl) (fun _ _ _ h => h) (Or.inl ⟨by rfl, ?_⟩) ?_
            case refine_2 => (intro w9; go_simp; try with_reducible rfl)
            try simp only [Act.put, List.setIfInBounds_toArray, List.set_cons_zero, List.set_cons_succ]
            refine wpAny_take (i := 12) (v := ?_) rfl (by kernel_rfl) (by kernel_rfl) (by kernel_rfl) (fun _ _ _ h => h) (Or.inl ⟨by rfl, ?_⟩) ?_
            case refine_2 => (intro w9; go_simp; try with_reducible rfl)
            try simp only [Act.put, List.setIfInBounds_toArray, List.set_cons_zero, List.set_cons_succ]
            refine wpAny_take (i := 13) (v := ?_) rfl (by kernel_rfl) (by kernel_rfl) (by kernel_rfl) (fun _ _ _ h => h) (Or.inl ⟨by rfl, ?_⟩) ?_
            case refine_2 => (intro w9; go_simp; try with_reducible rfl)
            try simp only [Act.put, List.setIfInBounds_toArray, List.set_cons_zero, List.set_cons_succ]
            refine wpAny_take (i := 14) (v := ?_) rfl (by kernel_rfl) (by kernel_rfl) (by kernel_rfl) (fun _ _ _ h => h) (Or.inl ⟨by rfl, ?_⟩) ?_
            case refine_2 => (intro w9; go_simp; try with_reducible rfl)
            try simp only [Act.put, List.setIfInBounds_toArray, List.set_cons_zero, List.set_cons_succ]
            refine wpAny_ready (rs := [15]) (by kernel_rfl) (by simp) ?_
            refine AllReady.cons rfl (fun K hK => ?_) AllReady.nil
            go_simp
            refine hK _ _ ?_
            clear hK K
            refine wpAny_ready (rs := [16]) (by kernel_rfl) (by simp) ?_
            refine AllReady.cons rfl (fun K hK => ?_) AllReady.nil
            refine step_append_any _ rfl (.tmp 55) (.tmp 70) 23 rfl 5 i0 _ 1 1 Try.underlying23 hi0 hz0 hz1 hz2 rfl (by omega) (.slice A1 out.length c1) out.length (bv out) rfl ((HO.out.fresh ((Upd.refl w2).drew)).fresh ((Upd.refl _).alloc _)).own (fun _ => True) (some ⟨w2.heap.size, 0, none⟩) 4 4 (bv [y1, y2, y3, y4]) rfl (reads_cells w2.drew _ _ rfl 4 rfl) (bv_one _) (by unfold maxLen; omega) (by omega) ?_
            intro A3 d5 w3 hown3 hg3 hat3
            have HO3 := Lib.hid ((HO.out.fresh ((Upd.refl w2).drew)).app ((Upd.refl _).alloc _) hown3 (by simp) hg3 hat3)
            have HB3 := Lib.hid ((HB.out.drew.alloc _).grown hg3 (fun e => own_blk_ne HO.out.own HB.out (by decide) e.symm))
            clear hown3 hg3 hat3
            refine hK _ _ ?_
            clear hK K
            refine wpAny_take (i := 17) (v := ?_) rfl (by kernel_rfl) (by kernel_rfl) (by kernel_rfl) (fun _ _ _ h => h) (Or.inl ⟨by rfl, ?_⟩) ?_
            case refine_2 => (intro w9; go_simp; try with_reducible rfl)
            refine wpAny_done (by kernel_rfl) ?_ _
            have k1 := HB3.out.cell 1
            simp only [List.getElem?_toArray, List.getElem?_cons_zero, List.getElem?_cons_succ] at k1
            have HD := Lib.hid (HL.out.fresh HO3.out.fr).1
            obtain ⟨o2, ho2⟩ : ∃ o2, out ++ [y1, y2, y3, y4] = o2 := ⟨_, rfl⟩
            have hlen : out.length + 4 = o2.length := by rw [← ho2]; simp
            have hl2 : o2.length + b.length ≤ 140737488355328 := by have := HN4.out; omega
            rw [ho2] at HO3
            rw [HX.out] at ho2
            rw [hlen]
            have HO2 := Lib.hid ho2
            have HLN := Lib.hid hlen
            clear ho2 hlen
            go_wp2_with (first
              | (at_builtin
                 refine wpList_append_any _ rfl (.tmp 72) (.tmp 74) 23 rfl 5 i0 _ 1 1 Try.underlying23 hi0 hz0 hz1 hz2 rfl (by omega) (.slice A3 o2.length d5) o2.length (bv o2) rfl HO3.out.own (fun _ => True) xB b.length xc (bv b) rfl HD.out (bv_one _) (by unfold maxLen; omega) (by omega) ?_
                 intro A6 d6 w6 hown6 hg6 hat6
                 have HO6 := Lib.hid (HO3.out.app (Upd.refl _) hown6 (by simp) hg6 hat6)
                 clear hown6 hg6 hat6))
            go_roundg (gk - 1)
            case measure => omega
            case rel =>
              have h6 := HO6.out
              have hr := HR.out
              rw [HO2.out] at hr
              refine ⟨k + 1, A6, d6, o2 ++ b, by omega, by go_num, by rw [List.length_append], ⟨h6, hr, ?_⟩⟩
              have := HN.out
              have := HLN.out
              rw [tot_cons] at *
              simp at *
              omega
      · obtain ⟨q, hq⟩ : ∃ q : Nat, xk = (q : Int) + 2 := ⟨(xk - 2).toNat, by omega⟩
        subst hq
        have hq2 : q ≤ 2 := by omega
        have HR := Lib.hid (show encL ((ls.drop (k + 1)).map Ln.p) (out ++ [48, 48, 48, UInt8.ofNat (48 + q)]) = encL (ls.map Ln.p) [] by
          rw [← HQ.out]; conv => rhs; rw [encL, if_neg (by omega), if_pos c3_]
          rw [show ((q : Int) + 2).toNat = q + 2 by omega, show 46 + (q + 2) = 48 + q by omega])
        have hbv : (#[Value.int .u8 48, .int .u8 48, .int .u8 48, .int .u8 (48 + ((q : Int) + 2) - 2)] : Array Value).toList = bv [48, 48, 48, UInt8.ofNat (48 + q)] := by
          have e : ((UInt8.ofNat (48 + q)).toNat : Int) = 48 + ((q : Int) + 2) - 2 := by rw [UInt8.toNat_ofNat']; omega
          simp only [bv, List.map_cons, List.map_nil, e]
          rfl
        have HV := Lib.hid hbv
        have hl : out.length + 4 ≤ 140737488355328 := by have := HN.out; simp [tot] at this; omega
        clear hbv
        go_wp2_with (first
          | (at_builtin
             refine wpList_append_any _ rfl (.tmp 38) (.tmp 44) 23 rfl 5 i0 _ 1 1 Try.underlying23 hi0 hz0 hz1 hz2 rfl (by omega) (.slice A1 out.length c1) out.length (bv out) rfl
               (HO.out.fresh ((Upd.refl w2).alloc _)).own (fun _ => True) (some ⟨w2.heap.size, 0, none⟩) 4 4 (bv [48, 48, 48, UInt8.ofNat (48 + q)]) rfl (reads_cells w2 _ _ HV.out 4 rfl) (bv_one _) (by unfold maxLen; omega) (by omega) ?_
             intro A3 d3 w3 hown3 hg3 hat3
             have HO3 := Lib.hid (HO.out.app ((Upd.refl w2).alloc _) hown3 (by simp) hg3 hat3)
             clear hown3 hg3 hat3))
        go_roundg (gk - 1)
        case measure => omega
        case rel =>
          refine ⟨k + 1, A3, d3, _, by omega, by go_num, ?_, ⟨HO3.out, HR.out, ?_⟩⟩
          · simp
          · have := HN.out
            rw [tot_cons] at this
            simp at this ⊢
            omega
    · obtain rfl : k = ls.length := by omega
      have hcap := owns_cap HE.out.own.own
      unfold maxLen at hcap
      obtain ⟨hc1, _, hc2⟩ := hcap
      have HQ := Lib.hid (show encL (ls.map Ln.p) [] = (out, 0) by rw [← HE.out.eq, List.drop_length]; rfl)
      go_wp2_with fail
      refine (clip_o A1 out.length c1 _ hc1 (by omega)).mono ?_
      rintro e w1 ⟨rfl, rfl⟩
      go_wp2_with fail
      go_ret2
      rw [HQ.out]
      exact ⟨A1, rfl, HE.out.own.got⟩
end Go.Proofs.Ytgknfbmlljhidaa
