import Derived.Test.YtgknfbmlljhidaaLn
namespace Go.Proofs.Ytgknfbmlljhidaa
open Go.RowKit

/-! ### Decode -/
/-- The whole lines of bytes from a place on, behind those that were read; how far, what is wrong. -/
def decL (b : List UInt8) : Nat → Nat → List (Int × List UInt8) → List (Int × List UInt8) × Nat × Nat
  | 0, p, l => (l, p, 0)
  | f + 1, p, l =>
    if b.length < p + 4 then (l, p, 0)
    else match sizeS ((b.drop p).take 4) with
      | none => ([], 0, 3)
      | some n =>
        if 65520 < n then ([], 0, 5)
        else if n < 3 then decL b f (p + 4) (l ++ [(2 + (n : Int), [])])
        else if b.length < p + n then (l, p, 0)
        else decL b f (p + n) (l ++ [(1, (b.drop (p + 4)).take (n - 4))])
def decS (b : List UInt8) : List (Int × List UInt8) × Nat × Nat := decL b (b.length + 1) 0 []

/-- Lines that a call has made: a row of its own, the bytes in rows of their own. -/
structure OwnL (w0 w : World) (A : Option Addr) (c : Nat) (ls : List Ln) : Prop where
  own : w.ownsRow 0 28 2 (.slice A ls.length c) ls.length (lcells ls)
  dat : ∀ x ∈ ls, Arr w 5 x.B x.d.length (bv x.d) ∧ x.c = x.d.length ∧ (x.B = none → x.c = 0) ∧ x.d.length ≤ 140737488355328
  ab : AB w0 A
  fr : Fresh w0 w
theorem OwnL.nil {w0 w : World} (h : Fresh w0 w) : OwnL w0 w none 0 [] := ⟨World.ownsRow_nil _ _ _ _, by simp, AB.none_ _, h⟩
theorem OwnL.fresh {w0 w w' : World} {A : Option Addr} {c : Nat} {ls : List Ln} (h : OwnL w0 w A c ls) (hu : Fresh w w') : OwnL w0 w' A c ls :=
  ⟨owns_upd h.own hu (fun _ _ h => h), fun x hx => ⟨(h.dat x hx).1.upd hu (fun _ _ h => h), (h.dat x hx).2⟩, h.ab, h.fr.trans hu (fun _ _ h => h)⟩
theorem OwnL.app {w0 w w1 w2 : World} {A A2 : Option Addr} {c c2 n : Nat} {ls : List Ln} {x : Ln} (h : OwnL w0 w A c ls) (h1 : Fresh w w1) (hx : Arr w1 5 x.B x.d.length (bv x.d) ∧ x.c = x.d.length ∧ (x.B = none → x.c = 0) ∧ x.d.length ≤ 140737488355328)
    (ho : w2.ownsRow 0 28 2 (.slice A2 n c2) n (lcells ls ++ x.cells)) (hn : n = (ls ++ [x]).length) (hg : w1.grownBy w2 (Value.slice A ls.length c).ownBlock)
    (hat : (Value.slice A2 n c2).ownBlock = (Value.slice A ls.length c).ownBlock ∨ (Value.slice A2 n c2).ownBlock = some w1.heap.size) : OwnL w0 w2 A2 c2 (ls ++ [x]) := by
  subst hn
  have hu : Upd (fun i => w0.heap.size ≤ i ∧ A.map (·.block) = some i) w1 w2 := (Upd.refl w1).grown hg (fun i hi _ => ⟨h.ab i (by rw [ownBlock_map] at hi; exact hi), by rw [ownBlock_map] at hi; exact hi⟩)
  have h1f := h.fresh h1
  have keep : ∀ {B : Option Addr} {k : Nat} {xs : List Value}, Arr w1 5 B k xs → Arr w2 5 B k xs := by
    intro B k xs ha
    refine ⟨ha.1, fun hk => ?_⟩
    obtain ⟨g, cur, rfl, hb, hle, ht⟩ := ha.2 hk
    refine ⟨g, cur, rfl, hb.upd hu ?_, hle, ht⟩
    rintro ⟨_, e⟩
    exact own_blk_ne h1f.own hb (by decide) (by rw [ownBlock_map]; exact e)
  refine ⟨by simpa [lcells] using ho, ?_, ?_, ?_⟩
  · intro y hy
    rcases List.mem_append.1 hy with hy | hy
    · exact ⟨keep (h1f.dat y hy).1, (h1f.dat y hy).2⟩
    · simp at hy
      subst hy
      exact ⟨keep hx.1, hx.2⟩
  · intro k hk
    rw [ownBlock_map, ownBlock_map, hk] at hat
    rcases hat with e | e
    · exact h.ab k e.symm
    · injection e with e
      have := h1f.fr.size
      omega
  · have h2 := (Fresh.to (F := fun i => w0.heap.size ≤ i) h1f.fr).trans (hu.mono (G := fun i => w0.heap.size ≤ i) (fun _ h => h.1)) (fun _ _ h => h)
    exact ⟨h2.os, h2.tape, h2.output, h2.size, fun k hk _ => h2.block k hk (by omega)⟩
theorem OwnL.lsr {w0 w : World} {A : Option Addr} {c : Nat} {ls : List Ln} (h : OwnL w0 w A c ls) : LsR w A ls :=
  ⟨(Reads.of_own h.own).weak (fun _ _ => trivial), fun x hx => ⟨((h.dat x hx).1.reads).weak (fun _ _ => trivial), (h.dat x hx).2.2.1, by rw [(h.dat x hx).2.1]; omega, by rw [(h.dat x hx).2.1]; have := (h.dat x hx).2.2.2; omega⟩⟩
theorem OwnL.since {w0 w1 w : World} {A : Option Addr} {c : Nat} {ls : List Ln} (h : OwnL w1 w A c ls) (hu : Fresh w0 w1) : OwnL w0 w A c ls := ⟨h.own, h.dat, fun k hk => Nat.le_trans hu.size (h.ab k hk), hu.trans h.fr (fun _ _ h => h)⟩

def DecO (r : List (Int × List UInt8) × Nat × Nat) (w : World) (e : Ending) (w' : World) : Prop :=
  ∃ A c ls, e = .returned (.tuple #[.slice A ls.length ls.length, .int .i64 (r.2.1 : Int), .int .i64 (r.2.2 : Int)]) ∧ OwnL w w' A c ls ∧ ls.map Ln.p = r.1
/-- Decode, under way. -/
structure DecAt (w0 w : World) (b : List UInt8) (p : Nat) (A : Option Addr) (c : Nat) (ls : List Ln) : Prop where
  own : OwnL w0 w A c ls
  eq : ∃ f, b.length < p + f ∧ decL b f p (ls.map Ln.p) = decS b
  le : p ≤ b.length
  cnt : ls.length ≤ p
theorem DecAt.short {w0 w : World} {b : List UInt8} {p : Nat} {A : Option Addr} {c : Nat} {ls : List Ln} (h : DecAt w0 w b p A c ls) (hp : b.length < p + 4) : decS b = (ls.map Ln.p, p, 0) := by
  obtain ⟨f, hf, e⟩ := h.eq
  obtain ⟨f, rfl⟩ : ∃ f', f = f' + 1 := ⟨f - 1, by have := h.le; omega⟩
  rw [← e, decL, if_pos hp]
theorem DecAt.bad {w0 w : World} {b : List UInt8} {p : Nat} {A : Option Addr} {c : Nat} {ls : List Ln} (h : DecAt w0 w b p A c ls) (hp : ¬ b.length < p + 4) (hs : sizeS ((b.drop p).take 4) = none) : decS b = ([], 0, 3) := by
  obtain ⟨f, hf, e⟩ := h.eq
  obtain ⟨f, rfl⟩ : ∃ f', f = f' + 1 := ⟨f - 1, by omega⟩
  rw [← e, decL, if_neg hp, hs]
theorem DecAt.big {w0 w : World} {b : List UInt8} {p n : Nat} {A : Option Addr} {c : Nat} {ls : List Ln} (h : DecAt w0 w b p A c ls) (hp : ¬ b.length < p + 4) (hs : sizeS ((b.drop p).take 4) = some n) (hn : 65520 < n) : decS b = ([], 0, 5) := by
  obtain ⟨f, hf, e⟩ := h.eq
  obtain ⟨f, rfl⟩ : ∃ f', f = f' + 1 := ⟨f - 1, by omega⟩
  rw [← e, decL, if_neg hp, hs]
  simp [hn]
theorem DecAt.sign {w0 w w2 : World} {b : List UInt8} {p n : Nat} {A A2 : Option Addr} {c c2 : Nat} {ls : List Ln} (h : DecAt w0 w b p A c ls) (hp : ¬ b.length < p + 4) (hs : sizeS ((b.drop p).take 4) = some n) (hn : n < 3) (ho : OwnL w0 w2 A2 c2 (ls ++ [⟨2 + (n : Int), [], none, 0⟩])) :
    DecAt w0 w2 b (p + 4) A2 c2 (ls ++ [⟨2 + (n : Int), [], none, 0⟩]) := by
  obtain ⟨f, hf, e⟩ := h.eq
  obtain ⟨f, rfl⟩ : ∃ f', f = f' + 1 := ⟨f - 1, by omega⟩
  refine ⟨ho, ⟨f, by omega, ?_⟩, by omega, by have := h.cnt; simp; omega⟩
  rw [← e, decL, if_neg hp, hs]
  simp only [if_neg (show ¬ 65520 < n by omega), if_pos hn]
  simp [Ln.p]
theorem DecAt.part {w0 w : World} {b : List UInt8} {p n : Nat} {A : Option Addr} {c : Nat} {ls : List Ln} (h : DecAt w0 w b p A c ls) (hp : ¬ b.length < p + 4) (hs : sizeS ((b.drop p).take 4) = some n) (hn : ¬ 65520 < n) (hn2 : ¬ n < 3) (hl : b.length < p + n) : decS b = (ls.map Ln.p, p, 0) := by
  obtain ⟨f, hf, e⟩ := h.eq
  obtain ⟨f, rfl⟩ : ∃ f', f = f' + 1 := ⟨f - 1, by omega⟩
  rw [← e, decL, if_neg hp, hs]
  simp only [if_neg hn, if_neg hn2, if_pos hl]
theorem DecAt.line {w0 w w2 : World} {b : List UInt8} {p n : Nat} {A A2 B : Option Addr} {c c2 k : Nat} {ls : List Ln} (h : DecAt w0 w b p A c ls) (hp : ¬ b.length < p + 4) (hs : sizeS ((b.drop p).take 4) = some n) (hn : ¬ 65520 < n) (hn2 : ¬ n < 3) (hl : ¬ b.length < p + n)
    (ho : OwnL w0 w2 A2 c2 (ls ++ [⟨1, (b.drop (p + 4)).take (n - 4), B, k⟩])) : DecAt w0 w2 b (p + n) A2 c2 (ls ++ [⟨1, (b.drop (p + 4)).take (n - 4), B, k⟩]) := by
  obtain ⟨f, hf, e⟩ := h.eq
  obtain ⟨f, rfl⟩ : ∃ f', f = f' + 1 := ⟨f - 1, by omega⟩
  refine ⟨ho, ⟨f, by omega, ?_⟩, by omega, by have := h.cnt; simp; omega⟩
  rw [← e, decL, if_neg hp, hs]
  simp only [if_neg hn, if_neg hn2, if_neg hl]
  simp [Ln.p]
theorem sizeS_ne {b : List UInt8} {n : Nat} (h : sizeS b = some n) : n ≠ 3 ∧ n ≠ 4 := by
  unfold sizeS at h
  split at h
  · cases h
  · split at h
    · cases h
    · injection h with h
      omega
theorem num_lt : ∀ (b : List UInt8) (v n : Nat), num b v = some n → n < (v + 1) * 16 ^ b.length
  | [], v, n, h => by injection h with h; simp; omega
  | c :: r, v, n, h => by
    rw [num] at h
    cases hc : hexv c with
    | none => rw [hc] at h; cases h
    | some d =>
      rw [hc] at h
      have hd : d < 16 := by
        unfold hexv at hc
        split at hc
        · injection hc with hc; omega
        · split at hc
          · injection hc with hc; omega
          · cases hc
      have h1 := num_lt r _ n h
      have h2 : (16 * v + d + 1) * 16 ^ r.length ≤ ((v + 1) * 16) * 16 ^ r.length := Nat.mul_le_mul_right _ (by omega)
      rw [List.length_cons, Nat.pow_succ, Nat.mul_comm (16 ^ r.length), ← Nat.mul_assoc]
      omega
theorem sizeS_lt {b : List UInt8} {n : Nat} (hb : b.length = 4) (h : sizeS b = some n) : n < 65536 := by
  have h1 : num b 0 = some n := by
    unfold sizeS at h
    split at h
    · cases h
    · split at h
      · cases h
      · rename_i h2 _
        rw [h2]; exact h
  have := num_lt b 0 n h1
  rw [hb] at this
  omega

theorem sub_bytes {w : World} {S : Nat → Prop} {ad : Addr} {b : List UInt8} (h : Reads w S 1 (some ad) b.length (bv b)) (p n : Nat) (hp : p + n ≤ b.length) : Reads w S 1 (some (ad.add p)) ((b.drop p).take n).length (bv ((b.drop p).take n)) := by
  have hlen : ((b.drop p).take n).length = n := by simp; omega
  refine ⟨by simp [bv], fun hn => ?_⟩
  obtain ⟨ad', e, hs, hb, hc⟩ := h.2 (by omega)
  injection e with e
  subst e
  refine ⟨_, rfl, by rw [block_of_add]; exact hs, by rw [block_of_add]; exact hb, fun j u hu => ?_⟩
  rw [add_of_add]
  refine hc _ u ?_
  rw [← hu]
  have hj : j < n := by
    have := (List.getElem?_eq_some_iff.1 hu).1
    simp [bv] at this
    omega
  simp only [bv, List.getElem?_map]
  rw [List.getElem?_take, if_pos hj, List.getElem?_drop]

set_option maxHeartbeats 3200000 in
theorem dec_o {A : Option Addr} {cp : Nat} {b : List UInt8} {w : World} (h : Reads w (fun _ => True) 1 A b.length (bv b)) (hl : b.length ≤ 1099511627776) (hc : b.length ≤ cp) (hm : cp ≤ 9223372036854775807) :
    Calls Try.prog 8 #[.slice A b.length cp] w (DecO (decS b) w) := by
  obtain ⟨i0, hi0, hz0, hz1, hz2⟩ := info_parts Try.info28
  have H := Lib.hid h
  clear h
  go_enter Try.func8, Try.ntmps8
  go_wp2
  go_loopg [2, 3] b.length (fun gk s2 s3 wx => ∃ (p : Nat) (A1 : Option Addr) (c1 : Nat) (ls : List Ln), gk + p = b.length ∧ s3 = .int .i64 (p : Int) ∧ s2 = .slice A1 ls.length c1 ∧ Hid (DecAt w wx b p A1 c1 ls))
  case atStart => exact ⟨0, none, 0, [], rfl, rfl, rfl, OwnL.nil (Upd.refl w), ⟨b.length + 1, by omega, rfl⟩, Nat.zero_le _, Nat.zero_le _⟩
  case round =>
    obtain ⟨p, A1, c1, ls, hgk, rfl, rfl, HD⟩ := hrel
    have hple := HD.out.le
    have hcap := owns_cap HD.out.own.own
    unfold maxLen at hcap
    obtain ⟨hc1, _, hc2⟩ := hcap
    have hcnt := HD.out.cnt
    by_cases hp : b.length < p + 4
    · have HS := Lib.hid (HD.out.short hp)
      go_wp2_with fail
      refine (clipl_o A1 ls.length c1 _ hc1 (by omega)).mono ?_
      rintro e w1 ⟨rfl, rfl⟩
      go_wp2_with fail
      go_ret3
      rw [HS.out]
      exact ⟨A1, c1, ls, rfl, HD.out.own, rfl⟩
    · obtain ⟨ad, hA, -⟩ := H.out.2 (by omega)
      subst hA
      have HR := Lib.hid (H.out.upd HD.out.own.fr (fun _ _ h => h))
      have hcp : ¬ cp = p := by omega
      have x1 : (p : Int) ≤ (cp : Int) := by omega
      have x2 : (p : Int) ≤ (b.length : Int) := by omega
      have HS4 := Lib.hid (sub_bytes HR.out p 4 (by omega))
      have h4 : ((b.drop p).take 4).length = 4 := by simp; omega
      have hlt := fun n => sizeS_lt (n := n) h4
      have hne := fun n => sizeS_ne (b := (b.drop p).take 4) (n := n)
      have HSZ := Lib.hid (size_o HS4.out (n := b.length - p) (c := cp - p) h4 (by omega) (by omega) (by omega))
      have HB := Lib.hid (HD.out.bad hp)
      have HG := Lib.hid (fun n => HD.out.big (n := n) hp)
      have HI := Lib.hid (fun n w2 A2 c2 => HD.out.sign (n := n) (w2 := w2) (A2 := A2) (c2 := c2) hp)
      have HP := Lib.hid (fun n => HD.out.part (n := n) hp)
      have HL := Lib.hid (fun n w2 A2 B c2 k => HD.out.line (n := n) (w2 := w2) (A2 := A2) (B := B) (c2 := c2) (k := k) hp)
      have HO := Lib.hid HD.out.own
      cases hz : sizeS ((b.drop p).take 4) with
      | none =>
        have HX := Lib.hid (HB.out hz)
        rw [hz] at HSZ
        clear hlt hne h4 hz
        go_wp2_with fail
        refine HSZ.out.mono ?_
        rintro e w1 ⟨rfl, rfl⟩
        simp only [Option.getD_none, Option.isSome_none]
        go_wp2_with fail
        go_ret3
        rw [HX.out]
        exact ⟨none, 0, [], rfl, OwnL.nil HO.out.fr, rfl⟩
      | some n =>
        have hn1 := hlt n hz
        have hn2 := hne n hz
        rw [hz] at HSZ
        have HG := Lib.hid (fun h => HG.out n hz h)
        have HI := Lib.hid (fun w2 A2 c2 => HI.out n w2 A2 c2 hz)
        have HP := Lib.hid (fun h1 h2 h3 => HP.out n hz h1 h2 h3)
        have HL := Lib.hid (fun w2 A2 B c2 k => HL.out n w2 A2 B c2 k hz)
        clear hlt hne h4 hz
        go_wp2_with fail
        refine HSZ.out.mono ?_
        rintro e w1 ⟨rfl, rfl⟩
        simp only [Option.getD_some, Option.isSome_some]
        by_cases hb : 65520 < n
        · have HX := Lib.hid (HG.out hb)
          go_wp2_with fail
          go_ret3
          rw [HX.out]
          exact ⟨none, 0, [], rfl, OwnL.nil HO.out.fr, rfl⟩
        · by_cases h3 : n < 3
          · have HX := Lib.hid (fun w2 A2 c2 => HI.out w2 A2 c2 h3)
            go_wp2_with (first
              | (at_builtin
                 refine wpList_append_any _ rfl (.tmp 28) (.tmp 32) 29 rfl 28 i0 _ 2 32 Try.underlying29 hi0 hz0 hz1 hz2 rfl (by omega) (.slice A1 ls.length c1) ls.length (lcells ls) rfl (HO.out.fresh ((Upd.refl wr).alloc _)).own (fun _ => True) (some ⟨wr.heap.size, 0, none⟩) 1 1 _ rfl (reads_new wr #[.int .i64 (2 + (n : Int)), .slice none 0 0] 28 2 1 rfl) (by simp [Value.oneCell']) (by unfold maxLen; omega) (by omega) ?_
                 intro A3 d3 w3 hown3 hg3 hat3
                 have HO3 := Lib.hid (HX.out _ _ _ (HO.out.app (x := ⟨2 + (n : Int), [], none, 0⟩) ((Upd.refl wr).alloc _) ⟨Arr.nil rfl, rfl, fun _ => rfl, Nat.zero_le _⟩ hown3 (by simp) hg3 hat3))
                 clear hown3 hg3 hat3))
            go_roundg (gk - 4)
            case measure => omega
            case rel => exact ⟨p + 4, A3, d3, _, by omega, by go_num, by rw [List.length_append]; rfl, HO3.out⟩
          · by_cases hpn : b.length < p + n
            · have HX := Lib.hid (HP.out hb h3 hpn)
              go_wp2_with fail
              refine (clipl_o A1 ls.length c1 _ hc1 (by omega)).mono ?_
              rintro e w1 ⟨rfl, rfl⟩
              go_wp2_with fail
              go_ret3
              rw [HX.out]
              exact ⟨A1, c1, ls, rfl, HO.out, rfl⟩
            · have HX := Lib.hid (fun w2 A2 B c2 k => HL.out w2 A2 B c2 k hb h3 hpn)
              obtain ⟨hn3, hn4⟩ := hn2
              have hn5 : 5 ≤ n := by omega
              have y1 : (p : Int) + 4 ≤ (p : Int) + n := by omega
              have y2 : (p : Int) + n ≤ (cp : Int) := by omega
              have hsub := sub_bytes HR.out (p + 4) (n - 4) (by omega)
              have hdl : ((b.drop (p + 4)).take (n - 4)).length = n - 4 := by simp; omega
              generalize (b.drop (p + 4)).take (n - 4) = d at hsub hdl HX
              have HSB := Lib.hid hsub
              have HDL := Lib.hid hdl
              clear hsub hdl
              go_wp2_with fail
              have ha : (⟨ad.block, ad.off + (p + 3 + 1), none⟩ : Addr) = ad.add (p + 4) := by simp [Addr.add]
              rw [ha, show p + n - (p + 4) = d.length by rw [HDL.out]; omega]
              clear ha
              have hk : cp - (p + 4) ≤ 9223372036854775807 := by omega
              have hdb : d.length ≤ 140737488355328 := by rw [HDL.out]; omega
              have HDB := Lib.hid hdb
              refine (clone_o HSB.out hdb (fun h => by cases h)).mono ?_
              rintro e w3 ⟨B, k, rfl, hk1, hk2, hk3, ha3, hab3, hf3⟩
              have HA3 := Lib.hid ha3
              have HO3 := Lib.hid (HO.out.fresh hf3)
              have HK3 := Lib.hid hk3
              clear ha3 hab3 hf3 hdb hk3
              go_wp2_with fail
              refine (clip_o B d.length k _ hk1 hk2).mono ?_
              rintro e w4 ⟨rfl, rfl⟩
              go_wp2_with (first
                | (at_builtin
                   refine wpList_append_any _ rfl (.tmp 42) (.tmp 53) 29 rfl 28 i0 _ 2 32 Try.underlying29 hi0 hz0 hz1 hz2 rfl (by omega) (.slice A1 ls.length c1) ls.length (lcells ls) rfl (HO3.out.fresh ((Upd.refl w3).alloc _)).own (fun _ => True) (some ⟨w3.heap.size, 0, none⟩) 1 1 _ rfl (reads_new w3 #[.int .i64 1, .slice B d.length d.length] 28 2 1 rfl) (by simp [Value.oneCell']) (by unfold maxLen; omega) (by omega) ?_
                   intro A5 d5 w5 hown5 hg5 hat5
                   have HO5 := Lib.hid (HX.out _ _ _ _ _ (HO3.out.app (x := ⟨1, d, B, d.length⟩) ((Upd.refl w3).alloc _) ⟨HA3.out.upd ((Upd.refl w3).alloc (F := fun _ => False) _) (fun _ _ h => h), rfl, fun h => by have := HK3.out h; show d.length = 0; omega, HDB.out⟩ hown5 (by simp) hg5 hat5))
                   clear hown5 hg5 hat5))
              go_roundg (gk - n)
              case measure => omega
              case rel => exact ⟨p + n, A5, d5, _, by omega, by go_num, by rw [List.length_append]; rfl, HO5.out⟩
end Go.Proofs.Ytgknfbmlljhidaa
