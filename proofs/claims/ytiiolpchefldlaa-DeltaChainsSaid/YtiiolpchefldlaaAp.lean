import Derived.Test.YtiiolpchefldlaaSz
import Derived.Test.YtiiolpchefldlaaPc
namespace Go.Proofs.Ytiiolpchefldlaa
open Go.RowKit

/-! ### Apply -/
/-- One instruction: what is made and what stands behind it, or what is wrong. -/
def stepS (base : List UInt8) (tn : Nat) (out : List UInt8) (x : UInt8) (t : List UInt8) : Nat × List UInt8 × List UInt8 :=
  if 128 ≤ x.toNat then match placeS (x.toNat % 128) t with
    | none => (4, [], [])
    | some (off, n, r) => if base.length < off ∨ base.length - off < n ∨ tn - out.length < n then (3, [], []) else (0, out ++ (base.drop off).take n, r)
  else if x.toNat = 0 ∨ tn - out.length < x.toNat then (3, [], [])
  else if t.length < x.toNat then (4, [], [])
  else (0, out ++ t.take x.toNat, t.drop x.toNat)
def runD (base : List UInt8) (tn : Nat) : Nat → List UInt8 → List UInt8 → List UInt8 × Nat
  | 0, _, _ => ([], 0)
  | _ + 1, out, [] => if out.length < tn then ([], 3) else (out, 0)
  | f + 1, out, x :: t => if (stepS base tn out x t).1 ≠ 0 then ([], (stepS base tn out x t).1) else runD base tn f (stepS base tn out x t).2.1 (stepS base tn out x t).2.2
def applyS (base d : List UInt8) (bound : Nat) : List UInt8 × Nat :=
  if (sizesS d).2.2.2 ≠ 0 then ([], (sizesS d).2.2.2)
  else if (sizesS d).1 ≠ base.length then ([], 3)
  else if bound < (sizesS d).2.1 then ([], 5)
  else runD base (sizesS d).2.1 ((sizesS d).2.2.1.length + 1) [] (sizesS d).2.2.1
theorem placeD_some {k o s : Nat} {b r : List UInt8} (h : placeD 7 k 0 0 0 b = some (o, s, r)) : ∀ (f i off sz : Nat) (b' : List UInt8), f + i = 7 → PcAt k b i off sz b' → b'.length ≤ b.length → o < 4294967296 ∧ s < 16777216 ∧ r.length ≤ b.length
  | 0, i, off, sz, b', hf, hp, hl => by
    have := hp.done (by omega)
    rw [h] at this
    injection this with this
    injection this with h1 h2
    injection h2 with h2 h3
    subst h1 h2 h3
    exact ⟨hp.o2, hp.s2, hl⟩
  | f + 1, i, off, sz, b', hf, hp, hl => by
    by_cases hk : k / 2 ^ i % 2 = 0
    · exact placeD_some h f (i + 1) off sz b' (by omega) (hp.skip (by omega) hk) hl
    · rcases b' with _ | ⟨c, t⟩
      · rw [hp.short (by omega) hk] at h
        cases h
      · rw [List.length_cons] at hl
        by_cases h4 : i < 4
        · exact placeD_some h f (i + 1) _ sz t (by omega) (hp.off_ h4 hk) (by omega)
        · exact placeD_some h f (i + 1) off _ t (by omega) (hp.sz_ h4 (by omega) hk) (by omega)
theorem placeS_some {k off n : Nat} {b r : List UInt8} (h : placeS k b = some (off, n, r)) : off < 4294967296 ∧ 1 ≤ n ∧ n < 16777216 ∧ r.length ≤ b.length := by
  unfold placeS at h
  rcases hp : placeD 7 k 0 0 0 b with _ | ⟨o, s, r'⟩
  · rw [hp] at h; cases h
  · rw [hp] at h
    obtain ⟨h1, h2, h3⟩ := placeD_some hp 7 0 0 0 b rfl (PcAt.start k b) (Nat.le_refl _)
    injection h with h
    injection h with e1 h
    injection h with e2 e3
    subst e1 e2 e3
    refine ⟨h1, ?_, ?_, h3⟩
    · split <;> omega
    · split <;> omega
theorem stepS_len (base : List UInt8) (tn : Nat) (out : List UInt8) (x : UInt8) (t : List UInt8) (ho : out.length ≤ tn) (h : (stepS base tn out x t).1 = 0) : (stepS base tn out x t).2.2.length ≤ t.length ∧ (stepS base tn out x t).2.1.length ≤ tn := by
  unfold stepS at h ⊢
  by_cases h1 : 128 ≤ x.toNat
  · rw [if_pos h1] at h ⊢
    rcases hp : placeS (x.toNat % 128) t with _ | ⟨off, n, r⟩
    · rw [hp] at h; simp at h
    · rw [hp] at h
      dsimp only at h ⊢
      obtain ⟨p1, p2, p3, p4⟩ := placeS_some hp
      by_cases h2 : base.length < off ∨ base.length - off < n ∨ tn - out.length < n
      · rw [if_pos h2] at h; simp at h
      · rw [if_neg h2]
        refine ⟨p4, ?_⟩
        dsimp only
        rw [List.length_append, List.length_take, List.length_drop]
        omega
  · rw [if_neg h1] at h ⊢
    by_cases h2 : x.toNat = 0 ∨ tn - out.length < x.toNat
    · rw [if_pos h2] at h; simp at h
    · rw [if_neg h2] at h ⊢
      by_cases h3 : t.length < x.toNat
      · rw [if_pos h3] at h; simp at h
      · rw [if_neg h3]
        dsimp only
        rw [List.length_append, List.length_take, List.length_drop]
        omega
theorem runD_fuel (base : List UInt8) (tn : Nat) : ∀ (f g : Nat) (out d : List UInt8), out.length ≤ tn → d.length < f → d.length < g → runD base tn f out d = runD base tn g out d
  | 0, _, _, _, _, h, _ => by omega
  | _ + 1, 0, _, _, _, _, h => by omega
  | f + 1, g + 1, out, [], _, _, _ => rfl
  | f + 1, g + 1, out, x :: t, ho, h1, h2 => by
    rw [List.length_cons] at h1 h2
    rw [runD, runD]
    by_cases h : (stepS base tn out x t).1 = 0
    · rw [if_neg (by simpa using h), if_neg (by simpa using h)]
      obtain ⟨p1, p2⟩ := stepS_len base tn out x t ho h
      exact runD_fuel base tn f g _ _ p2 (by omega) (by omega)
    · rw [if_pos h, if_pos h]
structure ApAt (w0 w : World) (base : List UInt8) (tn : Nat) (R : List UInt8 × Nat) (A : Option Addr) (d : List UInt8) (c : Nat) (Ao : Option Addr) (co : Nat) (out : List UInt8) : Prop where
  sl : Sl w0 A d c
  own : Own w0 w Ao co out
  eq : runD base tn (d.length + 1) out d = R
  le : out.length ≤ tn
section
variable {w0 w w' : World} {base : List UInt8} {tn : Nat} {R : List UInt8 × Nat} {A Ao : Option Addr} {d t out : List UInt8} {c co : Nat} {x : UInt8}
theorem ApAt.fresh (h : ApAt w0 w base tn R A d c Ao co out) (hu : Fresh w w') : ApAt w0 w' base tn R A d c Ao co out := ⟨h.sl, h.own.fresh hu, h.eq, h.le⟩
theorem ApAt.last (h : ApAt w0 w base tn R A [] c Ao co out) : R = if out.length < tn then ([], 3) else (out, 0) := h.eq.symm
theorem ApAt.bad (h : ApAt w0 w base tn R A (x :: t) c Ao co out) {e : Nat} (he : (stepS base tn out x t).1 = e) (h0 : e ≠ 0) : R = ([], e) := by
  rw [← h.eq, runD, he, if_pos h0]
theorem ApAt.step (h : ApAt w0 w base tn R A (x :: t) c Ao co out) {o2 d2 : List UInt8} (he : stepS base tn out x t = (0, o2, d2)) : runD base tn (d2.length + 1) o2 d2 = R ∧ o2.length ≤ tn ∧ d2.length ≤ t.length := by
  have hl := stepS_len base tn out x t h.le (by rw [he])
  rw [he] at hl
  refine ⟨?_, hl.2, hl.1⟩
  rw [← h.eq, List.length_cons, runD, he, if_neg (by simp)]
  exact runD_fuel base tn _ _ _ _ hl.2 (by omega) (by have := hl.1; dsimp only at this ⊢; omega)
end
theorem numD_le : ∀ (f i v : Nat) (b : List UInt8), (numD f i v b).1 ≤ 2147483647
  | 0, _, _, _ => by simp [numD]
  | _ + 1, _, _, [] => by simp [numD]
  | f + 1, i, v, c :: r => by
    rw [numD]
    split
    · split
      · simp
      · dsimp only; omega
    · exact numD_le f (i + 1) _ r
theorem sizesS_le (b : List UInt8) : (sizesS b).2.1 ≤ 2147483647 := by
  unfold sizesS
  split
  · simp
  · split
    · simp
    · exact numD_le 5 0 0 _
def ApplyO (r : List UInt8 × Nat) (w : World) (e : Ending) (w' : World) : Prop := ∃ A, e = .returned (.tuple #[.slice A r.1.length r.1.length, .int .i64 (r.2 : Int)]) ∧ Got r.1 w A w'
theorem got_none {w w' : World} (h : Fresh w w') : Got [] w none w' := ⟨Arr.nil rfl, AB.none_ _, h⟩
set_option maxHeartbeats 3200000 in
set_option maxRecDepth 100000 in
theorem apply_o {Ab Ad : Option Addr} {cb cd : Nat} {base d : List UInt8} {w : World} {bound : Int} (hb : Sl w Ab base cb) (hd : Sl w Ad d cd) (hx1 : -9223372036854775808 ≤ bound) (hx2 : bound ≤ 9223372036854775807) :
    Calls Try.prog 10 #[.slice Ab base.length cb, .slice Ad d.length cd, .int .i64 bound] w (ApplyO (applyS base d bound.toNat) w) := by
  obtain ⟨i0, hi0, hz0, hz1, hz2⟩ := info_parts Try.info5
  have H1 := Lib.hid (sizes_o hd (Upd.refl w))
  have HB := Lib.hid hb
  have hbc := hb.le
  have hbm := hb.cm
  have hto := sizesS_le d
  unfold applyS
  clear hd hb
  generalize sizesS d = r at H1 hto
  obtain ⟨from_, tn, d1, e0⟩ := r
  dsimp only at H1 hto ⊢
  obtain ⟨nb, hnb⟩ : ∃ nb, bound.toNat = nb := ⟨_, rfl⟩
  rw [hnb]
  obtain ⟨R, hR⟩ : ∃ R : List UInt8 × Nat, (if e0 ≠ 0 then ([], e0) else if from_ ≠ base.length then ([], 3) else if nb < tn then ([], 5) else runD base tn (d1.length + 1) [] d1) = R := ⟨_, rfl⟩
  rw [hR]
  have HR := Lib.hid hR
  clear hR
  go_enter Try.func10, Try.ntmps10
  go_wp2_with fail
  refine H1.out.mono ?_
  rintro e w1 ⟨A1, c1, rfl, S1, F1⟩
  dsimp only at S1
  replace S1 := Lib.hid S1
  replace F1 := Lib.hid F1
  by_cases he : e0 = 0
  · subst he
    by_cases hf : from_ = base.length
    · subst hf
      go_upto_region 6 with fail
      obtain ⟨B, hB⟩ : ∃ B, decide (nb < tn) = B := ⟨_, rfl⟩
      go_cut [34] (fun s wx => s = .bool B ∧ w1 = wx)
      case first =>
        rcases (show (bound < 0 ∧ nb = 0) ∨ (0 ≤ bound ∧ bound = (nb : Int)) by omega) with ⟨h, e⟩ | ⟨h, e⟩
        · subst e
          go_wp2_with fail
          go_meet
          exact ⟨rfl, rfl⟩
        · subst e
          go_wp2_with fail
          go_meet
          exact ⟨by first | rfl | (rw [← hB]; simp), rfl⟩
      obtain ⟨rfl, rfl⟩ := hcut
      clear hnb hx1 hx2
      rcases B with _ | _
      rotate_left
      · have hbig := of_decide_eq_true hB
        clear hB
        go_wp2_with fail
        go_ret2
        have hR := HR.out
        rw [if_neg (by simp), if_neg (by simp), if_pos hbig] at hR
        rw [← hR]
        exact ⟨none, rfl, got_none F1.out⟩
      · have hbig := of_decide_eq_false hB
        clear hB
        replace HR := Lib.hid (show runD base tn (d1.length + 1) [] d1 = R by
          have hR := HR.out
          rwa [if_neg (by simp), if_neg (by simp), if_neg hbig] at hR)
        clear hbig
        go_wp2_with fail
        go_loopg [1, 11] d1.length (fun gk s1 s11 wx => ∃ (A' Ao : Option Addr) (d' out : List UInt8) (c' co : Nat), gk = d'.length ∧ s1 = .slice A' d'.length c' ∧ s11 = .slice Ao out.length co ∧ Hid (ApAt w wx base tn R A' d' c' Ao co out))
        case atStart => exact ⟨A1, none, d1, [], c1, 0, rfl, rfl, rfl, S1.out, Own.nil F1.out, HR.out, Nat.zero_le _⟩
        case round =>
          obtain ⟨A', Ao, d', out, c', co, rfl, rfl, rfl, HA⟩ := hrel
          have hol := HA.out.le
          rcases d' with _ | ⟨x, t⟩
          · have HX := Lib.hid HA.out.last
            by_cases hlt : out.length < tn
            · replace HX := Lib.hid (HX.out.trans (if_pos hlt))
              go_wp2_with fail
              go_ret2
              rw [HX.out]
              exact ⟨none, rfl, got_none HA.out.own.fr⟩
            · replace HX := Lib.hid (HX.out.trans (if_neg hlt))
              have hcp := owns_cap HA.out.own.own
              unfold maxLen at hcp
              go_wp2_with fail
              go_ret2
              rw [HX.out]
              exact ⟨Ao, rfl, HA.out.own.got⟩
          · obtain ⟨ad, rfl, hc⟩ := (HA.out.sl.fresh HA.out.own.fr).head
            have HNA := Lib.hid (show c' = 1 → Sl w (some ad) t 0 from fun e => by
              have := HA.out.sl.next
              rwa [if_pos e, show c' - 1 = 0 by omega] at this)
            have HNB := Lib.hid (show ¬ c' = 1 → Sl w (some ⟨ad.block, ad.off + 1, none⟩) t (c' - 1) from fun e => by
              have := HA.out.sl.next
              rwa [if_neg e] at this)
            have hcp := HA.out.sl.le
            have hcm := HA.out.sl.cm
            rw [List.length_cons] at hcp
            go_upto_region 11 with fail
            go_cut [1] (fun s wx => ∃ A2 c2, s = .slice A2 t.length c2 ∧ Hid (Sl w A2 t c2) ∧ wr = wx)
            case first =>
              go_wp2_with fail
              all_goals go_meet
              all_goals first
                | exact ⟨some ad, 0, by simp, HNA.out (by assumption), rfl⟩
                | exact ⟨some ⟨ad.block, ad.off + 1, none⟩, c' - 1, by simp, HNB.out (by assumption), rfl⟩
            obtain ⟨A2, c2, rfl, S2, rfl⟩ := hcut
            clear hc HNA HNB hcp hcm
            have HO := Lib.hid HA.out.own
            have hc2 := S2.out.le
            have hm2 := S2.out.cm
            have hxl : x.toNat < 256 := x.toNat_lt
            by_cases hx : 128 ≤ x.toNat
            · have hxI : (128 : Int) ≤ (x.toNat : Int) := by omega
              have hlow := u8_low7 x
              have HP := Lib.hid (place_o S2.out HO.out.fr (show x.toNat % 128 < 256 by omega))
              rcases hp : placeS (x.toNat % 128) t with _ | ⟨off, n, r⟩
              · rw [hp] at HP
                have HX := Lib.hid (HA.out.bad (e := 4) (by rw [stepS, if_pos hx, hp]) (by decide))
                clear hp hxl
                generalize x.toNat % 128 = y at hlow HP
                go_wp2_with fail
                refine HP.out.mono ?_
                rintro e w2 ⟨F2, rfl⟩
                go_wp2_with fail
                go_ret2
                rw [HX.out]
                exact ⟨none, rfl, got_none (HO.out.fresh F2).fr⟩
              · rw [hp] at HP
                obtain ⟨p1, p2, p3, p4⟩ := placeS_some hp
                by_cases hbad : base.length < off ∨ base.length - off < n ∨ tn - out.length < n
                · have HX := Lib.hid (HA.out.bad (e := 3) (by rw [stepS, if_pos hx, hp]; dsimp only; rw [if_pos hbad]) (by decide))
                  clear hp hxl
                  generalize x.toNat % 128 = y at hlow HP
                  go_wp2_with fail
                  refine HP.out.mono ?_
                  rintro e w2 ⟨F2, A3, c3, rfl, S3⟩
                  replace F2 := Lib.hid F2
                  replace S3 := Lib.hid S3
                  rcases (show (base.length : Int) < (off : Int) ∨ ((off : Int) ≤ (base.length : Int) ∧ (base.length : Int) - (off : Int) < (n : Int)) ∨ ((off : Int) ≤ (base.length : Int) ∧ (n : Int) ≤ (base.length : Int) - (off : Int) ∧ (tn : Int) - (out.length : Int) < (n : Int)) by omega) with q1 | ⟨q1, q2⟩ | ⟨q1, q2, q3⟩
                  all_goals
                    clear hbad
                    go_wp2_with fail
                    go_ret2
                    rw [HX.out]
                    exact ⟨none, rfl, got_none (HO.out.fresh F2.out).fr⟩
                · have HX := Lib.hid (HA.out.step (o2 := out ++ (base.drop off).take n) (d2 := r) (by rw [stepS, if_pos hx, hp]; dsimp only; rw [if_neg hbad]))
                  clear hp hxl
                  generalize x.toNat % 128 = y at hlow HP
                  have q1 : (off : Int) ≤ (base.length : Int) := by omega
                  have q2 : (n : Int) ≤ (base.length : Int) - (off : Int) := by omega
                  have q3 : (n : Int) ≤ (tn : Int) - (out.length : Int) := by omega
                  have q4 : (off : Int) < (cb : Int) := by omega
                  have q5 : (off : Int) + (n : Int) ≤ (cb : Int) := by omega
                  obtain ⟨adb, rfl, -⟩ := HB.out.rd.2 (by omega)
                  have hpl : ((base.drop off).take n).length = n := by rw [List.length_take, List.length_drop]; omega
                  have HSB := Lib.hid (sub_bytes HB.out.rd off n (by omega))
                  generalize (base.drop off).take n = p at HX HSB hpl
                  subst hpl
                  clear hbad
                  go_wp2_with fail
                  refine HP.out.mono ?_
                  rintro e w2 ⟨F2, A3, c3, rfl, S3⟩
                  replace F2 := Lib.hid F2
                  replace S3 := Lib.hid S3
                  replace HO := Lib.hid (HO.out.fresh F2.out)
                  replace HSB := Lib.hid (HSB.out.upd HO.out.fr (fun _ _ h => h))
                  clear HA HP
                  go_upto_region 18 with fail
                  go_wp2_with (first
                    | (at_builtin
                       (refine wpList_append_any _ rfl (.tmp 80) (.tmp 86) 22 rfl 5 i0 _ 1 1 Try.underlying22 hi0 hz0 hz1 hz2 rfl (by omega) (.slice Ao out.length co) out.length (bv out) rfl HO.out.own (fun _ => True) _ (off + p.length - off) _ (bv p) rfl (by rw [Nat.add_sub_cancel_left]; exact HSB.out) (bv_one _) (by unfold maxLen; omega) (by omega) ?_)
                       rw [Nat.add_sub_cancel_left]
                       intro A5 d5 w5 hown5 hg5 hat5
                       have HT5 := Lib.hid (HO.out.app (Upd.refl _) hown5 (by rw [List.length_append]) hg5 hat5)
                       clear hown5 hg5 hat5))
                  go_roundg r.length
                  case measure => have := HX.out.2.2; first | omega | (rw [List.length_cons]; omega)
                  case rel => exact ⟨A3, A5, r, out ++ p, c3, d5, rfl, by simp, by simp, S3.out, HT5.out, HX.out.1, HX.out.2.1⟩
            · have hxI : (x.toNat : Int) < 128 := by omega
              by_cases hbad : x.toNat = 0 ∨ tn - out.length < x.toNat
              · have HX := Lib.hid (HA.out.bad (e := 3) (by rw [stepS, if_neg hx, if_pos hbad]) (by decide))
                rcases (show (x.toNat : Int) = 0 ∨ (1 ≤ (x.toNat : Int) ∧ (tn : Int) - (out.length : Int) < (x.toNat : Int)) by omega) with q1 | ⟨q1, q2⟩
                · clear hbad
                  go_wp2_with fail
                  go_ret2
                  rw [HX.out]
                  exact ⟨none, rfl, got_none HO.out.fr⟩
                · have q0 : ((x.toNat : Int) == 0) = false := by rw [beq_eq_false_iff_ne]; omega
                  clear hbad
                  go_wp2_with fail
                  go_ret2
                  rw [HX.out]
                  exact ⟨none, rfl, got_none HO.out.fr⟩
              · have q1 : 1 ≤ (x.toNat : Int) := by omega
                have q0 : ((x.toNat : Int) == 0) = false := by rw [beq_eq_false_iff_ne]; omega
                have q2 : (x.toNat : Int) ≤ (tn : Int) - (out.length : Int) := by omega
                by_cases hsh : t.length < x.toNat
                · have HX := Lib.hid (HA.out.bad (e := 4) (by rw [stepS, if_neg hx, if_neg hbad, if_pos hsh]) (by decide))
                  have q3 : (t.length : Int) < (x.toNat : Int) := by omega
                  clear hbad hsh
                  go_wp2_with fail
                  go_ret2
                  rw [HX.out]
                  exact ⟨none, rfl, got_none HO.out.fr⟩
                · have HX := Lib.hid (HA.out.step (o2 := out ++ t.take x.toNat) (d2 := t.drop x.toNat) (by rw [stepS, if_neg hx, if_neg hbad, if_neg hsh]))
                  have q3 : (x.toNat : Int) ≤ (t.length : Int) := by omega
                  have q4 : (t.length : Int) ≤ (c2 : Int) := by omega
                  obtain ⟨a2, rfl, -⟩ := S2.out.rd.2 (by omega)
                  have hpl : (t.take x.toNat).length = x.toNat := by rw [List.length_take]; omega
                  have hdl : (t.drop x.toNat).length = t.length - x.toNat := List.length_drop
                  have HSB := Lib.hid (show Reads wr (fun _ => True) 1 (some a2) x.toNat (bv (t.take x.toNat)) by
                    have := sub_bytes (S2.out.fresh HO.out.fr).rd 0 x.toNat (by omega)
                    rwa [List.drop_zero, hpl, show a2.add 0 = a2 from rfl] at this)
                  have HNX := Lib.hid (S2.out.from_ (k := x.toNat) (by omega))
                  have HNA := Lib.hid (show c2 = x.toNat → Sl w (some a2) (t.drop x.toNat) 0 from fun e => by
                    have := HNX.out
                    rwa [if_pos e, show c2 - x.toNat = 0 by omega] at this)
                  have HNB := Lib.hid (show ¬ c2 = x.toNat → Sl w (some (a2.add x.toNat)) (t.drop x.toNat) (c2 - x.toNat) from fun e => by
                    have := HNX.out
                    rwa [if_neg e] at this)
                  clear HNX
                  generalize t.take x.toNat = p at HX HSB hpl
                  generalize t.drop x.toNat = r at HX HNA HNB hdl
                  clear hbad hsh HA
                  have hpl := Lib.hid hpl
                  have hdl := Lib.hid hdl
                  go_upto_region 25 with fail
                  go_wp2_with (first
                    | (at_builtin
                       (refine wpList_append_any _ rfl (.tmp 105) (.tmp 108) 22 rfl 5 i0 _ 1 1 Try.underlying22 hi0 hz0 hz1 hz2 rfl (by omega) (.slice Ao out.length co) out.length (bv out) rfl HO.out.own (fun _ => True) _ x.toNat _ (bv p) rfl HSB.out (bv_one _) (by unfold maxLen; omega) (by omega) ?_)
                       intro A5 d5 w5 hown5 hg5 hat5
                       have HT5 := Lib.hid (HO.out.app (Upd.refl _) hown5 (by rw [List.length_append, hpl.out]) hg5 hat5)
                       clear hown5 hg5 hat5))
                  all_goals
                    go_roundg r.length
                    case measure => have := HX.out.2.2; first | omega | (rw [List.length_cons]; omega)
                    case rel => first
                      | exact ⟨some a2, A5, r, out ++ p, 0, d5, rfl, by rw [hdl.out], by rw [List.length_append, hpl.out], HNA.out (by assumption), HT5.out, HX.out.1, HX.out.2.1⟩
                      | exact ⟨some (a2.add x.toNat), A5, r, out ++ p, c2 - x.toNat, d5, rfl, by rw [hdl.out], by rw [List.length_append, hpl.out], HNB.out (by assumption), HT5.out, HX.out.1, HX.out.2.1⟩
    · have b2 : ((from_ : Int) == (base.length : Int)) = false := by rw [beq_eq_false_iff_ne]; omega
      go_wp2_with fail
      go_ret2
      have hR := HR.out
      rw [if_neg (by simp), if_pos hf] at hR
      rw [← hR]
      exact ⟨none, rfl, got_none F1.out⟩
  · have b2 : ((e0 : Int) == 0) = false := by simpa using he
    go_wp2_with fail
    go_ret2
    have hR := HR.out
    rw [if_pos he] at hR
    rw [← hR]
    exact ⟨none, rfl, got_none F1.out⟩
end Go.Proofs.Ytiiolpchefldlaa
