import Derived.Test.YtafmkjlkeffmfaaCode
namespace Go.Proofs.Ytafmkjlkeffmfaa
open Go.RowKit

/-- Two writers of one call, apart from each other. -/
structure Two (w0 w : World) (g1 L1 V1 : Nat) (A1 : Option Addr) (c1 : Nat) (g2 L2 V2 : Nat) (A2 : Option Addr) (c2 : Nat) : Prop where
  a : OW w0 w g1 L1 V1 A1 c1
  b : OW w0 w g2 L2 V2 A2 c2
  ne : g1 ≠ g2
  dis : ∀ k, A1.map (·.block) = some k → A2.map (·.block) ≠ some k
section
variable {w0 w w' : World} {g1 L1 V1 : Nat} {A1 : Option Addr} {c1 : Nat} {g2 L2 V2 : Nat} {A2 : Option Addr} {c2 : Nat}
theorem Two.symm (h : Two w0 w g1 L1 V1 A1 c1 g2 L2 V2 A2 c2) : Two w0 w g2 L2 V2 A2 c2 g1 L1 V1 A1 c1 := ⟨h.b, h.a, h.ne.symm, fun k h1 h2 => h.dis k h2 h1⟩
theorem Two.fresh (h : Two w0 w g1 L1 V1 A1 c1 g2 L2 V2 A2 c2) (hu : Fresh w w') : Two w0 w' g1 L1 V1 A1 c1 g2 L2 V2 A2 c2 := ⟨h.a.fresh hu, h.b.fresh hu, h.ne, h.dis⟩
/-- The first has been written. -/
theorem Two.step {L3 V3 : Nat} {A3 : Option Addr} {c3 : Nat} (h : Two w0 w g1 L1 V1 A1 c1 g2 L2 V2 A2 c2) (ho : OW w0 w' g1 L3 V3 A3 c3) (hu : Upd (fun i => i = g1 ∨ A1.map (·.block) = some i) w w') (hs : ∀ k, A3.map (·.block) = some k → A1.map (·.block) = some k ∨ w.heap.size ≤ k) :
    Two w0 w' g1 L3 V3 A3 c3 g2 L2 V2 A2 c2 := by
  refine ⟨ho, h.b.keep hu ?_ ?_ ?_, h.ne, ?_⟩
  · rintro i (rfl | hi)
    · exact h.a.hg
    · exact h.a.ha i hi
  · rintro (e | e)
    · exact h.ne e.symm
    · exact own_blk_ne h.a.wr.own h.b.wr.blk (by decide) (by rw [ownBlock_map]; exact e)
  · rintro k hk (e | e)
    · exact own_blk_ne h.b.wr.own h.a.wr.blk (by decide) (by rw [ownBlock_map, hk, e])
    · exact h.dis k e hk
  · intro k hk h2
    rcases hs k hk with e | e
    · exact h.dis k e h2
    · have := h.b.wr.lt_a h2
      omega
end

theorem Two.new (w : World) : Two w ((w.alloc (.cells #[.slice none 0 0, .int .u64 0, .int .i64 0] 27)).alloc (.cells #[.slice none 0 0, .int .u64 0, .int .i64 0] 27)) w.heap.size 0 0 none 0 (w.heap.size + 1) 0 0 none 0 :=
  ⟨(OW.new (Upd.refl w)).fresh ((Upd.refl _).alloc _), by simpa using OW.new ((Upd.refl w).alloc (.cells #[.slice none 0 0, .int .u64 0, .int .i64 0] 27)), by omega, fun k h => by simp at h⟩

def dOf (lead : Int) : Nat := (lead % 8).toNat
theorem mask7 (lead : Int) : bits .and .i64 lead 7 = (dOf lead : Int) := by
  have h := i64_mask lead 3 (by decide)
  have e : (2 : Int) ^ 3 - 1 = 7 := by decide
  rw [e] at h
  rw [h, dOf]
  omega

/-- The numbers as the loop makes them. -/
theorem turn_step (v i t : Nat) (hv : v < 4294967296) (ht : t = rev v i) (hi : i < 32) :
    bits .or .u32 ((t : Int) * 2 % 4294967296) (bits .and .u32 ((v : Int) / 2 ^ i) 1) = ((rev v (i + 1) : Nat) : Int) := by
  have h1 : rev v i < 2 ^ i := rev_lt v i
  have h2 : 2 ^ i ≤ 2147483648 := Nat.pow_le_pow_right (n := 2) (by decide) (show i ≤ 31 by omega)
  have h3 : v / 2 ^ i ≤ v := Nat.div_le_self _ _
  have e1 : (t : Int) * 2 % 4294967296 = ((2 * rev v i : Nat) : Int) := by omega
  have e2 : bits .and .u32 ((v : Int) / 2 ^ i) 1 = ((v / 2 ^ i % 2 : Nat) : Int) := by
    have h := u32_and_nat (v / 2 ^ i) 1 (by omega) (by omega)
    rw [show (v : Int) / 2 ^ i = ((v / 2 ^ i : Nat) : Int) by simp, show (1 : Int) = ((1 : Nat) : Int) by rfl, h, Nat.and_one_is_mod]
  rw [e1, e2, u32_or_nat _ _ (by omega) (by omega)]
  congr 1
  rw [rev]
  have := Nat.two_pow_add_eq_or_of_lt (b := v / 2 ^ i % 2) (i := 1) (by omega) (rev v i)
  rw [Nat.pow_one] at this
  exact this.symm

theorem bytes_str {w : World} {A : Option Addr} {q V : Nat} (h : Arr w 5 A q (bv (leb q V))) : (convert 24 9 (.slice A q q)).run Try.prog w = .ok (.string ⟨(leb q V).toArray⟩) w := by
  have hr := h.reads
  have hl : (leb q V).length = q := leb_length q V
  have h1 := run_string_of (P := Try.prog) (w := w) (S := fun k => A.map (·.block) = some k) (A := A) (c := q) (l := leb q V) 24 9 5 Try.underlying24 Try.underlying5 Try.underlying9 (by rw [hl]; exact hr)
  rw [hl] at h1
  exact h1

set_option maxHeartbeats 6400000 in
theorem codes_any (v : Nat) (n lead : Int) (w : World) (hv : v < 4294967296) (hn1 : -9223372036854775808 ≤ n) (hn2 : n ≤ 9223372036854775807) :
    Calls Try.prog 4 #[.int .u32 v, .int .i64 n, .int .i64 lead] w fun e w' => e = .returned (.bool true) ∧ Fresh w w' := by
  have hd8 : dOf lead < 8 := by unfold dOf; omega
  have HM := Lib.hid (mask7 lead)
  generalize dOf lead = d at hd8 HM
  obtain ⟨k, hk, hkn⟩ : ∃ k : Nat, k ≤ 32 ∧ ((n.tmod 33 + 33) % 33) = (k : Int) := ⟨((n.tmod 33 + 33) % 33).toNat, by omega, by omega⟩
  have Hk := Lib.hid hkn
  have t1 : -33 < n.tmod 33 := by have := Int.lt_tmod_of_pos n (show (0:Int) < 33 by decide); omega
  have t2 : n.tmod 33 < 33 := Int.tmod_lt_of_pos n (by decide)
  clear hkn
  go_enter Try.func4, Try.ntmps4
  go_upto_region 1 with fail
  go_cut [1, 2] (fun s1 s2 wx => w = wx ∧ s1 = .int .i64 (k : Int) ∧ s2 = .int .i64 (d : Int))
  case first =>
    go_wp2_with fail
    go_meet
    exact ⟨rfl, by rw [← Hk.out], by rw [← HM.out]⟩
  obtain ⟨rfl, rfl, rfl⟩ := hcut
  go_wp2_with fail
  refine (put_om (Two.new w).a 85 d (by omega) (by omega)).mono ?_
  rintro e w1 ⟨rfl, A1, c1, ho, hu, hs⟩
  have T1 := (Two.new w).step ho hu hs
  rw [clamp_of d (by omega)] at T1
  have T1 := Lib.hid T1
  clear ho hu hs
  go_wp2_with fail
  refine (put_om T1.out.b 85 d (by omega) (by omega)).mono ?_
  rintro e w2 ⟨rfl, A2, c2, ho, hu, hs⟩
  have T2 := (T1.out.symm.step ho hu hs).symm
  rw [clamp_of d (by omega)] at T2
  have T2 := Lib.hid T2
  clear ho hu hs T1
  go_wp2_with fail
  refine (code_om T2.out.a v k hv (by omega) (by omega) (by omega)).mono ?_
  rintro e w3 ⟨rfl, A3, c3, ho, hu, hs⟩
  have T3 := T2.out.step ho hu hs
  rw [clamp_of k hk] at T3
  have T3 := Lib.hid T3
  clear ho hu hs T2
  go_wp2_with fail
  go_loop [9, 10] (fun s9 s10 => ∃ i t : Nat, i ≤ k ∧ s10 = .int .i64 (i : Int) ∧ s9 = .int .u32 (t : Int) ∧ Hid (t = rev v i)) (fun _ s10 => (k - (intOf s10).toNat))
  case atStart => exact ⟨0, 0, Nat.zero_le _, rfl, rfl, rfl⟩
  case round =>
    obtain ⟨i, t, hi, rfl, rfl, HT⟩ := hrel
    by_cases hlt : i < k
    · have HS := Lib.hid (turn_step v i t hv HT.out (by omega))
      go_wp2_with fail
      go_round
      case rel => exact ⟨i + 1, _, by omega, by go_num, by rw [HS.out], rfl⟩
      case measure => simp [intOf]; omega
    · have HE : Hid (i = k) := (by omega : i = k)
      go_wp2_with fail
      rw [HT.out, HE.out]
      refine (put_om T3.out.b (rev v k) k (by have := rev_lt v k; have := pow_le_32 hk; omega) (by omega)).mono ?_
      rintro e w4 ⟨rfl, A4, c4, ho, hu, hs⟩
      have T4 := (T3.out.symm.step ho hu hs).symm
      rw [clamp_of k hk, Nat.mod_eq_of_lt (rev_lt v k)] at T4
      have T4 := Lib.hid T4
      clear ho hu hs T3
      go_wp2_with fail
      obtain ⟨V, T5⟩ : ∃ V, Hid (Two w w4 w.heap.size (d + k) V A3 c3 (w.heap.size + 1) (d + k) V A4 c4) := ⟨_, Lib.hid (by simpa using T4.out)⟩
      clear T4
      have T5 := Lib.hid (T5.out.fresh ((Upd.refl w4).drew))
      generalize w.heap.size + 1 = g2 at T5 ⊢
      have s1 : IntKind.i64.wrap ((d : Int) + k) = (d : Int) + k := by rw [IntKind.wrap_i64]; omega
      have s2 : IntKind.i64.wrap ((d : Int) + k + 7) = (d : Int) + k + 7 := by rw [IntKind.wrap_i64]; omega
      have s3 : ((d : Int) + k + 7).tdiv 8 = ((d : Int) + k + 7) / 8 := Int.tdiv_eq_ediv_of_nonneg (by omega)
      have s4 : IntKind.i64.wrap (((d : Int) + k + 7) / 8) = ((d : Int) + k + 7) / 8 := by rw [IntKind.wrap_i64]; omega
      clear T1 T2 T3 Hk HM t1 t2 hn1 hn2 HT HE hi hlt
      go_region_with (first
        | (go_at_call_of 8 (Value.pointer (some ⟨w.heap.size, 0, none⟩))
           refine (bytes_any _ _ _ _ _ _ T5.out.a.wr (by omega)).mono ?_
           rintro e w5 ⟨A5, rfl, ha5, _, hu5⟩
           have T5 := Lib.hid (T5.out.fresh hu5)
           have sa := bytes_str ha5
           have HA := Lib.hid ha5
           clear hu5 ha5)
        | (go_at_call_of 8 (Value.pointer (some ⟨g2, 0, none⟩))
           refine (bytes_any _ _ _ _ _ _ T5.out.b.wr (by omega)).mono ?_
           rintro e w6 ⟨A6, rfl, ha6, _, hu6⟩
           have T5 := Lib.hid (T5.out.fresh hu6)
           have sb := bytes_str ha6
           have sa := bytes_str (HA.out.upd hu6 (fun _ _ h => h))
           clear hu6 ha6)
        | (go_at_call 12
           refine (awake_any _).mono ?_
           rintro e w7 ⟨rfl, hu7⟩
           have T5 := Lib.hid (T5.out.fresh hu7)))
      all_goals go_wp2
      all_goals go_ret
      all_goals exact ⟨rfl, T5.out.a.fr⟩
end Go.Proofs.Ytafmkjlkeffmfaa
