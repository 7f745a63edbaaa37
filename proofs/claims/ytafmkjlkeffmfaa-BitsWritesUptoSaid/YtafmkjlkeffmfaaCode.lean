import Derived.Test.YtafmkjlkeffmfaaAwk
namespace Go.Proofs.Ytafmkjlkeffmfaa
open Go.RowKit

/-- The lowest k bits of v, turned round. -/
def rev (v : Nat) : Nat → Nat
  | 0 => 0
  | k + 1 => 2 * rev v k + v / 2 ^ k % 2
theorem rev_lt (v k : Nat) : rev v k < 2 ^ k := by
  induction k with
  | zero => simp [rev]
  | succ k ih => rw [rev, Nat.pow_succ]; omega

/-- Code, under way: r bits are still to be put. -/
structure CodeRel (w0 wr : World) (g L V v k : Nat) (A0 : Option Addr) (w : World) (r : Nat) (Vr : Nat) (A : Option Addr) (c : Nat) : Prop where
  ow : OW w0 wr g (L + (k - r)) Vr A c
  le : r ≤ k
  eq : Vr + rev v r * 2 ^ (L + (k - r)) = V + rev v k * 2 ^ L
  upd : Upd (fun i => i = g ∨ A0.map (·.block) = some i) w wr
  sta : ∀ k, A.map (·.block) = some k → A0.map (·.block) = some k ∨ w.heap.size ≤ k

theorem CodeRel.step {w0 wr w1 : World} {g L V v k : Nat} {A0 : Option Addr} {w : World} {r Vr : Nat} {A A1 : Option Addr} {c c1 : Nat} (h : CodeRel w0 wr g L V v k A0 w (r + 1) Vr A c)
    (ho : OW w0 w1 g (L + (k - (r + 1)) + clamp 1) (Vr + v / 2 ^ r % 2 ^ clamp 1 * 2 ^ (L + (k - (r + 1)))) A1 c1) (hu : Upd (fun i => i = g ∨ A.map (·.block) = some i) wr w1) (hs : ∀ k, A1.map (·.block) = some k → A.map (·.block) = some k ∨ wr.heap.size ≤ k) :
    CodeRel w0 w1 g L V v k A0 w r (Vr + v / 2 ^ r % 2 * 2 ^ (L + (k - (r + 1)))) A1 c1 := by
  have hle := h.le
  have e1 : clamp 1 = 1 := by decide
  have e2 : L + (k - r) = L + (k - (r + 1)) + 1 := by omega
  rw [e1, Nat.pow_one, ← e2] at ho
  refine ⟨ho, by omega, ?_, h.upd.trans hu ?_, ?_⟩
  · rw [← h.eq, rev, e2, Nat.pow_succ, Nat.add_mul, Nat.mul_comm 2, Nat.mul_assoc (rev v r), Nat.mul_comm 2]
    omega
  · rintro i hi (rfl | hi2)
    · exact .inl rfl
    · rcases h.sta i hi2 with h3 | h3
      · exact .inr h3
      · omega
  · intro k' hk'
    rcases hs k' hk' with h3 | h3
    · exact h.sta k' h3
    · exact .inr (by have := h.upd.size; omega)

set_option maxHeartbeats 800000 in
theorem code_om {w0 w : World} {g L V : Nat} {A : Option Addr} {c : Nat} (h : OW w0 w g L V A c) (v : Nat) (m : Int) (hv : v < 4294967296) (hl : L ≤ 562949953421000) (hm1 : -9223372036854775808 ≤ m) (hm2 : m ≤ 9223372036854775807) :
    Calls Try.prog 13 #[.pointer (some ⟨g, 0, none⟩), .int .u32 v, .int .i64 m] w fun e w' => e = .returned (.tuple #[]) ∧ ∃ A' c', OW w0 w' g (L + clamp m) (V + rev v (clamp m) * 2 ^ L) A' c' ∧ Upd (fun i => i = g ∨ A.map (·.block) = some i) w w' ∧ (∀ k, A'.map (·.block) = some k → A.map (·.block) = some k ∨ w.heap.size ≤ k) := by
  have hk := clamp_le m
  have hm : (m < 0 ∧ clamp m = 0) ∨ (0 ≤ m ∧ m ≤ 32 ∧ m = clamp m) ∨ (32 < m ∧ clamp m = 32) := by unfold clamp; omega
  generalize clamp m = k at hk hm ⊢
  have H := Lib.hid h
  have Hm := Lib.hid hm
  clear h hm
  go_enter Try.func13, Try.ntmps13
  go_upto_region 0 with fail
  go_cut [6] (fun s6 wx => w = wx ∧ s6 = .int .i64 ((k : Int) - 1))
  case first =>
    rcases Hm.out with ⟨h1, h2⟩ | ⟨h1, h2, h3⟩ | ⟨h1, h2⟩
    · have H2 := Lib.hid h2
      clear h2
      go_wp2_with fail
      go_meet
      exact ⟨rfl, by rw [H2.out]; rfl⟩
    · have H3 := Lib.hid h3
      clear h3
      go_wp2_with fail
      go_meet
      exact ⟨rfl, by rw [H3.out]⟩
    · have H2 := Lib.hid h2
      clear h2
      go_wp2_with fail
      go_meet
      exact ⟨rfl, by rw [H2.out]; rfl⟩
  obtain ⟨rfl, rfl⟩ := hcut
  go_wp2_with fail
  go_loopg [6] k (fun gk s6 wr => ∃ Vr A' c', s6 = .int .i64 ((gk : Int) - 1) ∧ CodeRel w0 wr g L V v k A w gk Vr A' c')
  case atStart => exact ⟨V, A, c, rfl, by simpa using H.out, Nat.le_refl _, by simp, Upd.refl _, fun k hk => .inl hk⟩
  case round =>
    obtain ⟨Vr, A1, c1, rfl, hr⟩ := hrel
    have HR := Lib.hid hr
    have hle := hr.le
    clear hr
    by_cases h0 : 0 < gk
    · obtain ⟨r, hrr⟩ : ∃ r, gk = r + 1 := ⟨gk - 1, by omega⟩
      subst hrr
      have e1 : ((r + 1 : Nat) : Int) - 1 = (r : Int) := by omega
      rw [e1]
      clear e1
      go_wp2_with fail
      rw [show (v : Int) / 2 ^ r = ((v / 2 ^ r : Nat) : Int) by simp]
      have hvr : v / 2 ^ r ≤ v := Nat.div_le_self _ _
      refine (put_om HR.out.ow (v / 2 ^ r) 1 (by omega) (by omega)).mono ?_
      rintro e w1 ⟨rfl, A2, c2, ho, hu, hs⟩
      have H2 := Lib.hid (HR.out.step ho hu hs)
      clear ho hu hs
      go_wp2_with fail
      go_roundg r
      case measure => omega
      case rel => exact ⟨_, A2, c2, rfl, H2.out⟩
    · have e0 : gk = 0 := by omega
      subst e0
      go_wp2_with fail
      go_end0
      have h1 := HR.out
      refine ⟨rfl, A1, c1, ?_, h1.upd, h1.sta⟩
      have := h1.ow
      have e := h1.eq
      simp [rev] at e this
      rw [← e]
      exact this

/-! ### string(bytes) -/
theorem run_string_of {P : Program} {w : World} {S : Nat → Prop} {A : Option Addr} {c : Nat} {l : List UInt8} (src dst e : TypeId) (hs : P.underlying src = some (.slice e)) (he : P.underlying e = some (.int .u8)) (hd : P.underlying dst = some .string)
    (h : Reads w S 1 A l.length (bv l)) : (convert src dst (.slice A l.length c)).run P w = .ok (.string ⟨l.toArray⟩) w := by
  rcases A with _ | ad
  · have hl : l = [] := by
      rcases l with _ | ⟨b, l⟩
      · rfl
      · obtain ⟨ad, h, _⟩ := h.2 (by simp)
        cases h
    subst hl
    rw [run_convert_bytes_nil w src e hs he _ _ dst hd]
    rfl
  · have hl : (loadCells ad l.length).run P w = .ok (bv l).toArray w := by
      have := run_loadCells_list (P := P) w ad (bv l) (fun j v hj => by
        have hjl : j < l.length := by
          have := (List.getElem?_eq_some_iff.1 hj).1
          simpa [bv] using this
        obtain ⟨ad', he', _, _, hc⟩ := h.2 (by omega)
        injection he' with he'
        subst he'
        exact hc j v hj)
      simpa [bv] using this
    have hb : bv l = (l.map fun b => (b.toNat : Int)).map (Value.int .u8) := by simp [bv]
    rw [hb] at hl
    rw [run_convert_bytes_string w src dst e _ _ _ hs he hd, run_bytesToString w _ _ c _ hl, foldl_push_bytes]
    have e2 : (l.map fun b => (b.toNat : Int)).map (fun n => UInt8.ofNat n.toNat) = l := by
      rw [List.map_map]
      refine (List.map_congr_left fun b _ => ?_).trans (List.map_id l)
      simp
    rw [e2]
    simp [ByteArray.empty, ByteArray.emptyWithCapacity]
    rfl

end Go.Proofs.Ytafmkjlkeffmfaa
