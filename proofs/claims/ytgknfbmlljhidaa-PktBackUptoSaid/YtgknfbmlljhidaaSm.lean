import Derived.Test.YtgknfbmlljhidaaProg
import Derived.Test.YtgknfbmlljhidaaKit
import Derived.Deep.DeepMust
import Derived.ScopeJumps
import Derived.WalkMore
namespace Go.Proofs.Ytgknfbmlljhidaa
open Go.RowKit

theorem Try.info5 : (Try.prog.info? 5).map (fun i => (i.zero, i.size, i.bytes)) = some (some (.int .u8 0), 1, 1) := by kernel_rfl
theorem Try.info28 : (Try.prog.info? 28).map (fun i => (i.zero, i.size, i.bytes)) = some (some (.agg #[.int .i64 0, .slice none 0 0]), 2, 32) := by kernel_rfl

/-! ### Bits of ints -/
theorem i64_or_nat (a b : Nat) (ha : a < 2 ^ 62) (hb : b < 2 ^ 62) : bits .or .i64 (a : Int) (b : Int) = ((a ||| b : Nat) : Int) := by
  have h : a ||| b < 2 ^ 62 := Nat.or_lt_two_pow ha hb
  show IntKind.i64.wrap ((BitVec.ofInt 64 (a : Int) ||| BitVec.ofInt 64 (b : Int)).toNat : Nat) = _
  have e : (BitVec.ofInt 64 (a : Int) ||| BitVec.ofInt 64 (b : Int)).toNat = a ||| b := by
    rw [BitVec.toNat_or, BitVec.ofInt_natCast, BitVec.ofInt_natCast, BitVec.toNat_ofNat, BitVec.toNat_ofNat, Nat.mod_eq_of_lt (by omega), Nat.mod_eq_of_lt (by omega)]
  rw [e, IntKind.wrap_i64]
  omega
theorem or_add (v d k : Nat) (hd : d < 2 ^ k) : v * 2 ^ k ||| d = v * 2 ^ k + d := by
  rw [Nat.mul_comm, ← Nat.two_pow_add_eq_or_of_lt hd]

/-! ### slices.Clone, slices.Clip -/
/-- A slice of the call's own: what it holds, that its block is new. -/
def CloneO (b : List UInt8) (w : World) (e : Ending) (w' : World) : Prop :=
  ∃ A c, e = .returned (.slice A b.length c) ∧ b.length ≤ c ∧ c ≤ 9223372036854775807 ∧ (A = none → c = 0) ∧ Arr w' 5 A b.length (bv b) ∧ AB w A ∧ Fresh w w'
set_option maxHeartbeats 400000 in
theorem clone_o {S : Nat → Prop} {A : Option Addr} {c : Nat} {b : List UInt8} {w : World} (h : Reads w S 1 A b.length (bv b)) (hl : b.length ≤ 140737488355328) (hc : A = none → c = 0) :
    Calls Try.prog 20 #[.slice A b.length c] w (CloneO b w) := by
  obtain ⟨i0, hi0, hz0, hz1, hz2⟩ := info_parts Try.info5
  rcases A with _ | ad
  · have h0 : b = [] := by have := (h.zero).1; exact List.eq_nil_of_length_eq_zero this
    subst h0
    obtain rfl := hc rfl
    clear h hc
    have hnil := fun w : World => Lib.run_eql_slice_nil (P := Try.prog) w 23 5 none 0 0 0 0 Try.underlying23
    simp only [List.length_nil]
    go_enter Try.func20, Try.ntmps20
    go_wp2
    go_ret
    exact ⟨none, 0, rfl, Nat.le_refl _, by omega, fun _ => rfl, Arr.nil rfl, AB.none_ _, Upd.refl _⟩
  · have hnil := fun w : World => Lib.run_eql_slice_nil (P := Try.prog) w 23 5 (some ad) b.length c 0 0 Try.underlying23
    have H := Lib.hid h
    clear h hc
    go_enter Try.func20, Try.ntmps20
    go_wp2_with (first
      | (at_builtin
         refine wpList_append_any _ rfl (.tmp 5) (.tmp 6) 23 rfl 5 i0 _ 1 1 Try.underlying23 hi0 hz0 hz1 hz2 rfl (by omega) (.slice (some ⟨w.heap.size, 0, none⟩) 0 0) 0 [] rfl
           (World.ownsRow_lit w #[] 0 (Nat.zero_le _) (by unfold maxLen; omega) rfl) S (some ad) b.length c (bv b) rfl (H.out.alloc _) (bv_one _) (by unfold maxLen; omega) (by omega) ?_
         intro A1 d1 w1 hown1 hg1 hat1
         simp only [Nat.zero_add, List.nil_append] at hown1 hat1 ⊢
         have Ho := Lib.hid hown1
         have Hg := Lib.hid hg1
         have Ha := Lib.hid hat1
         clear hown1 hg1 hat1))
    go_ret
    have hcap := owns_cap Ho.out
    unfold maxLen at hcap
    refine ⟨A1, d1, rfl, hcap.1, by omega, owns_none Ho.out, Arr.of_own Ho.out, ?_, ?_⟩
    · intro k hk
      rcases Ha.out with h | h <;> rw [ownBlock_map, hk] at h
      · simp [Value.ownBlock] at h; omega
      · injection h with h; simp at h; omega
    · exact ((Upd.refl w).alloc _).grown Hg.out (fun i hi hlt => by simp [Value.ownBlock] at hi; omega)
theorem clip_o (A : Option Addr) (n c : Nat) (w : World) (hc : n ≤ c) (_hm : c ≤ 9223372036854775807) :
    Calls Try.prog 18 #[.slice A n c] w fun e w' => e = .returned (.slice A n n) ∧ w = w' := by
  go_enter Try.func18, Try.ntmps18
  go_wp2
  go_ret
  exact ⟨rfl, rfl⟩
theorem clipl_o (A : Option Addr) (n c : Nat) (w : World) (hc : n ≤ c) (_hm : c ≤ 9223372036854775807) :
    Calls Try.prog 21 #[.slice A n c] w fun e w' => e = .returned (.slice A n n) ∧ w = w' := by
  go_enter Try.func21, Try.ntmps21
  go_wp2
  go_ret
  exact ⟨rfl, rfl⟩

/-! ### size -/
def hexv (c : UInt8) : Option Nat := if 48 ≤ c.toNat ∧ c.toNat ≤ 57 then some (c.toNat - 48) else if 97 ≤ c.toNat ∧ c.toNat ≤ 102 then some (c.toNat - 87) else none
/-- A number's digits, v what came before. -/
def num : List UInt8 → Nat → Option Nat
  | [], v => some v
  | c :: r, v => match hexv c with
    | none => none
    | some d => num r (16 * v + d)
/-- What four digits say. -/
def sizeS (b : List UInt8) : Option Nat := match num b 0 with
  | none => none
  | some n => if n = 3 ∨ n = 4 then none else some n
def SizeO (r : Option Nat) (w : World) (e : Ending) (w' : World) : Prop := e = .returned (.tuple #[.int .i64 (r.getD 0 : Nat), .bool r.isSome]) ∧ w = w'
theorem bytes_at {w : World} {S : Nat → Prop} {ad : Addr} {n : Nat} {b : List UInt8} (h : Reads w S 1 (some ad) n (bv b)) {k : Nat} (hk : k < b.length) : w.cell? (ad.add k) = some (.int .u8 (b[k].toNat : Int)) := by
  have hn : n = b.length := by have := h.1; simpa [bv] using this.symm
  obtain ⟨ad', u, e, _, _, hu, hc⟩ := h.at_ (k := k) (by omega)
  injection e with e
  subst e
  rw [hc, ← hu]
  simp [bv, hk]
theorem num_step (b : List UInt8) (k v : Nat) (hk : k < b.length) : num (b.drop k) v = match hexv b[k] with
    | none => none
    | some d => num (b.drop (k + 1)) (16 * v + d) := by
  rw [List.drop_eq_getElem_cons hk, num]
/-- Digits, under way: k are read, v is what they say. -/
structure NumAt (b : List UInt8) (k v : Nat) : Prop where
  eq : num (b.drop k) v = num b 0
  lt : v < 16 ^ k
theorem NumAt.step {b : List UInt8} {k v d : Nat} (h : NumAt b k v) (hk : k < b.length) (hd : hexv b[k] = some d) (hlt : d < 16) : NumAt b (k + 1) (16 * v + d) := by
  refine ⟨?_, ?_⟩
  · rw [← h.eq, num_step b k v hk, hd]
  · have := h.lt
    rw [Nat.pow_succ]
    omega
theorem NumAt.bad {b : List UInt8} {k v : Nat} (h : NumAt b k v) (hk : k < b.length) (hd : hexv b[k] = none) : sizeS b = none := by
  unfold sizeS
  rw [← h.eq, num_step b k v hk, hd]
theorem NumAt.done {b : List UInt8} {v : Nat} (h : NumAt b b.length v) : num b 0 = some v := by
  rw [← h.eq, List.drop_length]
  rfl
theorem hexv_a {c : UInt8} (h1 : 48 ≤ c.toNat) (h2 : c.toNat ≤ 57) : hexv c = some (c.toNat - 48) := by simp [hexv, h1, h2]
theorem hexv_b {c : UInt8} (h1 : 97 ≤ c.toNat) (h2 : c.toNat ≤ 102) : hexv c = some (c.toNat - 87) := by
  unfold hexv; rw [if_neg (by omega), if_pos ⟨h1, h2⟩]
theorem hexv_c {c : UInt8} (h1 : ¬ (48 ≤ c.toNat ∧ c.toNat ≤ 57)) (h2 : ¬ (97 ≤ c.toNat ∧ c.toNat ≤ 102)) : hexv c = none := by
  unfold hexv; rw [if_neg h1, if_neg h2]
/-- The number with one digit more, as the walk has it. -/
theorem num_or (v d : Nat) (hv : v < 16 ^ 4) (hd : d < 16) : bits .or .i64 ((v : Int) * 16) (d : Int) = ((16 * v + d : Nat) : Int) := by
  have h := i64_or_nat (v * 2 ^ 4) d (by omega) (by omega)
  rw [or_add v d 4 (by omega)] at h
  rw [show (v : Int) * 16 = ((v * 2 ^ 4 : Nat) : Int) by omega, h]
  omega
def SizeJ (r : Option Nat) (w : World) (a : Act) (w' : World) : Prop := w' = w ∧ r = none ∧ ∃ l : List Value, a = { tmps := l.toArray, defers := [] } ∧ l.length = 48
set_option maxHeartbeats 1600000 in
theorem size_o {S : Nat → Prop} {ad : Addr} {c n : Nat} {b : List UInt8} {w : World} (h : Reads w S 1 (some ad) b.length (bv b)) (hb : b.length = 4) (hn : 4 ≤ n) (hc : n ≤ c) (hm : c ≤ 9223372036854775807) :
    Calls Try.prog 19 #[.slice (some ad) n c] w (SizeO (sizeS b) w) := by
  have H := Lib.hid h
  have HB := Lib.hid hb
  clear h hb
  have h4 : 4 ≤ c := by omega
  have h5 : (4 : Int) ≤ (c : Int) := by omega
  go_enter Try.func19, Try.ntmps19
  go_wp2
  refine wp_scope_jumps 0 (SizeJ (sizeS b) w) (fun _ _ => 0) rfl ?_ ?_
  · go_wp2
    go_loopg [2, 9] 4 (fun gk s2 s9 wx => ∃ k v : Nat, gk + k = 4 ∧ s9 = .int .i64 (k : Int) ∧ s2 = .int .i64 (v : Int) ∧ w = wx ∧ Hid (NumAt b k v))
    case atStart => exact ⟨0, 0, rfl, rfl, rfl, rfl, ⟨rfl, by decide⟩⟩
    case round =>
      obtain ⟨k, v, hgk, rfl, rfl, rfl, HN⟩ := hrel
      by_cases hk : k < 4
      · have hkb : k < b.length := by have := HB.out; omega
        have hcell := bytes_at H.out hkb
        have hv : v < 16 ^ 4 := Nat.lt_of_lt_of_le HN.out.lt (Nat.pow_le_pow_right (by decide) (by omega))
        have HS := Lib.hid (fun d => HN.out.step (d := d) hkb)
        have HX := Lib.hid (HN.out.bad hkb)
        have hlt := (b[k]).toNat_lt
        generalize b[k] = x at hcell HS HX hlt
        have HA := Lib.hid (fun h1 h2 => hexv_a (c := x) h1 h2)
        have HB2 := Lib.hid (fun h1 h2 => hexv_b (c := x) h1 h2)
        have HC := Lib.hid (fun h1 h2 => hexv_c (c := x) h1 h2)
        generalize x.toNat = y at hcell hlt HA HB2 HC
        by_cases d1 : 48 ≤ y ∧ y ≤ 57
        · obtain ⟨d1, d2⟩ := d1
          have e1 : IntKind.u8.wrap ((y : Int) - 48) = ((y - 48 : Nat) : Int) := by rw [IntKind.wrap_u8]; omega
          have HO := Lib.hid (num_or v (y - 48) hv (by omega))
          have b1 : decide ((48 : Int) ≤ (y : Int)) = true := by simp; omega
          have b2 : decide ((y : Int) ≤ 57) = true := by simp; omega
          go_wp2
          go_roundg (gk - 1)
          case measure => omega
          case rel => exact ⟨k + 1, _, by omega, by go_num, by rw [HO.out], rfl, HS.out _ (HA.out d1 d2) (by omega)⟩
        · by_cases d2 : 97 ≤ y ∧ y ≤ 102
          · obtain ⟨d2, d3⟩ := d2
            have e1 : IntKind.u8.wrap (IntKind.u8.wrap ((y : Int) - 97) + 10) = ((y - 87 : Nat) : Int) := by rw [IntKind.wrap_u8, IntKind.wrap_u8]; omega
            have e2 : IntKind.u8.wrap ((y : Int) - 97 + 10) = ((y - 87 : Nat) : Int) := by rw [IntKind.wrap_u8]; omega
            have HO := Lib.hid (num_or v (y - 87) hv (by omega))
            have b1 : decide ((48 : Int) ≤ (y : Int)) = true := by simp; omega
            have b2 : decide ((y : Int) ≤ 57) = false := by simp; omega
            have b3 : decide ((97 : Int) ≤ (y : Int)) = true := by simp; omega
            have b4 : decide ((y : Int) ≤ 102) = true := by simp; omega
            clear d1
            go_wp2
            go_roundg (gk - 1)
            case measure => omega
            case rel => exact ⟨k + 1, _, by omega, by go_num, by first | rw [HO.out] | (rw [← HO.out]; congr 2; omega), rfl, HS.out _ (HB2.out d2 d3) (by omega)⟩
          · have HY := Lib.hid (HX.out (HC.out d1 d2))
            have HD1 := Lib.hid d1
            have HD2 := Lib.hid d2
            clear d1 d2
            by_cases f1 : 48 ≤ y
            · have f2 : ¬ y ≤ 57 := fun h => HD1.out ⟨f1, h⟩
              have b1 : decide ((48 : Int) ≤ (y : Int)) = true := by simp; omega
              have b2 : decide ((y : Int) ≤ 57) = false := by simp; omega
              by_cases f3 : 97 ≤ y
              · have f4 : ¬ y ≤ 102 := fun h => HD2.out ⟨f3, h⟩
                have b3 : decide ((97 : Int) ≤ (y : Int)) = true := by simp; omega
                have b4 : decide ((y : Int) ≤ 102) = false := by simp; omega
                go_wp2
                go_step3
                exact ⟨rfl, rfl, HY.out, _, rfl, rfl⟩
              · have b3 : decide ((97 : Int) ≤ (y : Int)) = false := by simp; omega
                go_wp2
                go_step3
                exact ⟨rfl, rfl, HY.out, _, rfl, rfl⟩
            · have b1 : decide ((48 : Int) ≤ (y : Int)) = false := by simp; omega
              have b3 : decide ((97 : Int) ≤ (y : Int)) = false := by simp; omega
              go_wp2
              go_step3
              exact ⟨rfl, rfl, HY.out, _, rfl, rfl⟩
      · have hk4 : k = b.length := by have := HB.out; omega
        have HD := Lib.hid (hk4 ▸ HN.out : NumAt b b.length v).done
        clear hk4
        by_cases h3 : v = 3 ∨ v = 4
        · have HS := Lib.hid (show sizeS b = none by
            have := HD.out
            unfold sizeS
            rw [this]
            simp [h3])
          rcases h3 with rfl | rfl
          · go_wp2
            go_step3
            exact ⟨rfl, rfl, HS.out, _, rfl, rfl⟩
          · go_wp2
            go_step3
            exact ⟨rfl, rfl, HS.out, _, rfl, rfl⟩
        · have HS := Lib.hid (show sizeS b = some v by
            have := HD.out
            unfold sizeS
            rw [this]
            simp [h3])
          have b3 : ((v : Int) == 3) = false := by simp; omega
          have b4 : ((v : Int) == 4) = false := by simp; omega
          clear h3
          go_wp2
          simp only [Exit.jump]
          go_ret2
          rw [HS.out]
          exact ⟨rfl, rfl⟩
  · rintro a w' ⟨rfl, hr, l, rfl, hl⟩
    have HR := Lib.hid hr
    clear hr
    iterate 48 (rcases l with _ | ⟨_, l⟩; · (simp at hl))
    obtain rfl : l = [] := by simpa using hl
    clear hl
    go_wp2
    simp only [Exit.jump]
    go_ret2
    rw [HR.out]
    exact ⟨rfl, rfl⟩
end Go.Proofs.Ytgknfbmlljhidaa
