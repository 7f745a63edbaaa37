import Derived.Test.YtdflbfkdegkboaaProg
import Derived.Test.YtdflbfkdegkboaaKit
namespace Go.Proofs.Ytdflbfkdegkboaa
open Go.RowKit

theorem Try.info5 : (Try.prog.info? 5).map (fun i => (i.zero, i.size, i.bytes)) = some (some (.int .u8 0), 1, 1) := by kernel_rfl
theorem Try.info56 : (Try.prog.info? 56).map (fun i => (i.zero, i.size, i.bytes)) = some (some (.agg #[.int .i64 0, .int .i64 0, .slice none 0 0]), 3, 40) := by kernel_rfl

theorem Arr.nil {w : World} {e : TypeId} {A : Option Addr} {xs : List Value} (h : xs = []) : Arr w e A 0 xs := by subst h; exact ⟨rfl, fun h => absurd h (by omega)⟩
theorem Reads.zero {w : World} {S : Nat → Prop} {n : Nat} {xs : List Value} (h : Reads w S 1 none n xs) : n = 0 ∧ xs = [] := by
  rcases Nat.eq_zero_or_pos n with h0 | h0
  · subst h0; exact ⟨rfl, List.eq_nil_of_length_eq_zero (by simpa using h.1)⟩
  · obtain ⟨ad, h1, _⟩ := h.2 h0
    cases h1

theorem owns_none {w : World} {e : TypeId} {size n c m : Nat} {A : Option Addr} {xs : List Value} (h : w.ownsRow 0 e size (.slice A n c) m xs) (hA : A = none) : c = 0 := by
  subst hA
  rcases h.2 with ⟨hv, _⟩ | ⟨g, cap, cur, hv, _⟩
  · injection hv
  · injection hv with h1; cases h1
/-- A slice of the call's own: what it holds, that its block is new. -/
def CloneO (b : List UInt8) (w : World) (e : Ending) (w' : World) : Prop :=
  ∃ A c, e = .returned (.slice A b.length c) ∧ b.length ≤ c ∧ c ≤ 9223372036854775807 ∧ (A = none → c = 0) ∧ Arr w' 5 A b.length (bv b) ∧ AB w A ∧ Fresh w w'

set_option maxHeartbeats 400000 in
theorem clone_o {S : Nat → Prop} {A : Option Addr} {c : Nat} {b : List UInt8} {w : World} (h : Reads w S 1 A b.length (bv b)) (hl : b.length ≤ 140737488355328) (hc : A = none → c = 0) :
    Calls Try.prog 19 #[.slice A b.length c] w (CloneO b w) := by
  obtain ⟨i0, hi0, hz0, hz1, hz2⟩ := info_parts Try.info5
  rcases A with _ | ad
  · have h0 : b = [] := by have := (h.zero).1; exact List.eq_nil_of_length_eq_zero this
    subst h0
    obtain rfl := hc rfl
    clear h hc
    have hnil := fun w : World => Lib.run_eql_slice_nil (P := Try.prog) w 29 5 none 0 0 0 0 Try.underlying29
    simp only [List.length_nil]
    go_enter Try.func19, Try.ntmps19
    go_wp2
    go_ret
    exact ⟨none, 0, rfl, Nat.le_refl _, by omega, fun _ => rfl, Arr.nil rfl, AB.none_ _, Upd.refl _⟩
  · have hnil := fun w : World => Lib.run_eql_slice_nil (P := Try.prog) w 29 5 (some ad) b.length c 0 0 Try.underlying29
    have H := Lib.hid h
    clear h hc
    go_enter Try.func19, Try.ntmps19
    go_wp2_with (first
      | (at_builtin
         refine wpList_append_any _ rfl (.tmp 5) (.tmp 6) 29 rfl 5 i0 _ 1 1 Try.underlying29 hi0 hz0 hz1 hz2 rfl (by omega) (.slice (some ⟨w.heap.size, 0, none⟩) 0 0) 0 [] rfl
           (World.ownsRow_lit w #[] 0 (Nat.zero_le _) (by unfold maxLen; omega) rfl) S (some ad) b.length c (bv b) rfl (H.out.alloc _) (bv_one _) (by unfold maxLen; omega) (by omega) ?_
         intro A1 d1 w1 hown1 hg1 hat1
         simp only [Nat.zero_add, List.nil_append] at hown1 hat1 ⊢
         have Ho := Lib.hid hown1
         have Hg := Lib.hid hg1
         have Ha := Lib.hid hat1
         clear hown1 hg1 hat1))
    go_ret
    have hcap := owns_cap Ho.out
    unfold maxLen at hcap
    refine ⟨A1, d1, rfl, hcap.1, by omega, owns_none Ho.out, Arr.of_own Ho.out, ?_, ?_⟩
    · intro k hk
      rcases Ha.out with h | h <;> rw [ownBlock_map, hk] at h
      · simp [Value.ownBlock] at h; omega
      · injection h with h; simp at h; omega
    · exact ((Upd.refl w).alloc _).grown Hg.out (fun i hi hlt => by simp [Value.ownBlock] at hi; omega)

theorem clip_o (A : Option Addr) (n c : Nat) (w : World) (hc : n ≤ c) (_hm : c ≤ 9223372036854775807) :
    Calls Try.prog 21 #[.slice A n c] w fun e w' => e = .returned (.slice A n n) ∧ w = w' := by
  go_enter Try.func21, Try.ntmps21
  go_wp2
  go_ret
  exact ⟨rfl, rfl⟩

/-! ### A net -/
/-- A datagram: what it holds, and where its bytes lie. -/
structure Dg where
  frm : Int
  to_ : Int
  b : List UInt8
  B : Option Addr
  cap : Nat
def Dg.cells (d : Dg) : List Value := [.int .i64 d.frm, .int .i64 d.to_, .slice d.B d.b.length d.cap]
def dcells (ds : List Dg) : List Value := ds.flatMap Dg.cells
theorem dcells_length (ds : List Dg) : (dcells ds).length = ds.length * 3 := by
  induction ds with
  | nil => rfl
  | cons d ds ih => simp only [dcells, List.flatMap_cons, List.length_append, List.length_cons] at ih ⊢; rw [ih]; simp [Dg.cells]; omega
theorem dcells_append (a b : List Dg) : dcells (a ++ b) = dcells a ++ dcells b := by simp [dcells]
theorem dcells_one (ds : List Dg) : ∀ u ∈ dcells ds, u.oneCell' = true := by
  intro u hu
  obtain ⟨d, _, h⟩ := List.mem_flatMap.1 hu
  simp [Dg.cells] at h
  rcases h with rfl | rfl | rfl <;> rfl
theorem dcells_drop (ds : List Dg) (i : Nat) : (dcells ds).drop (i * 3) = dcells (ds.drop i) := by
  induction ds generalizing i with
  | nil => simp [dcells]
  | cons d ds ih =>
    rcases i with _ | i
    · simp
    · have e : dcells (d :: ds) = Dg.cells d ++ dcells ds := by simp [dcells]
      rw [e, show (i + 1) * 3 = 3 + i * 3 by omega, ← List.drop_drop]
      have : (d.cells ++ dcells ds).drop 3 = dcells ds := by simp [Dg.cells]
      rw [this, ih]
      rfl
theorem dcells_take (ds : List Dg) (i : Nat) : (dcells ds).take (i * 3) = dcells (ds.take i) := by
  induction ds generalizing i with
  | nil => simp [dcells]
  | cons d ds ih =>
    rcases i with _ | i
    · simp [dcells]
    · have e : dcells (d :: ds) = Dg.cells d ++ dcells ds := by simp [dcells]
      have e2 : dcells (d :: ds.take i) = Dg.cells d ++ dcells (ds.take i) := by simp [dcells]
      rw [e, List.take_succ_cons, e2, ← ih i]
      simp [Dg.cells, show (i + 1) * 3 = i * 3 + 1 + 1 + 1 by omega]

/-- The bytes of a datagram lie where they are said to lie. -/
def Dg.lies (w : World) (d : Dg) : Prop := Arr w 5 d.B d.b.length (bv d.b) ∧ d.b.length ≤ d.cap ∧ d.cap ≤ 9223372036854775807 ∧ d.b.length ≤ 1500 ∧ (d.B = none → d.cap = 0)
/-- F touches no block of bytes. -/
def NoBytes (w : World) (F : Nat → Prop) : Prop := ∀ k cur, F k → ¬ Blk w k 5 cur
theorem Arr.keep {F : Nat → Prop} {w w' : World} {A : Option Addr} {n : Nat} {xs : List Value} (h : Arr w 5 A n xs) (hu : Upd F w w') (hF : NoBytes w F) : Arr w' 5 A n xs := by
  refine ⟨h.1, fun hn => ?_⟩
  obtain ⟨g, cur, rfl, hb, hle, ht⟩ := h.2 hn
  exact ⟨g, cur, rfl, hb.upd hu (fun hf => hF g cur hf hb), hle, ht⟩
theorem Dg.lies.keep {F : Nat → Prop} {w w' : World} {d : Dg} (h : d.lies w) (hu : Upd F w w') (hF : NoBytes w F) : d.lies w' := ⟨h.1.keep hu hF, h.2⟩

structure NT (w : World) (g : Nat) (mtu most lost : Nat) (ds : List Dg) (A : Option Addr) (c : Nat) : Prop where
  blk : Blk w g 53 #[.int .i64 mtu, .int .i64 most, .slice A ds.length c, .int .i64 lost]
  own : w.ownsRow 0 56 3 (.slice A ds.length c) ds.length (dcells ds)
  dat : ∀ d ∈ ds, d.lies w
theorem NT.keep {F : Nat → Prop} {w w' : World} {g mtu most lost : Nat} {ds : List Dg} {A : Option Addr} {c : Nat} (h : NT w g mtu most lost ds A c) (hu : Upd F w w') (h1 : ¬ F g) (h2 : ∀ k, A.map (·.block) = some k → ¬ F k) (h3 : ∀ d ∈ ds, ∀ k cur, d.B.map (·.block) = some k → Blk w k 5 cur → ¬ F k) : NT w' g mtu most lost ds A c := by
  refine ⟨h.blk.upd hu h1, owns_upd h.own hu (by rw [ownBlock_map]; exact h2), fun d hd => ⟨⟨(h.dat d hd).1.1, fun hn => ?_⟩, (h.dat d hd).2⟩⟩
  obtain ⟨g', cur, hB, hb, hle, ht⟩ := (h.dat d hd).1.2 hn
  exact ⟨g', cur, hB, hb.upd hu (h3 d hd g' cur (by rw [hB]; rfl) hb), hle, ht⟩
theorem NT.fresh {w w' : World} {g mtu most lost : Nat} {ds : List Dg} {A : Option Addr} {c : Nat} (h : NT w g mtu most lost ds A c) (hu : Fresh w w') : NT w' g mtu most lost ds A c :=
  h.keep hu (fun h => h) (fun _ _ h => h) (fun _ _ _ _ _ _ h => h)

theorem len_o {w : World} {g mtu most lost : Nat} {ds : List Dg} {A : Option Addr} {c : Nat} (h : NT w g mtu most lost ds A c) : Calls Try.prog 7 #[.pointer (some ⟨g, 0, none⟩)] w fun e w' => e = .returned (.int .i64 ds.length) ∧ w = w' := by
  have c2 := h.blk.cell 2
  simp only [List.getElem?_toArray, List.getElem?_cons_zero, List.getElem?_cons_succ] at c2
  go_enter Try.func7, Try.ntmps7
  go_wp2
  go_ret
  exact ⟨rfl, rfl⟩
theorem lost_o {w : World} {g mtu most lost : Nat} {ds : List Dg} {A : Option Addr} {c : Nat} (h : NT w g mtu most lost ds A c) : Calls Try.prog 10 #[.pointer (some ⟨g, 0, none⟩)] w fun e w' => e = .returned (.int .i64 lost) ∧ w = w' := by
  have c3 := h.blk.cell 3
  simp only [List.getElem?_toArray, List.getElem?_cons_zero, List.getElem?_cons_succ] at c3
  go_enter Try.func10, Try.ntmps10
  go_wp2
  go_ret
  exact ⟨rfl, rfl⟩

theorem new_yes (mtu most : Nat) (w : World) (h1 : 64 ≤ mtu) (h2 : mtu ≤ 1500) (h3 : 1 ≤ most) (h4 : most ≤ 1000) :
    Calls Try.prog 6 #[.int .i64 mtu, .int .i64 most] w fun e w' => e = .returned (.tuple #[.pointer (some ⟨w.heap.size, 0, none⟩), .int .i64 0]) ∧ NT w' w.heap.size mtu most 0 [] none 0 ∧ Fresh w w' := by
  go_enter Try.func6, Try.ntmps6
  go_wp2
  go_ret2
  exact ⟨rfl, ⟨Blk.new _ _ _, World.ownsRow_nil _ _ _ _, by simp⟩, (Upd.refl w).alloc _⟩
theorem new_no (mtu most : Int) (w : World) (h : mtu < 64 ∨ 1500 < mtu ∨ most < 1 ∨ 1000 < most) :
    Calls Try.prog 6 #[.int .i64 mtu, .int .i64 most] w fun e w' => e = .returned (.tuple #[.pointer none, .int .i64 1]) ∧ w = w' := by
  by_cases a1 : mtu < 64
  · go_enter Try.func6, Try.ntmps6
    go_wp2
    go_ret2
    exact ⟨rfl, rfl⟩
  · by_cases a2 : 1500 < mtu
    · go_enter Try.func6, Try.ntmps6
      go_wp2
      go_ret2
      exact ⟨rfl, rfl⟩
    · by_cases a3 : most < 1
      · go_enter Try.func6, Try.ntmps6
        go_wp2
        go_ret2
        exact ⟨rfl, rfl⟩
      · have a4 : 1000 < most := by omega
        go_enter Try.func6, Try.ntmps6
        go_wp2
        go_ret2
        exact ⟨rfl, rfl⟩
end Go.Proofs.Ytdflbfkdegkboaa
