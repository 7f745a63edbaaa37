import Derived.Test.YtdflbfkdegkboaaTk
import Derived.Test.YtdflbfkdegkboaaRtk
namespace Go.Proofs.Ytdflbfkdegkboaa
open Go.RowKit

/-! ### The contracts, each for every input, told by plain functions -/
def Dg.rg (d : Dg) : Rg := ⟨d.frm, d.to_, ⟨d.b.toArray⟩⟩
def sendC (mtu most n : Nat) (f t : Int) (l : Nat) : Nat := if f < 0 ∨ t < 0 then 1 else if mtu < l then 2 else if most ≤ n then 60 else 0
def sendL (k lost : Nat) : Nat := if k = 60 then lost + 1 else lost
def sendD (k : Nat) (l : List Rg) (d : Rg) : List Rg := if k = 0 then l ++ [d] else l
theorem sendL_le (k lost : Nat) : sendL k lost ≤ lost + 1 := by unfold sendL; split <;> omega

def SendAll (w0 w : World) (g mtu most lost : Nat) (ds : List Dg) (A : Option Addr) (f t : Int) (b : List UInt8) (k : Nat) (e : Ending) (w' : World) : Prop :=
  e = .returned (.int .i64 (k : Int)) ∧ ∃ ds' A' c', ON w0 w' g mtu most (sendL k lost) ds' A' c' ∧ ds'.map Dg.rg = sendD k (ds.map Dg.rg) ⟨f, t, ⟨b.toArray⟩⟩ ∧ (∀ d ∈ ds', d ∈ ds ∨ AB w d.B) ∧ Upd (fun i => i = g ∨ A.map (·.block) = some i) w w'
theorem send_all {w0 w : World} {g mtu most lost : Nat} {ds : List Dg} {A : Option Addr} {c : Nat} (h : ON w0 w g mtu most lost ds A c) (f t : Int) {S : Nat → Prop} (B : Option Addr) (b : List UInt8) (cap : Nat) (h7 : most ≤ 1000) (h8 : mtu ≤ 1500) (h6 : lost ≤ 1000000) (h9 : ds.length ≤ 1000000) (hb : b.length ≤ 9223372036854775807)
    (hr : Reads w S 1 B b.length (bv b)) (hc : B = none → cap = 0) :
    Calls Try.prog 8 #[.pointer (some ⟨g, 0, none⟩), .int .i64 f, .int .i64 t, .slice B b.length cap] w (SendAll w0 w g mtu most lost ds A f t b (sendC mtu most ds.length f t b.length)) := by
  by_cases h1 : f < 0 ∨ t < 0
  · have e : sendC mtu most ds.length f t b.length = 1 := by simp [sendC, h1]
    rw [e]
    exact (send_arg h f t _ h1).mono fun e w' ⟨he, ho, hu⟩ => ⟨he, ds, A, c, ho, rfl, fun d hd => .inl hd, hu.mono fun _ h => .inl h⟩
  by_cases h2 : mtu < b.length
  · have e : sendC mtu most ds.length f t b.length = 2 := by simp [sendC, h1, h2]
    rw [e]
    exact (send_long h f t B b.length cap (by omega) (by omega) h2 hb).mono fun e w' ⟨he, ho, hu⟩ => ⟨he, ds, A, c, ho, rfl, fun d hd => .inl hd, hu.mono fun _ h => .inl h⟩
  by_cases h3 : most ≤ ds.length
  · have e : sendC mtu most ds.length f t b.length = 60 := by simp [sendC, h1, h2, h3]
    rw [e]
    exact (send_full h f t B b.length cap (by omega) (by omega) (by omega) hb h3 h6 h9 h8).mono fun e w' ⟨he, ho, hu⟩ => ⟨he, ds, A, c, ho, rfl, fun d hd => .inl hd, hu.mono fun _ h => .inl h⟩
  · have e : sendC mtu most ds.length f t b.length = 0 := by simp [sendC, h1, h2, h3]
    rw [e]
    refine (send_yes h f t B b cap (by omega) (by omega) (by omega) (by omega) h7 h8 hr hc).mono ?_
    rintro e w' ⟨he, d, A', c', e1, e2, e3, hab, ho, hu⟩
    refine ⟨he, ds ++ [d], A', c', ho, ?_, ?_, hu⟩
    · simp [sendD, Dg.rg, e1, e2, e3]
    · intro d' hd'
      rcases List.mem_append.1 hd' with h | h
      · exact .inl h
      · simp at h; subst h; exact .inr hab

def RAll (w0 w : World) (g mtu most lost : Nat) (rs : List Rg) (A : Option Addr) (v : Value) (e : Ending) (w' : World) : Prop :=
  e = .returned v ∧ ∃ A' c', RT w0 w' g mtu most lost rs A' c' ∧ Upd (fun i => i = g ∨ A.map (·.block) = some i) w w'
theorem rsend_all {w0 w : World} {g mtu most lost : Nat} {ds : List Rg} {A : Option Addr} {c : Nat} (h : RT w0 w g mtu most lost ds A c) (hw : w0.heap.size ≤ w.heap.size) (f t : Int) (s : ByteArray) (h7 : most ≤ 1000) (h6 : lost ≤ 1000000) :
    Calls Try.prog 13 #[.pointer (some ⟨g, 0, none⟩), .int .i64 f, .int .i64 t, .string s] w (RAll w0 w g mtu most (sendL (sendC mtu most ds.length f t s.size) lost) (sendD (sendC mtu most ds.length f t s.size) ds ⟨f, t, s⟩) A (.int .i64 (sendC mtu most ds.length f t s.size : Nat))) := by
  by_cases h1 : f < 0 ∨ t < 0
  · have e : sendC mtu most ds.length f t s.size = 1 := by simp [sendC, h1]
    rw [e]
    exact (rsend_arg h f t _ h1).mono fun e w' ⟨he, ho, hu⟩ => ⟨he, A, c, ho, hu.mono fun _ h => .inl h⟩
  by_cases h2 : mtu < s.size
  · have e : sendC mtu most ds.length f t s.size = 2 := by simp [sendC, h1, h2]
    rw [e]
    exact (rsend_long h f t s (by omega) (by omega) h2).mono fun e w' ⟨he, ho, hu⟩ => ⟨he, A, c, ho, hu.mono fun _ h => .inl h⟩
  by_cases h3 : most ≤ ds.length
  · have e : sendC mtu most ds.length f t s.size = 60 := by simp [sendC, h1, h2, h3]
    rw [e]
    exact (rsend_full h f t s (by omega) (by omega) (by omega) h3 h6).mono fun e w' ⟨he, ho, hu⟩ => ⟨he, A, c, ho, hu.mono fun _ h => .inl h⟩
  · have e : sendC mtu most ds.length f t s.size = 0 := by simp [sendC, h1, h2, h3]
    rw [e]
    exact (rsend_yes h hw f t s (by omega) (by omega) (by omega) (by omega) h7).mono fun e w' ⟨he, A', c', ho, hu⟩ => ⟨he, A', c', ho, hu⟩

def okR (n : Nat) (i : Int) : Bool := decide (0 ≤ i ∧ i < n)
def ogR (rs : List Rg) (i : Int) : Rg := if 0 ≤ i ∧ i < rs.length then rs.getD i.toNat Rg.zero else Rg.zero
theorem og_yes (rs : List Rg) (i : Nat) (hi : i < rs.length) : ogR rs i = rs[i] := by
  have : (0 : Int) ≤ i ∧ (i : Int) < rs.length := by omega
  simp [ogR, this, hi]
theorem og_no (rs : List Rg) (i : Int) (hi : ¬ (0 ≤ i ∧ i < rs.length)) : ogR rs i = Rg.zero := by simp only [ogR, if_neg hi]
theorem ok_yes (n i : Nat) (hi : i < n) : okR n i = true := by simp [okR, hi]
theorem ok_no (n : Nat) (i : Int) (hi : ¬ (0 ≤ i ∧ i < n)) : okR n i = false := by simp only [okR, decide_eq_false_iff_not]; exact hi
/-- What is left when the i-th is taken. -/
def tkR {α : Type} (rs : List α) (i : Int) : List α := if 0 ≤ i ∧ i < rs.length then rs.take i.toNat ++ rs.drop (i.toNat + 1) else rs
theorem tk_yes {α : Type} (rs : List α) (i : Nat) (hi : i < rs.length) : tkR rs i = rs.take i ++ rs.drop (i + 1) := by
  have : (0 : Int) ≤ i ∧ (i : Int) < rs.length := by omega
  simp [tkR, hi]
theorem tk_no {α : Type} (rs : List α) (i : Int) (hi : ¬ (0 ≤ i ∧ i < rs.length)) : tkR rs i = rs := by simp only [tkR, if_neg hi]
theorem tk_map {α β : Type} (f : α → β) (rs : List α) (i : Int) : (tkR rs i).map f = tkR (rs.map f) i := by
  unfold tkR
  rw [List.length_map]
  split <;> simp [List.map_take, List.map_drop]

def AtAll (r : Rg) (k : Bool) (w : World) (e : Ending) (w' : World) : Prop :=
  ∃ B, e = .returned (.tuple #[.int .i64 r.frm, .int .i64 r.to_, .slice B r.s.size r.s.size, .bool k]) ∧ Arr w' 5 B r.s.size (bv r.s.data.toList) ∧ AB w B ∧ Fresh w w'
theorem rg_size (d : Dg) : d.rg.s.size = d.b.length := by simp [Dg.rg, ByteArray.size]
theorem at_all {w0 w : World} {g mtu most lost : Nat} {ds : List Dg} {A : Option Addr} {c : Nat} (h : ON w0 w g mtu most lost ds A c) (i : Int) (hmax : ds.length ≤ 1000000) :
    Calls Try.prog 17 #[.pointer (some ⟨g, 0, none⟩), .int .i64 i] w (AtAll (ogR (ds.map Dg.rg) i) (okR ds.length i) w) := by
  by_cases hi : 0 ≤ i ∧ i < ds.length
  · obtain ⟨k, rfl⟩ := Int.eq_ofNat_of_zero_le hi.1
    have hk : k < ds.length := by omega
    rw [og_yes _ _ (by simpa using hk), ok_yes _ _ hk]
    refine (at_yes h k hk hmax).mono ?_
    rintro e w' ⟨B, rfl, h1, h2, h3⟩
    refine ⟨B, ?_, ?_, h2, h3⟩
    · simp [Dg.rg, ByteArray.size]
    · simpa [Dg.rg, ByteArray.size] using h1
  · rw [og_no _ _ (by simpa using hi), ok_no _ _ hi]
    refine (at_no h i (by omega)).mono ?_
    rintro e w' ⟨rfl, rfl⟩
    exact ⟨none, rfl, Arr.nil rfl, AB.none_ _, Upd.refl _⟩
theorem rat_all {w0 w : World} {g mtu most lost : Nat} {ds : List Rg} {A : Option Addr} {c : Nat} (h : RT w0 w g mtu most lost ds A c) (i : Int) (hmax : ds.length ≤ 1000000) :
    Calls Try.prog 18 #[.pointer (some ⟨g, 0, none⟩), .int .i64 i] w (RAt (ogR ds i) (okR ds.length i) w) := by
  by_cases hi : 0 ≤ i ∧ i < ds.length
  · obtain ⟨k, rfl⟩ := Int.eq_ofNat_of_zero_le hi.1
    have hk : k < ds.length := by omega
    rw [og_yes _ _ hk, ok_yes _ _ hk]
    exact rat_yes h k hk hmax
  · rw [og_no _ _ hi, ok_no _ _ hi]
    exact rat_no h i (by omega)

def TakeAll (w0 w : World) (g mtu most lost : Nat) (ds : List Dg) (r : Rg) (k : Bool) (i : Int) (A : Option Addr) (c : Nat) (e : Ending) (w' : World) : Prop :=
  ∃ B, e = .returned (.tuple #[.int .i64 r.frm, .int .i64 r.to_, .slice B r.s.size r.s.size, .bool k]) ∧ Arr w' 5 B r.s.size (bv r.s.data.toList) ∧ AB w B ∧ ON w0 w' g mtu most lost (tkR ds i) A c ∧ Upd (fun k => k = g ∨ A.map (·.block) = some k) w w'
theorem take_all {w0 w : World} {g mtu most lost : Nat} {ds : List Dg} {A : Option Addr} {c : Nat} (h : ON w0 w g mtu most lost ds A c) (i : Int) (hmax : ds.length ≤ 1000000) :
    Calls Try.prog 9 #[.pointer (some ⟨g, 0, none⟩), .int .i64 i] w (TakeAll w0 w g mtu most lost ds (ogR (ds.map Dg.rg) i) (okR ds.length i) i A c) := by
  by_cases hi : 0 ≤ i ∧ i < ds.length
  · obtain ⟨k, rfl⟩ := Int.eq_ofNat_of_zero_le hi.1
    have hk : k < ds.length := by omega
    rw [og_yes _ _ (by simpa using hk), ok_yes _ _ hk]
    refine (take_yes h k hk hmax).mono ?_
    rintro e w' ⟨B, rfl, h1, h2, h3, h4⟩
    refine ⟨B, ?_, ?_, h2, ?_, h4⟩
    · simp [Dg.rg, ByteArray.size]
    · simpa [Dg.rg, ByteArray.size] using h1
    · rw [tk_yes _ _ hk]; exact h3
  · rw [og_no _ _ (by simpa using hi), ok_no _ _ hi]
    refine (take_no h i (by omega)).mono ?_
    rintro e w' ⟨rfl, rfl⟩
    refine ⟨none, rfl, Arr.nil rfl, AB.none_ _, ?_, Upd.refl _⟩
    rw [tk_no _ _ hi]; exact h
theorem rtake_all {w0 w : World} {g mtu most lost : Nat} {ds : List Rg} {A : Option Addr} {c : Nat} (h : RT w0 w g mtu most lost ds A c) (hw : w0.heap.size ≤ w.heap.size) (i : Int) (hmax : ds.length ≤ 1000000) :
    Calls Try.prog 14 #[.pointer (some ⟨g, 0, none⟩), .int .i64 i] w (RAll w0 w g mtu most lost (tkR ds i) A (.tuple #[(ogR ds i).agg, .bool (okR ds.length i)])) := by
  by_cases hi : 0 ≤ i ∧ i < ds.length
  · obtain ⟨k, rfl⟩ := Int.eq_ofNat_of_zero_le hi.1
    have hk : k < ds.length := by omega
    rw [og_yes _ _ hk, ok_yes _ _ hk, tk_yes _ _ hk]
    exact (rtake_yes h hw k hk hmax).mono fun e w' ⟨he, A', c', ho, hu⟩ => ⟨he, A', c', ho, hu⟩
  · rw [og_no _ _ hi, ok_no _ _ hi, tk_no _ _ hi]
    exact (rtake_no h i (by omega)).mono fun e w' ⟨he, hf⟩ => ⟨he, A, c, h.fresh hf, hf.to⟩

def twK (most n : Nat) (i : Int) : Bool := decide (0 ≤ i ∧ i < n ∧ n < most)
def twR {α : Type} (most : Nat) (rs : List α) (i : Int) : List α := if 0 ≤ i ∧ i < rs.length ∧ rs.length < most then rs ++ (rs.drop i.toNat).take 1 else rs
theorem tw_map {α β : Type} (f : α → β) (most : Nat) (rs : List α) (i : Int) : (twR most rs i).map f = twR most (rs.map f) i := by
  unfold twR
  rw [List.length_map]
  split <;> simp [List.map_take, List.map_drop]
theorem tw_yes {α : Type} (most : Nat) (rs : List α) (i : Nat) (hi : i < rs.length) (hm : rs.length < most) : twR most rs i = rs ++ [rs[i]] := by
  have h : (0 : Int) ≤ i ∧ (i : Int) < rs.length ∧ rs.length < most := by omega
  rw [twR, if_pos h, Int.toNat_natCast, List.drop_eq_getElem_cons hi]
  rfl
def TwAll (w0 w : World) (g mtu most lost : Nat) (ds : List Dg) (k : Bool) (A : Option Addr) (e : Ending) (w' : World) : Prop :=
  e = .returned (.bool k) ∧ ∃ A' c', ON w0 w' g mtu most lost ds A' c' ∧ Upd (fun i => i = g ∨ A.map (·.block) = some i) w w'
theorem twice_all {w0 w : World} {g mtu most lost : Nat} {ds : List Dg} {A : Option Addr} {c : Nat} (h : ON w0 w g mtu most lost ds A c) (i : Int) (hmost : most ≤ 1000) :
    Calls Try.prog 15 #[.pointer (some ⟨g, 0, none⟩), .int .i64 i] w (TwAll w0 w g mtu most lost (twR most ds i) (twK most ds.length i) A) := by
  by_cases hi : 0 ≤ i ∧ i < ds.length ∧ ds.length < most
  · obtain ⟨k, rfl⟩ := Int.eq_ofNat_of_zero_le hi.1
    have hk : k < ds.length := by omega
    rw [tw_yes _ _ _ hk hi.2.2, show twK most ds.length k = true by simp only [twK, decide_eq_true_eq]; exact hi]
    exact (twice_yes h k hk hi.2.2 hmost).mono fun e w' ⟨he, A', c', ho, hu⟩ => ⟨he, A', c', ho, hu⟩
  · rw [show twR most ds i = ds by simp only [twR, if_neg hi], show twK most ds.length i = false by simp only [twK, decide_eq_false_iff_not]; exact hi]
    refine (twice_no h i (by omega)).mono ?_
    rintro e w' ⟨rfl, n, rfl⟩
    exact ⟨rfl, A, c, h.fresh ((Upd.refl w).drewN n), (Upd.refl w).drewN n⟩
theorem rtwice_all {w0 w : World} {g mtu most lost : Nat} {ds : List Rg} {A : Option Addr} {c : Nat} (h : RT w0 w g mtu most lost ds A c) (hw : w0.heap.size ≤ w.heap.size) (i : Int) (hmost : most ≤ 1000) (hmax : ds.length ≤ 1000000) :
    Calls Try.prog 16 #[.pointer (some ⟨g, 0, none⟩), .int .i64 i] w (RAll w0 w g mtu most lost (twR most ds i) A (.bool (twK most ds.length i))) := by
  by_cases hi : 0 ≤ i ∧ i < ds.length ∧ ds.length < most
  · obtain ⟨k, rfl⟩ := Int.eq_ofNat_of_zero_le hi.1
    have hk : k < ds.length := by omega
    rw [tw_yes _ _ _ hk hi.2.2, show twK most ds.length k = true by simp only [twK, decide_eq_true_eq]; exact hi]
    exact (rtwice_yes h hw k hk hi.2.2 hmost).mono fun e w' ⟨he, A', c', ho, hu⟩ => ⟨he, A', c', ho, hu⟩
  · rw [show twR most ds i = ds by simp only [twR, if_neg hi], show twK most ds.length i = false by simp only [twK, decide_eq_false_iff_not]; exact hi]
    exact (rtwice_no h i (by omega) hmax).mono fun e w' ⟨he, hf⟩ => ⟨he, A, c, h.fresh hf, hf.to⟩

/-! ### The program's net and the document's, in one world -/
theorem own_own_ne {w : World} {e e' : TypeId} {s s' n n' : Nat} {v v' : Value} {xs ys : List Value} (h : w.ownsRow 0 e s v n xs) (h' : w.ownsRow 0 e' s' v' n' ys) (hne : e ≠ e') {k : Nat} (hk : v.ownBlock = some k) : v'.ownBlock ≠ some k := by
  rcases h.2 with ⟨rfl, _⟩ | ⟨g, cap, cur, rfl, _, hg, _⟩
  · simp [Value.ownBlock] at hk
  · have hb : Blk w g e cur := hg
    have : g = k := by simpa [Value.ownBlock] using hk
    subst this
    exact own_blk_ne h' hb (fun e => hne e.symm)
structure PB (w0 w : World) (g g2 mtu most lost : Nat) (ds : List Dg) (A : Option Addr) (c : Nat) (A2 : Option Addr) (c2 : Nat) : Prop where
  on : ON w0 w g mtu most lost ds A c
  rt : RT w0 w g2 mtu most lost (ds.map Dg.rg) A2 c2
section
variable {w0 w w' : World} {g g2 mtu most lost lost' : Nat} {ds ds' : List Dg} {rs' : List Rg} {A A' A2 A2' : Option Addr} {c c' c2 c2' : Nat}
theorem PB.fresh (h : PB w0 w g g2 mtu most lost ds A c A2 c2) (hu : Fresh w w') : PB w0 w' g g2 mtu most lost ds A c A2 c2 := ⟨h.on.fresh hu, h.rt.fresh hu⟩
theorem PB.left (h : PB w0 w g g2 mtu most lost ds A c A2 c2) (hu : Upd (fun i => i = g ∨ A.map (·.block) = some i) w w') : RT w0 w' g2 mtu most lost (ds.map Dg.rg) A2 c2 := by
  refine h.rt.keep hu ?_ ?_
  · rintro (e | e)
    · exact h.rt.blk.ne_ h.on.nt.blk (by decide) e
    · exact own_blk_ne h.on.nt.own h.rt.blk (by decide) (by rw [ownBlock_map]; exact e)
  · rintro k hk (rfl | e)
    · exact own_blk_ne h.rt.own h.on.nt.blk (by decide) (by rw [ownBlock_map]; exact hk)
    · exact own_own_ne h.on.nt.own h.rt.own (by decide) (by rw [ownBlock_map]; exact e) (by rw [ownBlock_map]; exact hk)
theorem PB.right (ho : ON w0 w g mtu most lost' ds' A' c') (h : RT w0 w g2 mtu most lost rs' A2 c2) (hu : Upd (fun i => i = g2 ∨ A2.map (·.block) = some i) w w') : ON w0 w' g mtu most lost' ds' A' c' := by
  refine ⟨ho.nt.keep hu ?_ ?_ ?_, ho.fr.next hu ?_, ho.hg, ho.ha⟩
  · rintro (e | e)
    · exact ho.nt.blk.ne_ h.blk (by decide) e
    · exact own_blk_ne h.own ho.nt.blk (by decide) (by rw [ownBlock_map]; exact e)
  · rintro k hk (rfl | e)
    · exact own_blk_ne ho.nt.own h.blk (by decide) (by rw [ownBlock_map]; exact hk)
    · exact own_own_ne h.own ho.nt.own (by decide) (by rw [ownBlock_map]; exact e) (by rw [ownBlock_map]; exact hk)
  · rintro d hd k cur hk hb (rfl | e)
    · exact hb.ne_ h.blk (by decide) rfl
    · exact own_blk_ne h.own hb (by decide) (by rw [ownBlock_map]; exact e)
  · rintro i (rfl | hi)
    · exact h.hg
    · exact h.ha i hi
end
end Go.Proofs.Ytdflbfkdegkboaa
