import Derived.Test.YtdflbfkdegkboaaAll
import Derived.Deep.Cut
import Derived.Deep.CutRange
namespace Go.Proofs.Ytdflbfkdegkboaa
open Go.RowKit

/-! ### The calls that came in -/
structure SOp where
  kd : Int
  ix : Int
  frm : Int
  to_ : Int
  da : Option Addr
  dc : Nat
  b : List UInt8
theorem add_far (a : Addr) (k j : Nat) (hj : 0 < j) : a.add (k + j) = ⟨(a.add k).block, (a.add k).off + j, none⟩ := by
  rw [← add_of_add]
  generalize a.add k = b
  unfold Addr.add
  rw [if_neg (by omega)]
def SOp.cells (o : SOp) : Array Value := #[.int .i64 o.kd, .int .i64 o.ix, .int .i64 o.frm, .int .i64 o.to_, .slice o.da o.b.length o.dc]
structure OpsIn (w : World) (As : Option Addr) (m : Nat) (f : Nat → SOp) : Prop where
  at_ : 0 < m → ∃ sa, As = some sa ∧ sa.block < w.heap.size ∧ ∀ i, i < m → w.cell? (sa.add (i * 5)) = some (.int .i64 (f i).kd) ∧ w.cell? (sa.add (i * 5 + 1)) = some (.int .i64 (f i).ix) ∧ w.cell? (sa.add (i * 5 + 2)) = some (.int .i64 (f i).frm) ∧ w.cell? (sa.add (i * 5 + 3)) = some (.int .i64 (f i).to_) ∧ w.cell? (sa.add (i * 5 + 4)) = some (.slice (f i).da (f i).b.length (f i).dc)
  dat : ∀ i, Reads w (fun _ => True) 1 (f i).da (f i).b.length (bv (f i).b) ∧ ((f i).da = none → (f i).dc = 0) ∧ (f i).b.length ≤ 140737488351232
theorem OpsIn.fresh {w w' : World} {As : Option Addr} {m : Nat} {f : Nat → SOp} (h : OpsIn w As m f) (hu : Fresh w w') : OpsIn w' As m f := by
  refine ⟨fun hm => ?_, fun i => ⟨(h.dat i).1.upd hu (fun _ _ h => h), (h.dat i).2⟩⟩
  obtain ⟨sa, e, hb, hc⟩ := h.at_ hm
  have hk : ∀ j, w'.cell? (sa.add j) = w.cell? (sa.add j) := fun j => hu.cell (by rw [block_of_add]; exact hb) (fun h => h)
  refine ⟨sa, e, Nat.lt_of_lt_of_le hb hu.size, fun i hi => ?_⟩
  rw [hk, hk, hk, hk, hk]
  exact hc i hi

theorem Arr.upd2 {F : Nat → Prop} {w w' : World} {e : TypeId} {A : Option Addr} {n : Nat} {xs : List Value} (h : Arr w e A n xs) (hu : Upd F w w') (hd : 0 < n → ∀ k, A.map (·.block) = some k → ¬ F k) : Arr w' e A n xs := by
  refine ⟨h.1, fun hn => ?_⟩
  obtain ⟨g, cur, rfl, hb, hle, ht⟩ := h.2 hn
  exact ⟨g, cur, rfl, hb.upd hu (hd hn g rfl), hle, ht⟩
theorem Arr.set_ {w : World} {e : TypeId} {n : Nat} {ad : Addr} {xs : List Value} (h : Arr w e (some ad) n xs) {j : Nat} (hj : j < n) (u : Value) : Arr (w.setCell (ad.add j) u) e (some ad) n (xs.set j u) := by
  refine ⟨by simpa using h.1, fun hn => ?_⟩
  obtain ⟨g, cur, hA, hb, hle, ht⟩ := h.2 hn
  injection hA with hA
  subst hA
  refine ⟨g, cur.setIfInBounds j u, rfl, ?_, by simpa using hle, ?_⟩
  · rw [Addr.add_lit, Nat.zero_add]
    exact hb.set_ j u
  · rw [Array.toList_setIfInBounds, ← ht, List.take_set]
theorem bv_ints (l : List UInt8) : ∀ u ∈ bv l, ∃ x : Int, u = .int .u8 x := by
  intro u hu
  obtain ⟨x, _, rfl⟩ := List.mem_map.1 hu
  exact ⟨_, rfl⟩
theorem ints_set {xs : List Value} (h : ∀ u ∈ xs, ∃ x : Int, u = .int .u8 x) (j : Nat) (y : Int) : ∀ u ∈ xs.set j (.int .u8 y), ∃ x : Int, u = .int .u8 x := by
  intro u hu
  rcases List.mem_or_eq_of_mem_set hu with h1 | h1
  · exact h u h1
  · exact ⟨y, h1⟩

/-- A row of bytes of the call's own that is being written over. -/
structure Scr (w0 w : World) (A : Option Addr) (n : Nat) : Prop where
  arr : ∃ xs : List Value, Arr w 5 A n xs ∧ ∀ u ∈ xs, ∃ x : Int, u = .int .u8 x
  upd : Upd (fun i => 0 < n ∧ A.map (·.block) = some i) w0 w
theorem Scr.start {w : World} {A : Option Addr} {n : Nat} {l : List UInt8} (h : Arr w 5 A n (bv l)) : Scr w w A n := ⟨⟨_, h, bv_ints l⟩, Upd.refl w⟩
theorem Scr.at_ {w0 w : World} {A : Option Addr} {n j : Nat} (h : Scr w0 w A n) (hj : j < n) : ∃ ad x, A = some ad ∧ w.cell? (ad.add j) = some (.int .u8 x) ∧ w.frozen? (ad.add j) = false ∧ ∀ y : Int, Scr w0 (w.setCell (ad.add j) (.int .u8 y)) A n := by
  obtain ⟨xs, ha, hi⟩ := h.arr
  obtain ⟨ad, u, hA, _, hlt, hu, hcell⟩ := ha.reads.at_ (k := j) hj
  subst hA
  obtain ⟨x, rfl⟩ := hi u (List.mem_of_getElem? hu)
  refine ⟨ad, x, rfl, hcell, ha.frozen rfl hj, fun y => ⟨⟨_, ha.set_ hj _, ints_set hi j y⟩, h.upd.setCell (fun _ => ⟨by omega, by rw [block_of_add]; rfl⟩) _⟩⟩

theorem NT.keep2 {F : Nat → Prop} {w w' : World} {g mtu most lost : Nat} {ds : List Dg} {A : Option Addr} {c : Nat} (h : NT w g mtu most lost ds A c) (hu : Upd F w w') (h1 : ¬ F g) (h2 : ∀ k, A.map (·.block) = some k → ¬ F k) (h3 : ∀ d ∈ ds, 0 < d.b.length → ∀ k, d.B.map (·.block) = some k → ¬ F k) : NT w' g mtu most lost ds A c :=
  ⟨h.blk.upd hu h1, owns_upd h.own hu (by rw [ownBlock_map]; exact h2), fun d hd => ⟨(h.dat d hd).1.upd2 hu (fun hn => h3 d hd hn), (h.dat d hd).2⟩⟩
theorem PB.own {w0 wr w4 w5 wx : World} {g g2 mtu most lost lost' n : Nat} {ds ds' : List Dg} {A A' A2 A2' A3 : Option Addr} {c c' c2 c2' : Nat} {xs : List Value} (h0 : PB w0 wr g g2 mtu most lost ds A c A2 c2) (h5 : PB w0 w5 g g2 mtu most lost' ds' A' c' A2' c2')
    (hd : ∀ d ∈ ds', d ∈ ds ∨ AB w4 d.B) (h4 : Arr w4 5 A3 n xs) (ha : Arr w5 5 A3 n xs) (hab : ∀ k, A3.map (·.block) = some k → wr.heap.size ≤ k) (hs : Scr w5 wx A3 n) : PB w0 wx g g2 mtu most lost' ds' A' c' A2' c2' := by
  have hF : ∀ i, (0 < n ∧ A3.map (·.block) = some i) → ∃ cur, Blk w5 i 5 cur := by
    rintro i ⟨hn, hk⟩
    obtain ⟨g', cur, rfl, hb, _⟩ := ha.2 hn
    simp at hk
    subst hk
    exact ⟨cur, hb⟩
  have hW := h0.on.fr.size
  refine ⟨⟨h5.on.nt.keep2 hs.upd ?_ ?_ ?_, h5.on.fr.next hs.upd ?_, h5.on.hg, h5.on.ha⟩, h5.rt.keep hs.upd ?_ ?_⟩
  · rintro h
    obtain ⟨cur, hb⟩ := hF _ h
    exact hb.ne_ h5.on.nt.blk (by decide) rfl
  · rintro k hk h
    obtain ⟨cur, hb⟩ := hF _ h
    exact own_blk_ne h5.on.nt.own hb (by decide) (by rw [ownBlock_map]; exact hk)
  · rintro d hdm hn k hk ⟨hn2, h⟩
    have h3 := hab k h
    rcases hd d hdm with h1 | h1
    · have := (h0.on.nt.dat d h1).1.lt_a hn hk
      omega
    · have := h1 k hk
      have := h4.lt_a hn2 h
      omega
  · rintro i ⟨_, h⟩
    have := hab i h
    omega
  · rintro h
    obtain ⟨cur, hb⟩ := hF _ h
    exact hb.ne_ h5.rt.blk (by decide) rfl
  · rintro k hk h
    obtain ⟨cur, hb⟩ := hF _ h
    exact own_blk_ne h5.rt.own hb (by decide) (by rw [ownBlock_map]; exact hk)

theorem sendD_len (k : Nat) (l : List Rg) (d : Rg) : (sendD k l d).length ≤ l.length + 1 := by unfold sendD; split <;> simp
section
variable {w0 w w' : World} {g g2 mtu most lost : Nat} {ds : List Dg} {rs : List Rg} {A A2 X : Option Addr} {c n go : Nat} {xs : List Value} {cs : Array Value}
theorem on_bytes (h : ON w0 w g mtu most lost ds A c) : NoBytes w (fun i => i = g ∨ A.map (·.block) = some i) := by
  rintro k cur (rfl | e) hb
  · exact hb.ne_ h.nt.blk (by decide) rfl
  · exact own_blk_ne h.nt.own hb (by decide) (by rw [ownBlock_map]; exact e)
theorem rt_bytes (h : RT w0 w g mtu most lost rs A c) : NoBytes w (fun i => i = g ∨ A.map (·.block) = some i) := by
  rintro k cur (rfl | e) hb
  · exact hb.ne_ h.blk (by decide) rfl
  · exact own_blk_ne h.own hb (by decide) (by rw [ownBlock_map]; exact e)
theorem on_op (h : ON w0 w g mtu most lost ds A c) (hb : Blk w go 39 cs) (hu : Upd (fun i => i = g ∨ A.map (·.block) = some i) w w') : Blk w' go 39 cs := by
  refine hb.upd hu ?_
  rintro (e | e)
  · exact hb.ne_ h.nt.blk (by decide) e
  · exact own_blk_ne h.nt.own hb (by decide) (by rw [ownBlock_map]; exact e)
theorem rt_op (h : RT w0 w g mtu most lost rs A c) (hb : Blk w go 39 cs) (hu : Upd (fun i => i = g ∨ A.map (·.block) = some i) w w') : Blk w' go 39 cs := by
  refine hb.upd hu ?_
  rintro (e | e)
  · exact hb.ne_ h.blk (by decide) e
  · exact own_blk_ne h.own hb (by decide) (by rw [ownBlock_map]; exact e)
end
theorem conv_of {w : World} {A : Option Addr} {c : Nat} {l : List UInt8} (h : Reads w (fun _ => True) 1 A l.length (bv l)) : (convert 29 9 (.slice A l.length c)).run Try.prog w = .ok (.string ⟨l.toArray⟩) w :=
  run_string_of (P := Try.prog) 29 9 5 Try.underlying29 Try.underlying5 Try.underlying9 h
theorem sendC_rg (mtu most : Nat) (ds : List Dg) (f t : Int) (b : List UInt8) : sendC mtu most (ds.map Dg.rg).length f t (ByteArray.mk b.toArray).size = sendC mtu most ds.length f t b.length := by simp [ByteArray.size]
theorem og_le {w0 w : World} {g mtu most lost : Nat} {ds : List Dg} {A : Option Addr} {c : Nat} (h : ON w0 w g mtu most lost ds A c) (i : Int) : (ogR (ds.map Dg.rg) i).s.size ≤ 1500 := by
  by_cases hi : 0 ≤ i ∧ i < (ds.map Dg.rg).length
  · obtain ⟨k, rfl⟩ := Int.eq_ofNat_of_zero_le hi.1
    have hk : k < ds.length := by simpa using hi.2
    rw [og_yes _ _ (by simpa using hk), List.getElem_map, rg_size]
    exact (h.nt.dat _ (List.getElem_mem hk)).2.2.2.1
  · rw [og_no _ _ hi]
    exact Nat.zero_le _
/-- What a Send of both leaves. -/
def SendPX (w0 w5 w : World) (g g2 mtu most i : Nat) (ds : List Dg) (A3 : Option Addr) (b : List UInt8) : Prop :=
  ∃ lost' ds' A' c' A2' c2', lost' ≤ i + 1 ∧ ds'.length ≤ i + 1 ∧ PB w0 w g g2 mtu most lost' ds' A' c' A2' c2' ∧ (∀ d ∈ ds', d ∈ ds ∨ AB w5 d.B) ∧ Arr w 5 A3 b.length (bv b)
theorem send_px {w0 w5 w6 w7 : World} {g g2 mtu most lost i k : Nat} {ds ds' : List Dg} {A' A2 A2' A3 : Option Addr} {c' c2 c2' : Nat} {b : List UInt8} {f t : Int} (hl : lost ≤ i) (hd : ds.length ≤ i)
    (h2 : ON w0 w6 g mtu most (sendL k lost) ds' A' c') (h3 : ds'.map Dg.rg = sendD k (ds.map Dg.rg) ⟨f, t, ⟨b.toArray⟩⟩) (h4 : ∀ d ∈ ds', d ∈ ds ∨ AB w5 d.B)
    (r1 : RT w0 w6 g2 mtu most lost (ds.map Dg.rg) A2 c2) (r2 : RT w0 w7 g2 mtu most (sendL k lost) (sendD k (ds.map Dg.rg) ⟨f, t, ⟨b.toArray⟩⟩) A2' c2') (r3 : Upd (fun i => i = g2 ∨ A2.map (·.block) = some i) w6 w7) (ha : Arr w6 5 A3 b.length (bv b)) :
    SendPX w0 w5 w7 g g2 mtu most i ds A3 b := by
  have e : ds'.length ≤ ds.length + 1 := by
    have := congrArg List.length h3
    have h := sendD_len k (ds.map Dg.rg) ⟨f, t, ⟨b.toArray⟩⟩
    rw [List.length_map] at this h
    omega
  have h1 := sendL_le k lost
  refine ⟨_, ds', A', c', A2', c2', by omega, by omega, ⟨PB.right h2 r1 r3, by rw [h3]; exact r2⟩, h4, ha.keep r3 (rt_bytes r1)⟩
/-- Both nets, behind at most i calls. -/
def PX (w0 w : World) (g g2 mtu most i : Nat) : Prop := ∃ lost ds A c A2 c2, lost ≤ i ∧ ds.length ≤ i ∧ PB w0 w g g2 mtu most lost ds A c A2 c2
theorem tkR_len {α : Type} (rs : List α) (i : Int) : (tkR rs i).length ≤ rs.length := by
  unfold tkR; split
  · simp; omega
  · exact Nat.le_refl _
theorem twR_len {α : Type} (most : Nat) (rs : List α) (i : Int) : (twR most rs i).length ≤ rs.length + 1 := by
  unfold twR; split
  · simp; omega
  · omega
theorem str_rg {w : World} {A : Option Addr} {n c : Nat} {s : ByteArray} (h : Arr w 5 A n (bv s.data.toList)) : (convert 29 9 (.slice A n c)).run Try.prog w = .ok (.string s) w := by
  have := str_of (c := c) h
  simpa using this
theorem len_q {w0 w : World} {g g2 mtu most lost nq : Nat} {ds : List Dg} {A A2 : Option Addr} {c c2 : Nat} (h : PB w0 w g g2 mtu most lost ds A c A2 c2) : Calls Try.prog 7 #[.pointer (some ⟨g, 0, none⟩)] (w.drewN nq) fun e w'' => e = .returned (.int .i64 ds.length) ∧ ∃ m, w'' = w.drewN m :=
  Calls.quiet_of_same ((len_o (h.fresh ((Upd.refl w).drewN nq)).on.nt).mono fun _ _ ⟨a, b⟩ => ⟨a, b.symm⟩)
theorem lost_q {w0 w : World} {g g2 mtu most lost nq : Nat} {ds : List Dg} {A A2 : Option Addr} {c c2 : Nat} (h : PB w0 w g g2 mtu most lost ds A c A2 c2) : Calls Try.prog 10 #[.pointer (some ⟨g, 0, none⟩)] (w.drewN nq) fun e w'' => e = .returned (.int .i64 lost) ∧ ∃ m, w'' = w.drewN m :=
  Calls.quiet_of_same ((lost_o (h.fresh ((Upd.refl w).drewN nq)).on.nt).mono fun _ _ ⟨a, b⟩ => ⟨a, b.symm⟩)
end Go.Proofs.Ytdflbfkdegkboaa
