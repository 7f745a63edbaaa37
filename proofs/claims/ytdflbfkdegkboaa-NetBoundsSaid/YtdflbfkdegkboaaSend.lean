import Derived.Test.YtdflbfkdegkboaaSm
import Derived.Deep.DeepMust
namespace Go.Proofs.Ytdflbfkdegkboaa
open Go.RowKit

/-! ### A net of a call that began in w0 -/
structure ON (w0 w : World) (g mtu most lost : Nat) (ds : List Dg) (A : Option Addr) (c : Nat) : Prop where
  nt : NT w g mtu most lost ds A c
  fr : Fresh w0 w
  hg : w0.heap.size ≤ g
  ha : AB w0 A
theorem ON.fresh {w0 w w' : World} {g mtu most lost : Nat} {ds : List Dg} {A : Option Addr} {c : Nat} (h : ON w0 w g mtu most lost ds A c) (hu : Fresh w w') : ON w0 w' g mtu most lost ds A c :=
  ⟨h.nt.fresh hu, h.fr.trans hu (fun _ _ h => h), h.hg, h.ha⟩

theorem noBytes_of {w : World} {g : Nat} {t : TypeId} {cs : Array Value} (h : Blk w g t cs) (hne : 5 ≠ t) : NoBytes w (fun i => i = g) := fun k cur e hb => by
  subst e
  exact hb.ne_ h hne rfl
theorem ON.lost {w0 w : World} {g mtu most lost : Nat} {ds : List Dg} {A : Option Addr} {c : Nat} (h : ON w0 w g mtu most lost ds A c) (k : Nat) : ON w0 (w.setCell ⟨g, 3, none⟩ (.int .i64 (k : Int))) g mtu most k ds A c := by
  have hu : Upd (fun i => i = g) w (w.setCell ⟨g, 3, none⟩ (.int .i64 (k : Int))) := upd_set w ⟨g, 3, none⟩ _
  refine ⟨⟨by simpa using h.nt.blk.set_ 3 (.int .i64 (k : Int)), owns_upd h.nt.own hu (fun i hi e => own_blk_ne h.nt.own h.nt.blk (by decide) (by rw [hi, e])), fun d hd => (h.nt.dat d hd).keep hu (noBytes_of h.nt.blk (by decide))⟩, h.fr.next hu (fun i hi => by rw [show i = g from hi]; exact h.hg), h.hg, h.ha⟩
theorem reads_new (w : World) (cs : Array Value) (t : TypeId) (size m : Nat) (hs : cs.size = m * size) : Reads (w.alloc (.cells cs t)) (fun _ => True) size (some ⟨w.heap.size, 0, none⟩) m cs.toList :=
  ⟨by simpa using hs, fun _ => ⟨_, rfl, trivial, by simp, fun j u hu => World.news_of_block (heap_alloc_new w (.cells cs t)) j u hu⟩⟩
def SendNo (w0 w : World) (g mtu most lost : Nat) (ds : List Dg) (A : Option Addr) (c : Nat) (k : Int) (e : Ending) (w' : World) : Prop :=
  e = .returned (.int .i64 k) ∧ ON w0 w' g mtu most lost ds A c ∧ Upd (fun i => i = g) w w'

set_option maxHeartbeats 400000 in
theorem send_arg {w0 w : World} {g mtu most lost : Nat} {ds : List Dg} {A : Option Addr} {c : Nat} (h : ON w0 w g mtu most lost ds A c) (from_ to_ : Int) (v : Value) (hn : from_ < 0 ∨ to_ < 0) :
    Calls Try.prog 8 #[.pointer (some ⟨g, 0, none⟩), .int .i64 from_, .int .i64 to_, v] w (SendNo w0 w g mtu most lost ds A c 1) := by
  have H := Lib.hid h
  clear h
  by_cases h1 : from_ < 0
  · go_enter Try.func8, Try.ntmps8
    go_wp2
    go_ret
    exact ⟨rfl, H.out, Upd.refl _⟩
  · have h2 : to_ < 0 := by omega
    go_enter Try.func8, Try.ntmps8
    go_wp2
    go_ret
    exact ⟨rfl, H.out, Upd.refl _⟩

set_option maxHeartbeats 400000 in
theorem send_long {w0 w : World} {g mtu most lost : Nat} {ds : List Dg} {A : Option Addr} {c : Nat} (h : ON w0 w g mtu most lost ds A c) (from_ to_ : Int) (B : Option Addr) (n cap : Nat) (h1 : 0 ≤ from_) (h2 : 0 ≤ to_) (h3 : mtu < n) (_h4 : n ≤ 9223372036854775807) :
    Calls Try.prog 8 #[.pointer (some ⟨g, 0, none⟩), .int .i64 from_, .int .i64 to_, .slice B n cap] w (SendNo w0 w g mtu most lost ds A c 2) := by
  have H := Lib.hid h
  have c0 := h.nt.blk.cell 0
  simp only [List.getElem?_toArray, List.getElem?_cons_zero] at c0
  clear h
  go_enter Try.func8, Try.ntmps8
  go_wp2
  go_ret
  exact ⟨rfl, H.out, Upd.refl _⟩

set_option maxHeartbeats 400000 in
theorem send_full {w0 w : World} {g mtu most lost : Nat} {ds : List Dg} {A : Option Addr} {c : Nat} (h : ON w0 w g mtu most lost ds A c) (from_ to_ : Int) (B : Option Addr) (n cap : Nat) (h1 : 0 ≤ from_) (h2 : 0 ≤ to_) (h3 : n ≤ mtu) (_h4 : n ≤ 9223372036854775807) (h5 : most ≤ ds.length) (h6 : lost ≤ 1000000) (_h7 : ds.length ≤ 1000000) (_h8 : mtu ≤ 1500) :
    Calls Try.prog 8 #[.pointer (some ⟨g, 0, none⟩), .int .i64 from_, .int .i64 to_, .slice B n cap] w (SendNo w0 w g mtu most (lost + 1) ds A c 60) := by
  have H := Lib.hid h
  have c0 := h.nt.blk.cell 0
  have c1 := h.nt.blk.cell 1
  have c2 := h.nt.blk.cell 2
  have c3 := h.nt.blk.cell 3
  have f3 := h.nt.blk.frozen 3
  simp only [List.getElem?_toArray, List.getElem?_cons_zero, List.getElem?_cons_succ] at c0 c1 c2 c3
  clear h
  go_enter Try.func8, Try.ntmps8
  go_wp2
  go_quiet (fail)
  go_wp2
  go_ret
  have h9 := (H.out.fresh ((Upd.refl w).drewN nq)).lost (lost + 1)
  rw [show ((lost + 1 : Nat) : Int) = (lost : Int) + 1 by omega] at h9
  exact ⟨rfl, h9, Upd.setCell (F := fun i => i = g) (p := ⟨g, 3, none⟩) ((Upd.refl w).drewN nq) (fun _ => rfl) _⟩

/-- A datagram that was put behind the others. -/
def SendYes (w0 w : World) (g mtu most lost : Nat) (ds : List Dg) (A : Option Addr) (from_ to_ : Int) (b : List UInt8) (e : Ending) (w' : World) : Prop :=
  e = .returned (.int .i64 0) ∧ ∃ d A' c', d.frm = from_ ∧ d.to_ = to_ ∧ d.b = b ∧ AB w d.B ∧ ON w0 w' g mtu most lost (ds ++ [d]) A' c' ∧ Upd (fun i => i = g ∨ A.map (·.block) = some i) w w'

theorem send_end {w0 w w1 w2 : World} {g mtu most lost n : Nat} {ds : List Dg} {A A2 B1 : Option Addr} {c d2 e1 : Nat} {from_ to_ : Int} {b : List UInt8} (H : ON w0 w g mtu most lost ds A c) (N1 : NT w1 g mtu most lost ds A c)
    (h3 : b.length ≤ 1500) (hle1 : b.length ≤ e1) (hle2 : e1 ≤ 9223372036854775807) (hnil : B1 = none → e1 = 0) (ha1 : Arr w1 5 B1 b.length (bv b)) (hab1 : AB (w.drewN n) B1) (hf1 : Fresh (w.drewN n) w1)
    (Ho : w2.ownsRow 0 56 3 (.slice A2 (ds.length + 1) d2) (ds.length + 1) (dcells ds ++ [.int .i64 from_, .int .i64 to_, .slice B1 b.length e1])) (o : Obj) (Hg : (w1.alloc o).grownBy w2 (Value.slice A ds.length c).ownBlock)
    (Ha : (Value.slice A2 (ds.length + 1) d2).ownBlock = (Value.slice A ds.length c).ownBlock ∨ (Value.slice A2 (ds.length + 1) d2).ownBlock = some (w1.alloc o).heap.size) :
    SendYes w0 w g mtu most lost ds A from_ to_ b (.returned (.int .i64 0)) (w2.setCell ⟨g, 2, none⟩ (.slice A2 (ds.length + 1) d2)) := by
  have hw1 : Fresh w w1 := ((Upd.refl w).drewN n).trans hf1 (fun _ _ h => h)
  have hneA : A.map (·.block) ≠ some g := by rw [← ownBlock_map]; exact own_blk_ne N1.own N1.blk (by decide)
  have hu12 : Upd (fun i => A.map (·.block) = some i) w1 w2 := ((Upd.refl w1).alloc o).grown Hg (fun i hi _ => by rw [ownBlock_map] at hi; exact hi)
  have hb2 : Blk w2 g 53 _ := N1.blk.upd hu12 (fun e => hneA e)
  have hF1 : NoBytes w1 (fun i => A.map (·.block) = some i) := by
    intro k cur hk hb
    exact own_blk_ne N1.own hb (by decide) (by rw [ownBlock_map]; exact hk)
  have hu23 : Upd (fun i => i = g) w2 (w2.setCell ⟨g, 2, none⟩ (.slice A2 (ds.length + 1) d2)) := upd_set w2 ⟨g, 2, none⟩ _
  have hF2 := noBytes_of hb2 (by decide)
  have hall : Upd (fun i => i = g ∨ A.map (·.block) = some i) w (w2.setCell ⟨g, 2, none⟩ (.slice A2 (ds.length + 1) d2)) :=
    ((hw1.mono (G := fun i => i = g ∨ A.map (·.block) = some i) (fun _ h => h.elim)).trans (hu12.mono (G := fun i => i = g ∨ A.map (·.block) = some i) (fun _ h => Or.inr h)) (fun _ _ h => h)).trans (hu23.mono (G := fun i => i = g ∨ A.map (·.block) = some i) (fun _ h => Or.inl h)) (fun _ _ h => h)
  refine ⟨rfl, ⟨from_, to_, b, B1, e1⟩, A2, d2, rfl, rfl, rfl, fun k hk => by simpa using hab1 k hk, ⟨⟨?_, ?_, ?_⟩, H.fr.next hall ?_, H.hg, ?_⟩, hall⟩
  · simpa using hb2.set_ 2 (.slice A2 (ds.length + 1) d2)
  · have e : dcells (ds ++ [⟨from_, to_, b, B1, e1⟩]) = dcells ds ++ [.int .i64 from_, .int .i64 to_, .slice B1 b.length e1] := by simp [dcells, Dg.cells]
    rw [e, List.length_append]
    show World.ownsRow _ 0 56 3 (.slice A2 (ds.length + 1) d2) (ds.length + 1) _
    exact owns_upd Ho hu23 (fun k hk e => own_blk_ne Ho hb2 (by decide) (by rw [hk, e]))
  · intro d hd
    rcases List.mem_append.1 hd with hd | hd
    · exact ((N1.dat d hd).keep hu12 hF1).keep hu23 hF2
    · simp at hd
      subst hd
      exact ⟨(ha1.keep hu12 hF1).keep hu23 hF2, hle1, hle2, h3, hnil⟩
  · rintro i (rfl | hi)
    · exact H.hg
    · exact H.ha i hi
  · intro k hk
    rw [ownBlock_map, ownBlock_map, hk] at Ha
    rcases Ha with h | h
    · exact H.ha k h.symm
    · injection h with h
      have h1 := H.fr.size
      have h2 := hw1.size
      simp at h
      omega

set_option maxHeartbeats 800000 in
theorem send_yes {w0 w : World} {g mtu most lost : Nat} {ds : List Dg} {A : Option Addr} {c : Nat} (h : ON w0 w g mtu most lost ds A c) (from_ to_ : Int) {S : Nat → Prop} (B : Option Addr) (b : List UInt8) (cap : Nat) (h1 : 0 ≤ from_) (h2 : 0 ≤ to_) (h3 : b.length ≤ mtu) (h5 : ds.length < most) (h7 : most ≤ 1000) (h8 : mtu ≤ 1500)
    (hr : Reads w S 1 B b.length (bv b)) (hc : B = none → cap = 0) :
    Calls Try.prog 8 #[.pointer (some ⟨g, 0, none⟩), .int .i64 from_, .int .i64 to_, .slice B b.length cap] w (SendYes w0 w g mtu most lost ds A from_ to_ b) := by
  obtain ⟨i0, hi0, hz0, hz1, hz2⟩ := info_parts Try.info56
  have H := Lib.hid h
  have c0 := h.nt.blk.cell 0
  have c1 := h.nt.blk.cell 1
  have c2 := h.nt.blk.cell 2
  simp only [List.getElem?_toArray, List.getElem?_cons_zero, List.getElem?_cons_succ] at c0 c1 c2
  have HR := Lib.hid hr
  have HC := Lib.hid hc
  have hlt := h.nt.blk.lt
  clear h hr hc
  go_enter Try.func8, Try.ntmps8
  go_wp2
  go_quiet (fail)
  go_wp2_with fail
  go_region_law (first
    | (go_simp
       go_at_call 19
       refine (clone_o (HR.out.drewN (nq + 1)) (by omega) HC.out).mono ?_
       rintro e w1 ⟨B1, e1, rfl, hle1, hle2, hnil1, ha1, hab1, hf1⟩
       have N1 := Lib.hid ((H.out.nt.fresh ((Upd.refl w).drewN (nq + 1))).fresh hf1)
       have k2 := N1.out.blk.cell 2
       simp only [List.getElem?_toArray, List.getElem?_cons_zero, List.getElem?_cons_succ] at k2
       have hlt1 := N1.out.blk.lt
       have A1_ := Lib.hid ha1
       have AB1 := Lib.hid hab1
       have F1 := Lib.hid hf1
       have NI1 := Lib.hid hnil1
       clear ha1 hab1 hf1 hnil1)
    | (go_must (refine step_append_any _ rfl (.tmp 46) (.tmp 52) 51 rfl 56 i0 _ 3 40 Try.underlying51 hi0 hz0 hz1 hz2 rfl (by omega) (.slice A ds.length c) ds.length (dcells ds) rfl (N1.out.own.alloc _) (fun _ => True) (some ⟨w1.heap.size, 0, none⟩) 1 1 _ rfl (reads_new w1 _ 56 3 1 rfl) (by simp [Value.oneCell']) (by unfold maxLen; omega) (by omega) ?_)
       intro A2 d2 w2 hown2 hg2 hat2
       have hb2 := (N1.out.blk.alloc _).grown hg2 (fun e => own_blk_ne N1.out.own N1.out.blk (by decide) e.symm)
       have k2 := hb2.cell 2
       have q2 := hb2.frozen 2
       simp only [List.getElem?_toArray, List.getElem?_cons_zero, List.getElem?_cons_succ] at k2
       have Ho := Lib.hid hown2
       have Hg := Lib.hid hg2
       have Ha := Lib.hid hat2
       have Hb := Lib.hid hb2
       clear hown2 hg2 hat2 hb2))
  all_goals go_wp2
  all_goals go_ret
  all_goals exact send_end H.out N1.out (by omega) hle1 hle2 NI1.out A1_.out AB1.out F1.out Ho.out _ Hg.out Ha.out
end Go.Proofs.Ytdflbfkdegkboaa
