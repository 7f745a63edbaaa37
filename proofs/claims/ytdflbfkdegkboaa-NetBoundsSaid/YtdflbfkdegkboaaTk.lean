import Derived.Test.YtdflbfkdegkboaaTw
import Derived.Test.YtdflbfkdegkboaaDel
import Derived.Lib.SlBytesConst
namespace Go.Proofs.Ytdflbfkdegkboaa
open Go.RowKit

set_option maxHeartbeats 400000 in
theorem take_no {w0 w : World} {g mtu most lost : Nat} {ds : List Dg} {A : Option Addr} {c : Nat} (h : ON w0 w g mtu most lost ds A c) (i : Int) (hi : i < 0 ∨ ds.length ≤ i) :
    Calls Try.prog 9 #[.pointer (some ⟨g, 0, none⟩), .int .i64 i] w (AtNo w) := by
  have H := Lib.hid h
  clear h
  have HI := Lib.hid hi
  clear hi
  go_enter Try.func9, Try.ntmps9
  go_wp2_with fail
  refine (at_no H.out i HI.out).mono ?_
  rintro e w1 ⟨rfl, rfl⟩
  go_wp2_with fail
  refine bodyPost_ret (results_tmp4 rfl _ _ _) rfl ?_
  exact ⟨rfl, rfl⟩

def TakeYes (w0 w : World) (g mtu most lost : Nat) (ds : List Dg) (d : Dg) (i : Nat) (A : Option Addr) (c : Nat) (e : Ending) (w' : World) : Prop :=
  ∃ B, e = .returned (.tuple #[.int .i64 d.frm, .int .i64 d.to_, .slice B d.b.length d.b.length, .bool true]) ∧ Arr w' 5 B d.b.length (bv d.b) ∧ AB w B ∧ ON w0 w' g mtu most lost (ds.take i ++ ds.drop (i + 1)) A c ∧ Upd (fun k => k = g ∨ A.map (·.block) = some k) w w'

theorem take_end {w0 w w1 w2 : World} {g mtu most lost i : Nat} {ds : List Dg} {d : Dg} {ga : Nat} {c : Nat} {B : Option Addr} (hi : i < ds.length) (H : ON w0 w g mtu most lost ds (some ⟨ga, 0, none⟩) c) (ha : Arr w1 5 B d.b.length (bv d.b)) (hab : AB w B) (hf : Fresh w w1)
    (ho : w2.ownsRow 0 56 3 (.slice (some ⟨ga, 0, none⟩) (ds.length - 1) c) (ds.length - 1) (dcells (ds.take i ++ ds.drop (i + 1)))) (hu : Upd (fun k => k = ga) w1 w2) :
    TakeYes w0 w g mtu most lost ds d i (some ⟨ga, 0, none⟩) c (.returned (.tuple #[.int .i64 d.frm, .int .i64 d.to_, .slice B d.b.length d.b.length, .bool true])) (w2.setCell ⟨g, 2, none⟩ (.slice (some ⟨ga, 0, none⟩) (ds.length - 1) c)) := by
  have H1 := H.fresh hf
  have hne : ga ≠ g := fun e => own_blk_ne H1.nt.own H1.nt.blk (by decide) (by simp [Value.ownBlock, e])
  have hF1 : NoBytes w1 (fun k => k = ga) := by
    intro k cur hk hb
    exact own_blk_ne H1.nt.own hb (by decide) (by simp [Value.ownBlock, hk])
  have hb2 : Blk w2 g 53 _ := H1.nt.blk.upd hu (fun e => hne e.symm)
  have hu23 : Upd (fun i => i = g) w2 (w2.setCell ⟨g, 2, none⟩ (.slice (some ⟨ga, 0, none⟩) (ds.length - 1) c)) := upd_set w2 ⟨g, 2, none⟩ _
  have hF2 := noBytes_of hb2 (by decide)
  have hlen : (ds.take i ++ ds.drop (i + 1)).length = ds.length - 1 := by simp; omega
  have hall : Upd (fun k => k = g ∨ (some (⟨ga, 0, none⟩ : Addr)).map (·.block) = some k) w (w2.setCell ⟨g, 2, none⟩ (.slice (some ⟨ga, 0, none⟩) (ds.length - 1) c)) :=
    ((hf.mono (G := fun k => k = g ∨ (some (⟨ga, 0, none⟩ : Addr)).map (·.block) = some k) (fun _ h => h.elim)).trans (hu.mono (G := fun k => k = g ∨ (some (⟨ga, 0, none⟩ : Addr)).map (·.block) = some k) (fun k h => .inr (by rw [h]; rfl))) (fun _ _ h => h)).trans (hu23.mono (G := fun k => k = g ∨ (some (⟨ga, 0, none⟩ : Addr)).map (·.block) = some k) (fun _ h => .inl h)) (fun _ _ h => h)
  refine ⟨B, rfl, (ha.keep hu hF1).keep hu23 hF2, hab, ⟨⟨?_, ?_, ?_⟩, H.fr.next hall ?_, H.hg, H.ha⟩, hall⟩
  · rw [hlen]
    simpa using hb2.set_ 2 (.slice (some ⟨ga, 0, none⟩) (ds.length - 1) c)
  · rw [hlen]
    exact owns_upd ho hu23 (fun k hk e => own_blk_ne ho hb2 (by decide) (by rw [hk, e]))
  · intro d' hd'
    have hd2 : d' ∈ ds := by
      rcases List.mem_append.1 hd' with h | h
      · exact List.mem_of_mem_take h
      · exact List.mem_of_mem_drop h
    exact ((H1.nt.dat d' hd2).keep hu hF1).keep hu23 hF2
  · rintro k (rfl | hk)
    · exact H.hg
    · exact H.ha k hk

set_option maxHeartbeats 400000 in
theorem take_yes {w0 w : World} {g mtu most lost : Nat} {ds : List Dg} {A : Option Addr} {c : Nat} (h : ON w0 w g mtu most lost ds A c) (i : Nat) (hi : i < ds.length) (hmax : ds.length ≤ 1000000) :
    Calls Try.prog 9 #[.pointer (some ⟨g, 0, none⟩), .int .i64 i] w (TakeYes w0 w g mtu most lost ds ds[i] i A c) := by
  obtain ⟨ga, cap, hv, _, hlt⟩ := h.nt.own.form (by omega)
  injection hv with hA _ hcap
  subst hA
  subst hcap
  have hat := at_yes h i hi hmax
  have HI := Lib.hid hi
  generalize ds[i] = d at hat ⊢
  have HT := Lib.hid hat
  have H := Lib.hid h
  clear h hat
  go_enter Try.func9, Try.ntmps9
  go_wp2_with fail
  refine HT.out.mono ?_
  rintro e w1 ⟨B, rfl, ha, hab, hf⟩
  have H1 := Lib.hid (H.out.fresh hf)
  have c2 := H1.out.nt.blk.cell 2
  simp only [List.getElem?_toArray, List.getElem?_cons_zero, List.getElem?_cons_succ] at c2
  have HA := Lib.hid ha
  have HAB := Lib.hid hab
  have HF := Lib.hid hf
  clear ha hab hf
  go_wp2_with fail
  refine (del_o H1.out.nt.own i HI.out hmax).mono ?_
  rintro e w2 ⟨rfl, ho, hu⟩
  have hb2 := H1.out.nt.blk.upd hu (fun e => own_blk_ne H1.out.nt.own H1.out.nt.blk (by decide) (by simp [Value.ownBlock, e]))
  have k2 := hb2.cell 2
  have q2 := hb2.frozen 2
  simp only [List.getElem?_toArray, List.getElem?_cons_zero, List.getElem?_cons_succ] at k2
  have HO := Lib.hid ho
  have HU := Lib.hid hu
  clear ho hu hb2
  go_wp2_with fail
  refine bodyPost_ret (results_tmp4 rfl _ _ _) rfl ?_
  exact take_end HI.out H.out HA.out HAB.out HF.out HO.out HU.out

/-! ### awake -/
theorem reads_one (w : World) (b : UInt8) (fr : Nat × Nat) : Reads (w.alloc (.cells #[.int .u8 (b.toNat : Int)] 5 fr)) (fun _ => True) 1 (some ⟨w.heap.size, 0, none⟩) ([b] : List UInt8).length (bv [b]) :=
  ⟨rfl, fun _ => ⟨_, rfl, trivial, by simp, fun j u hu => World.news_of_block (heap_alloc_new w (.cells #[.int .u8 (b.toNat : Int)] 5 fr)) j u (by simpa [bv] using hu)⟩⟩

theorem str_of {w : World} {A : Option Addr} {n c : Nat} {l : List UInt8} (h : Arr w 5 A n (bv l)) : (convert 29 9 (.slice A n c)).run Try.prog w = .ok (.string ⟨l.toArray⟩) w := by
  have hl : l.length = n := by have := h.1; simpa [bv] using this
  have h1 := run_string_of (P := Try.prog) (w := w) (S := fun k => A.map (·.block) = some k) (A := A) (c := c) (l := l) 29 9 5 Try.underlying29 Try.underlying5 Try.underlying9 (by rw [hl]; exact h.reads)
  rw [hl] at h1
  exact h1

set_option maxHeartbeats 1600000 in
theorem awake_any (w : World) : Calls Try.prog 11 #[] w fun e w' => e = .returned (.bool true) ∧ Fresh w w' := by
  have kc := fun (w : World) (C : Array Value) (n c : Nat) => Lib.run_convert_bytes_const (P := Try.prog) w 29 5 C n c Try.underlying29 Try.underlying5
  go_enter Try.func11, Try.ntmps11
  go_wp2_with fail
  refine (new_yes 64 2 w (by omega) (by omega) (by omega) (by omega)).mono ?_
  rintro e w1 ⟨rfl, hn, hf⟩
  have H1 := Lib.hid (ON.mk hn hf (Nat.le_refl _) (AB.none_ w) : ON w w1 w.heap.size 64 2 0 [] none 0)
  generalize w.heap.size = g at H1 ⊢
  clear hn hf
  go_wp2_with fail
  refine (send_yes (H1.out.fresh ((Upd.refl w1).alloc _)) 0 1 _ [120] 1 (by omega) (by omega) (by simp) (by simp) (by omega) (by omega) (by exact reads_one w1 120 (1, 2)) (fun h => by cases h)).mono ?_
  rintro e w2 ⟨rfl, d1, A2, c2, hf1, ht1, hb1, _, h2, _⟩
  have H2 := Lib.hid h2
  clear h2
  go_wp2_with fail
  refine (send_yes (H2.out.fresh ((Upd.refl w2).alloc _)) 1 0 _ [121] 1 (by omega) (by omega) (by simp) (by simp) (by omega) (by omega) (by exact reads_one w2 121 (1, 2)) (fun h => by cases h)).mono ?_
  rintro e w3 ⟨rfl, d2, A3, c3, hf2, ht2, hb2, _, h3, _⟩
  have H3 := Lib.hid (show ON w w3 g 64 2 0 [d1, d2] A3 c3 from h3)
  clear h3
  go_wp2_with fail
  refine (send_full H3.out 0 1 none 0 0 (by omega) (by omega) (by omega) (by omega) (by simp) (by omega) (by simp) (by omega)).mono ?_
  rintro e w4 ⟨rfl, h4, _⟩
  have H4 := Lib.hid (show ON w w4 g 64 2 1 [d1, d2] A3 c3 from h4)
  clear h4
  go_wp2_with fail
  refine (take_yes H4.out 0 (by simp) (by simp)).mono ?_
  rintro e w5 ⟨B5, rfl, ha5, _, h5, _⟩
  have H5 := Lib.hid (show ON w w5 g 64 2 1 [d2] A3 c3 from h5)
  have ha5 : Arr w5 5 B5 d1.b.length (bv d1.b) := ha5
  rw [hb1] at ha5
  rw [show [d1, d2][0].frm = 0 from hf1, show [d1, d2][0].to_ = 1 from ht1, show [d1, d2][0].b.length = 1 by show d1.b.length = 1; rw [hb1]; rfl]
  have hs := str_of (c := 1) (show Arr w5 5 B5 1 (bv [120]) from ha5)
  go_wp2_with fail
  refine (lost_o H5.out.nt).mono ?_
  rintro e w6 ⟨rfl, rfl⟩
  go_wp2_with fail
  refine (len_o H5.out.nt).mono ?_
  rintro e w6 ⟨rfl, rfl⟩
  go_wp2_with fail
  refine (twice_yes H5.out 0 (by simp) (by simp) (by omega)).mono ?_
  rintro e w7 ⟨rfl, A7, c7, h7, _⟩
  have H7 := Lib.hid (show ON w w7 g 64 2 1 [d2, d2] A7 c7 from h7)
  clear h7
  go_wp2_with fail
  refine (twice_no H7.out 0 (by simp)).mono ?_
  rintro e w8 ⟨rfl, nq, rfl⟩
  go_wp2_with fail
  go_ret
  exact ⟨rfl, H7.out.fr.drewN nq⟩
end Go.Proofs.Ytdflbfkdegkboaa
