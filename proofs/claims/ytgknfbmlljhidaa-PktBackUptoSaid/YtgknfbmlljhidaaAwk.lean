import Derived.Test.YtgknfbmlljhidaaDec
import Derived.Lib.SlBytesConst
import Derived.Lib.ConvBytes
namespace Go.Proofs.Ytgknfbmlljhidaa
open Go.RowKit

def Ln.agg (x : Ln) : Value := .agg #[.int .i64 x.k, .slice x.B x.d.length x.c]
def LineO (k : Int) (d : List UInt8) (w : World) (e : Ending) (w' : World) : Prop :=
  ∃ B, e = .returned (Ln.agg ⟨k, d, B, d.length⟩) ∧ Reads w' (fun _ => True) 1 B d.length (bv d) ∧ (B = none → d.length = 0) ∧ Fresh w w'
theorem fresh_bytes (w : World) (s : ByteArray) : Fresh w (Lib.bytesWorld w 5 s) := ⟨rfl, rfl, rfl, by rw [Lib.bytesWorld_size]; omega, fun k hk _ => Lib.bytesWorld_at_old w 5 s k hk⟩
theorem reads_bytes (w : World) (l : List UInt8) : Reads (Lib.bytesWorld w 5 ⟨l.toArray⟩) (fun _ => True) 1 (some ⟨w.heap.size, 0, none⟩) l.length (bv l) := by
  refine ⟨by simp [bv], fun hn => ⟨_, rfl, trivial, by rw [Lib.bytesWorld_size]; simp, fun j u hu => ?_⟩⟩
  have hj : j < l.length := by
    have := (List.getElem?_eq_some_iff.1 hu).1
    simpa [bv] using this
  rw [Addr.add_lit, Nat.zero_add, Lib.bytesWorld_cell w 5 ⟨l.toArray⟩ j (by simpa [ByteArray.size] using hj), ← hu]
  simp [bv, hj, List.getD]
theorem reads_bytes2 (w : World) (l : List UInt8) : Reads (Lib.bytesWorld w 5 ⟨l.toArray⟩) (fun k => k = w.heap.size) 1 (some ⟨w.heap.size, 0, none⟩) l.length (bv l) := by
  refine ⟨by simp [bv], fun hn => ⟨_, rfl, rfl, by rw [Lib.bytesWorld_size]; simp, ?_⟩⟩
  obtain ⟨ad, e, _, _, h⟩ := (reads_bytes w l).2 hn
  injection e with e
  subst e
  exact h
def SignO (k : Int) (w : World) (e : Ending) (w' : World) : Prop := e = .returned (.agg #[.int .i64 k, .slice none 0 0]) ∧ Fresh w w'
theorem flush_o (w : World) : Calls Try.prog 23 #[] w (SignO 2 w) := by
  go_enter Try.func23, Try.ntmps23
  go_wp2
  refine bodyPost_ret (v := .agg #[.int .i64 2, .slice none 0 0]) (by simp [results, Try.results23, go_sem]) rfl ?_
  exact ⟨rfl, (Upd.refl w).alloc _⟩
theorem delim_o (w : World) : Calls Try.prog 24 #[] w (SignO 3 w) := by
  go_enter Try.func24, Try.ntmps24
  go_wp2
  refine bodyPost_ret (v := .agg #[.int .i64 3, .slice none 0 0]) (by simp [results, Try.results24, go_sem]) rfl ?_
  exact ⟨rfl, (Upd.refl w).alloc _⟩
set_option maxHeartbeats 1600000 in
theorem text_hi (w : World) : Calls Try.prog 22 #[.string ⟨#[104, 105]⟩] w (LineO 1 [104, 105, 10] w) := by
  have kc := fun w s => Lib.run_convert_string_bytes (P := Try.prog) w 9 23 5 s Try.underlying9 Try.underlying23 Try.underlying5
  go_enter Try.func22, Try.ntmps22
  go_upto_region 1 with fail
  have HB := Lib.hid (Blk.new w 28 #[.int .i64 0, .slice none 0 0])
  have HF := Lib.hid ((Upd.refl w).alloc (F := fun _ => False) (.cells #[.int .i64 0, .slice none 0 0] 28))
  generalize hw1 : w.alloc (.cells #[.int .i64 0, .slice none 0 0] 28) = w1 at HB HF ⊢
  generalize hg : w.heap.size = g at HB ⊢
  have HG := Lib.hid hg
  clear hw1 hg
  go_wp2_with fail
  rw [show (⟨#[104, 105]⟩ : ByteArray) ++ ⟨#[10]⟩ = ⟨[104, 105, 10].toArray⟩ from rfl]
  have hc := grownCap_ge w1 3 0 5
  have hm := grownCap_le_maxLen w1 3 0 5 (by unfold maxLen; omega)
  unfold maxLen at hm
  have HB2 := Lib.hid (HB.out.upd (fresh_bytes w1 ⟨[104, 105, 10].toArray⟩) (fun h => h))
  have HR2 := Lib.hid (reads_bytes2 w1 [104, 105, 10])
  have HF2 := Lib.hid (HF.out.trans (fresh_bytes w1 ⟨[104, 105, 10].toArray⟩) (fun _ _ h => h))
  clear kc
  generalize Lib.bytesWorld w1 5 ⟨[104, 105, 10].toArray⟩ = w2 at HB2 HR2 HF2 ⊢
  generalize grownCap w1 3 0 5 = k at hc hm ⊢
  refine (clip_o _ 3 k _ hc (by omega)).mono ?_
  rintro e w3 ⟨rfl, rfl⟩
  have b0 := HB2.out.cell 0
  have b1 := HB2.out.cell 1
  simp only [List.getElem?_toArray, List.getElem?_cons_zero, List.getElem?_cons_succ] at b0 b1
  have bf := fun j => HB2.out.frozen j
  go_wp2_with fail
  have HB3 := Lib.hid (show Blk ((w2.setCell ⟨g, 0, none⟩ (.int .i64 1)).setCell ⟨g, 1, none⟩ (.slice (some ⟨w1.heap.size, 0, none⟩) 3 3)) g 28 #[.int .i64 1, .slice (some ⟨w1.heap.size, 0, none⟩) 3 3] by
    simpa using (HB2.out.set_ 0 (.int .i64 1)).set_ 1 (.slice (some ⟨w1.heap.size, 0, none⟩) 3 3))
  have HF3 := Lib.hid (((HF2.out.setCell (p := ⟨g, 0, none⟩) (fun h => by have := HG.out; simp at h; omega) (.int .i64 1)).setCell (p := ⟨g, 1, none⟩) (fun h => by have := HG.out; simp at h; omega) (.slice (some ⟨w1.heap.size, 0, none⟩) 3 3)))
  have hgw := HB.out.lt
  have HR3 := Lib.hid (HR2.out.keep (w' := (w2.setCell ⟨g, 0, none⟩ (.int .i64 1)).setCell ⟨g, 1, none⟩ (.slice (some ⟨w1.heap.size, 0, none⟩) 3 3)) (by simp [World.setCell]) (fun p hp hb => by
    have hne : p.block ≠ g := by rw [hp]; omega
    exact (((upd_set w2 ⟨g, 0, none⟩ (.int .i64 1)).setCell (p := ⟨g, 1, none⟩) (fun _ => rfl) (.slice (some ⟨w1.heap.size, 0, none⟩) 3 3))).cell hb hne))
  generalize (w2.setCell ⟨g, 0, none⟩ (.int .i64 1)).setCell ⟨g, 1, none⟩ (.slice (some ⟨w1.heap.size, 0, none⟩) 3 3) = w4 at HB3 HF3 HR3 ⊢
  have z0 := HB3.out.cell 0
  have z1 := HB3.out.cell 1
  simp only [List.getElem?_toArray, List.getElem?_cons_zero, List.getElem?_cons_succ] at z0 z1
  refine bodyPost_ret (v := .agg #[.int .i64 1, .slice (some ⟨w1.heap.size, 0, none⟩) 3 3]) (by simp [results, Try.results22, go_sem, z0, z1]) rfl ?_
  exact ⟨_, rfl, HR3.out.weak (fun _ _ => trivial), (fun h => by cases h), HF3.out⟩

theorem enc_hi : encL [(1, [104, 105, 10]), (2, []), (3, [])] [] = ([48, 48, 48, 55, 104, 105, 10, 48, 48, 48, 48, 48, 48, 48, 49], 0) := by decide +kernel
theorem dec_bad : decS [48, 48, 48, 51] = ([], 0, 3) := by decide +kernel
theorem dec_short : decS [48, 48, 48] = ([], 0, 0) := by decide +kernel
theorem reads_fr (w : World) (cs : Array Value) (l : List UInt8) (fr : Nat × Nat) (h : cs.toList = bv l) : Reads (w.alloc (.cells cs 5 fr)) (fun _ => True) 1 (some ⟨w.heap.size, 0, none⟩) l.length (bv l) :=
  ⟨by simp [bv], fun _ => ⟨_, rfl, trivial, by simp, fun j u hu => World.news_of_block (heap_alloc_new w (.cells cs 5 fr)) j u (by rw [h]; exact hu)⟩⟩
theorem str_of {w : World} {A : Option Addr} {n c : Nat} {l : List UInt8} (h : Arr w 5 A n (bv l)) : (convert 23 9 (.slice A n c)).run Try.prog w = .ok (.string ⟨l.toArray⟩) w := by
  have hl : l.length = n := by have := h.1; simpa [bv] using this
  have h1 := run_string_of (P := Try.prog) (w := w) (S := fun k => A.map (·.block) = some k) (A := A) (c := c) (l := l) 23 9 5 Try.underlying23 Try.underlying5 Try.underlying9 (by rw [hl]; exact h.reads)
  rw [hl] at h1
  exact h1
set_option maxHeartbeats 1600000 in
theorem awake_any (w : World) : Calls Try.prog 9 #[] w fun e w' => e = .returned (.bool true) ∧ Fresh w w' := by
  have kc := fun (w : World) (C : Array Value) (n c : Nat) => Lib.run_convert_bytes_const (P := Try.prog) w 23 5 C n c Try.underlying23 Try.underlying5
  go_enter Try.func9, Try.ntmps9
  go_wp2_with fail
  refine (text_hi w).mono ?_
  rintro e w1 ⟨B, rfl, hr1, hb1, hf1⟩
  unfold Ln.agg
  have HR1 := Lib.hid hr1
  have HB1 := Lib.hid hb1
  have HF1 := Lib.hid hf1
  clear hr1 hb1 hf1
  go_wp2_with fail
  refine (flush_o w1).mono ?_
  rintro e w2 ⟨rfl, hf2⟩
  have HF2 := Lib.hid hf2
  clear hf2
  go_wp2_with fail
  refine (delim_o w2).mono ?_
  rintro e w3 ⟨rfl, hf3⟩
  have HF3 := Lib.hid hf3
  clear hf3
  have HL := Lib.hid (show LsR (w3.alloc (.cells #[.int .i64 1, .slice B 3 3, .int .i64 2, .slice none 0 0, .int .i64 3, .slice none 0 0] 28)) (some ⟨w3.heap.size, 0, none⟩) [⟨1, [104, 105, 10], B, 3⟩, ⟨2, [], none, 0⟩, ⟨3, [], none, 0⟩] by
    refine ⟨reads_new w3 #[.int .i64 1, .slice B 3 3, .int .i64 2, .slice none 0 0, .int .i64 3, .slice none 0 0] 28 2 3 rfl, ?_⟩
    intro x hx
    simp only [List.mem_cons, List.not_mem_nil, or_false] at hx
    rcases hx with rfl | rfl | rfl
    · exact ⟨(((HR1.out.upd HF2.out (fun _ _ h => h)).upd HF3.out (fun _ _ h => h)).alloc _), fun h => by have := HB1.out h; simp at this, by simp, by simp⟩
    · exact ⟨Reads.none_, fun _ => rfl, by simp, by simp⟩
    · exact ⟨Reads.none_, fun _ => rfl, by simp, by simp⟩)
  have HF4 := Lib.hid (((HF1.out.trans HF2.out (fun _ _ h => h)).trans HF3.out (fun _ _ h => h)).alloc (.cells #[.int .i64 1, .slice B 3 3, .int .i64 2, .slice none 0 0, .int .i64 3, .slice none 0 0] 28))
  clear HR1 HB1 HF1 HF2 HF3
  go_wp2_with fail
  refine (enc_o (ls := [⟨1, [104, 105, 10], B, 3⟩, ⟨2, [], none, 0⟩, ⟨3, [], none, 0⟩]) HL.out (by simp) (by simp [tot, Ln.p])).mono ?_
  rintro e w5 ⟨A5, rfl, hg5⟩
  have hE : encL ([⟨1, [104, 105, 10], B, 3⟩, ⟨2, [], none, 0⟩, ⟨3, [], none, 0⟩].map Ln.p) [] = ([48, 48, 48, 55, 104, 105, 10, 48, 48, 48, 48, 48, 48, 48, 49], 0) := enc_hi
  rw [hE] at hg5 ⊢
  dsimp only [List.length_cons, List.length_nil] at hg5 ⊢
  clear hE
  have HG5 := Lib.hid hg5
  have HF5 := Lib.hid (HF4.out.trans hg5.2.2 (fun _ _ h => h))
  clear hg5
  go_wp2_with fail
  refine (dec_o (b := [48, 48, 48, 51]) (by exact (reads_fr w5 #[.int .u8 48, .int .u8 48, .int .u8 48, .int .u8 51] [48, 48, 48, 51] (4, 5) rfl)) (by simp) (by simp) (by simp)).mono ?_
  rintro e w6 ⟨A6, c6, ls6, rfl, ho6, hl6⟩
  rw [dec_bad] at hl6 ⊢
  obtain rfl : ls6 = [] := by simpa using hl6
  have HF6 := Lib.hid ((HF5.out.alloc (.cells #[.int .u8 48, .int .u8 48, .int .u8 48, .int .u8 51] 5 (4, 5))).trans ho6.fr (fun _ _ h => h))
  have HA6 := Lib.hid (((HG5.out.1.upd ((Upd.refl w5).alloc (F := fun _ => False) (.cells #[.int .u8 48, .int .u8 48, .int .u8 48, .int .u8 51] 5 (4, 5))) (fun _ _ h => h)).upd ho6.fr (fun _ _ h => h)))
  clear ho6 hl6
  dsimp only [List.length_nil]
  go_wp2_with fail
  refine (dec_o (b := [48, 48, 48]) (by exact (reads_fr w6 #[.int .u8 48, .int .u8 48, .int .u8 48] [48, 48, 48] (3, 4) rfl)) (by simp) (by simp) (by simp)).mono ?_
  rintro e w7 ⟨A7, c7, ls7, rfl, ho7, hl7⟩
  rw [dec_short] at hl7 ⊢
  obtain rfl : ls7 = [] := by simpa using hl7
  have HF7 := Lib.hid ((HF6.out.alloc (.cells #[.int .u8 48, .int .u8 48, .int .u8 48] 5 (3, 4))).trans ho7.fr (fun _ _ h => h))
  have HA7 := Lib.hid (((HA6.out.upd ((Upd.refl w6).alloc (F := fun _ => False) (.cells #[.int .u8 48, .int .u8 48, .int .u8 48] 5 (3, 4))) (fun _ _ h => h)).upd ho7.fr (fun _ _ h => h)))
  clear ho7 hl7
  dsimp only [List.length_nil]
  have sx := str_of (n := 15) (c := 15) HA7.out
  go_wp2_with fail
  go_ret
  exact ⟨rfl, HF7.out⟩
end Go.Proofs.Ytgknfbmlljhidaa
