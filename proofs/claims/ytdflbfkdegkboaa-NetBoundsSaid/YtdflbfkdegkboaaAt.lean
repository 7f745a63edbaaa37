import Derived.Test.YtdflbfkdegkboaaSend
namespace Go.Proofs.Ytdflbfkdegkboaa
open Go.RowKit

theorem results_tmp4 {fn : Func} {t u v x : Tmp} (h : fn.results = #[.tmp t, .tmp u, .tmp v, .tmp x]) (tmps : Array Value) (P : Program) (w : World) :
    (results fn tmps).run P w = .ok (.tuple #[tmps.getD t undef, tmps.getD u undef, tmps.getD v undef, tmps.getD x undef]) w := by simp [results, h]

theorem dcells_at (ds : List Dg) (i : Nat) (hi : i < ds.length) : (dcells ds)[i * 3]? = some (.int .i64 ds[i].frm) ∧ (dcells ds)[i * 3 + 1]? = some (.int .i64 ds[i].to_) ∧ (dcells ds)[i * 3 + 2]? = some (.slice ds[i].B ds[i].b.length ds[i].cap) := by
  induction ds generalizing i with
  | nil => simp at hi
  | cons d ds ih =>
    have e : dcells (d :: ds) = Dg.cells d ++ dcells ds := by simp [dcells]
    rcases i with _ | i
    · rw [e]; simp [Dg.cells]
    · have h := ih i (by simpa using hi)
      have e3 : ∀ j, (dcells (d :: ds))[(i + 1) * 3 + j]? = (dcells ds)[i * 3 + j]? := by
        intro j
        rw [e, List.getElem?_append_right (by simp [Dg.cells]; omega)]
        congr 1
        simp [Dg.cells]; omega
      have h0 := e3 0
      rw [Nat.add_zero, Nat.add_zero] at h0
      rw [h0, e3 1, e3 2]
      exact h

def AtNo (w : World) (e : Ending) (w' : World) : Prop := e = .returned (.tuple #[.int .i64 0, .int .i64 0, .slice none 0 0, .bool false]) ∧ w = w'
set_option maxHeartbeats 400000 in
theorem at_no {w0 w : World} {g mtu most lost : Nat} {ds : List Dg} {A : Option Addr} {c : Nat} (h : ON w0 w g mtu most lost ds A c) (i : Int) (hi : i < 0 ∨ ds.length ≤ i) :
    Calls Try.prog 17 #[.pointer (some ⟨g, 0, none⟩), .int .i64 i] w (AtNo w) := by
  have c2 := h.nt.blk.cell 2
  simp only [List.getElem?_toArray, List.getElem?_cons_zero, List.getElem?_cons_succ] at c2
  clear h
  by_cases h1 : i < 0
  · go_enter Try.func17, Try.ntmps17
    go_wp2
    refine bodyPost_ret (results_tmp4 rfl _ _ _) rfl ?_
    exact ⟨rfl, rfl⟩
  · have h2 : (ds.length : Int) ≤ i := by omega
    go_enter Try.func17, Try.ntmps17
    go_wp2
    refine bodyPost_ret (results_tmp4 rfl _ _ _) rfl ?_
    exact ⟨rfl, rfl⟩

def AtYes (d : Dg) (w : World) (e : Ending) (w' : World) : Prop :=
  ∃ B, e = .returned (.tuple #[.int .i64 d.frm, .int .i64 d.to_, .slice B d.b.length d.b.length, .bool true]) ∧ Arr w' 5 B d.b.length (bv d.b) ∧ AB w B ∧ Fresh w w'
set_option maxHeartbeats 800000 in
theorem at_yes {w0 w : World} {g mtu most lost : Nat} {ds : List Dg} {A : Option Addr} {c : Nat} (h : ON w0 w g mtu most lost ds A c) (i : Nat) (hi : i < ds.length) (hmax : ds.length ≤ 1000000) :
    Calls Try.prog 17 #[.pointer (some ⟨g, 0, none⟩), .int .i64 i] w (AtYes ds[i] w) := by
  have c2 := h.nt.blk.cell 2
  simp only [List.getElem?_toArray, List.getElem?_cons_zero, List.getElem?_cons_succ] at c2
  obtain ⟨ga, cap, hv, _, hlt⟩ := h.nt.own.form (by omega)
  injection hv with hA _ hcap
  subst hA
  subst hcap
  obtain ⟨x0, x1, x2⟩ := dcells_at ds i hi
  have e0 := h.nt.own.cellAt (i * 3) (by omega)
  have e1 := h.nt.own.cellAt (i * 3 + 1) (by omega)
  have e2 := h.nt.own.cellAt (i * 3 + 2) (by omega)
  rw [x0] at e0
  rw [x1] at e1
  rw [x2] at e2
  have hd := h.nt.dat ds[i] (List.getElem_mem hi)
  generalize ds[i] = d at e0 e1 e2 hd ⊢
  have HD := Lib.hid hd
  clear x0 x1 x2 hd h
  go_enter Try.func17, Try.ntmps17
  go_wp2
  have HB := Lib.hid (Blk.new w 56 #[.int .i64 d.frm, .int .i64 d.to_, .slice d.B d.b.length d.cap])
  have HD2 := Lib.hid (HD.out.keep (w' := w.alloc (.cells #[.int .i64 d.frm, .int .i64 d.to_, .slice d.B d.b.length d.cap] 56)) ((Upd.refl w).alloc _) (F := fun _ => False) (fun _ _ h => h.elim))
  have hU := Lib.hid ((Upd.refl w).alloc (F := fun _ => False) (.cells #[.int .i64 d.frm, .int .i64 d.to_, .slice d.B d.b.length d.cap] 56))
  generalize w.alloc (.cells #[.int .i64 d.frm, .int .i64 d.to_, .slice d.B d.b.length d.cap] 56) = w1 at HB HD2 hU ⊢
  generalize w.heap.size = g8 at HB ⊢
  have s0 := HB.out.cell 0
  have s1 := HB.out.cell 1
  have s2 := HB.out.cell 2
  simp only [List.getElem?_toArray, List.getElem?_cons_zero, List.getElem?_cons_succ] at s0 s1 s2
  clear c2 e0 e1 e2 hlt
  go_region_held3 (fun w' => w'.cell? ⟨g8, 0, none⟩ = some (.int .i64 d.frm) ∧ w'.cell? ⟨g8, 1, none⟩ = some (.int .i64 d.to_) ∧ w'.cell? ⟨g8, 2, none⟩ = some (.slice d.B d.b.length d.cap)) (first | exact ⟨s0, s1, s2⟩ | exact ⟨t0, t1, t2⟩ | go_keep)
    (first
      | (go_at_call 19
         refine (clone_o (HD2.out.1.reads.drew) (by have := HD2.out.2.2.2.1; omega) HD2.out.2.2.2.2).mono ?_
         rintro e w2 ⟨B1, e1, rfl, hle1, hle2, hnil1, ha1, hab1, hf1⟩
         have hb2 := (HB.out.drew).upd hf1 (fun h => h)
         have t0 := hb2.cell 0
         have t1 := hb2.cell 1
         have t2 := hb2.cell 2
         simp only [List.getElem?_toArray, List.getElem?_cons_zero, List.getElem?_cons_succ] at t0 t1 t2
         have HA1 := Lib.hid ha1
         have HAB := Lib.hid hab1
         have HF := Lib.hid hf1
         clear hb2 ha1 hab1 hf1)
      | (go_at_call 21
         refine (clip_o B1 d.b.length e1 _ hle1 hle2).mono ?_
         rintro e w3 ⟨rfl, rfl⟩))
  go_wp2
  refine bodyPost_ret (results_tmp4 rfl _ _ _) rfl ?_
  exact ⟨B1, rfl, HA1.out, fun k hk => Nat.le_trans hU.out.size (by simpa using HAB.out k hk), hU.out.trans (((Upd.refl w1).drew).trans HF.out (fun _ _ h => h)) (fun _ _ h => h)⟩
end Go.Proofs.Ytdflbfkdegkboaa
