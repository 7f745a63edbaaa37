import Derived.Test.YtgknfbmlljhidaaAwk
import Derived.Lib.AppendStr
import Derived.Deep.CutBlock
import Derived.StillTailTactics
namespace Go.Proofs.Ytgknfbmlljhidaa
open Go.RowKit

theorem Try.info60 : (Try.prog.info? 60).map (fun i => (i.zero, i.size, i.bytes)) = some (some (.agg #[.int .i64 0, .string ⟨#[]⟩]), 2, 24) := by kernel_rfl

/-! ### The document's lines in memory -/
abbrev RLn := Int × List UInt8
def rl1 (x : RLn) : List Value := [.int .i64 x.1, .string ⟨x.2.toArray⟩]
def rlcells (ls : List RLn) : List Value := ls.flatMap rl1
theorem rlcells_cons (x : RLn) (ls : List RLn) : rlcells (x :: ls) = rl1 x ++ rlcells ls := by simp [rlcells]
theorem rlcells_append (a b : List RLn) : rlcells (a ++ b) = rlcells a ++ rlcells b := by simp [rlcells]
theorem rlcells_length (ls : List RLn) : (rlcells ls).length = ls.length * 2 := by
  induction ls with
  | nil => rfl
  | cons d ds ih => rw [rlcells_cons, List.length_append, ih, List.length_cons]; simp [rl1]; omega
theorem rlcells_one (ls : List RLn) : ∀ u ∈ rlcells ls, u.oneCell' = true := by
  intro u hu
  obtain ⟨d, _, h⟩ := List.mem_flatMap.1 hu
  simp [rl1] at h
  rcases h with rfl | rfl <;> rfl
theorem rlcells_at (ls : List RLn) (i : Nat) (hi : i < ls.length) : (rlcells ls)[i * 2]? = some (.int .i64 ls[i].1) ∧ (rlcells ls)[i * 2 + 1]? = some (.string ⟨ls[i].2.toArray⟩) := by
  induction ls generalizing i with
  | nil => simp at hi
  | cons d ds ih =>
    rw [rlcells_cons]
    rcases i with _ | i
    · simp [rl1]
    · have h := ih i (by simpa using hi)
      have e3 : ∀ j, (rl1 d ++ rlcells ds)[(i + 1) * 2 + j]? = (rlcells ds)[i * 2 + j]? := by
        intro j
        rw [List.getElem?_append_right (by simp [rl1]; omega)]
        congr 1
        simp [rl1]; omega
      have h0 := e3 0
      rw [Nat.add_zero, Nat.add_zero] at h0
      rw [h0, e3 1]
      exact h
def RLs (w : World) (A : Option Addr) (ls : List RLn) : Prop := Reads w (fun _ => True) 2 A ls.length (rlcells ls)
theorem RLs.fresh {w w' : World} {A : Option Addr} {ls : List RLn} (h : RLs w A ls) (hu : Fresh w w') : RLs w' A ls := Reads.upd h hu (fun _ _ h => h)
theorem RLs.at_ {w : World} {A : Option Addr} {ls : List RLn} (h : RLs w A ls) {i : Nat} (hi : i < ls.length) : ∃ ad, A = some ad ∧ w.cell? (ad.add (i * 2)) = some (.int .i64 ls[i].1) ∧ w.cell? ⟨(ad.add (i * 2)).block, (ad.add (i * 2)).off + 1, none⟩ = some (.string ⟨ls[i].2.toArray⟩) := by
  obtain ⟨ad, e, _, _, hc⟩ := h.2 (by omega)
  obtain ⟨h0, h1⟩ := rlcells_at ls i hi
  refine ⟨ad, e, hc _ _ h0, ?_⟩
  rw [← add_far _ _ _ (by omega)]
  exact hc _ _ h1
/-- The document's lines that a call has made. -/
structure OwnR (w0 w : World) (A : Option Addr) (c : Nat) (ls : List RLn) : Prop where
  own : w.ownsRow 0 60 2 (.slice A ls.length c) ls.length (rlcells ls)
  ab : AB w0 A
  fr : Fresh w0 w
theorem OwnR.nil {w0 w : World} (h : Fresh w0 w) : OwnR w0 w none 0 [] := ⟨World.ownsRow_nil _ _ _ _, AB.none_ _, h⟩
theorem OwnR.fresh {w0 w w' : World} {A : Option Addr} {c : Nat} {ls : List RLn} (h : OwnR w0 w A c ls) (hu : Fresh w w') : OwnR w0 w' A c ls := ⟨owns_upd h.own hu (fun _ _ h => h), h.ab, h.fr.trans hu (fun _ _ h => h)⟩
theorem OwnR.rls {w0 w : World} {A : Option Addr} {c : Nat} {ls : List RLn} (h : OwnR w0 w A c ls) : RLs w A ls := (Reads.of_own h.own).weak (fun _ _ => trivial)
theorem OwnR.app {w0 w w1 w2 : World} {A A2 : Option Addr} {c c2 n : Nat} {ls : List RLn} {x : RLn} (h : OwnR w0 w A c ls) (h1 : Fresh w w1) (ho : w2.ownsRow 0 60 2 (.slice A2 n c2) n (rlcells ls ++ rl1 x)) (hn : n = (ls ++ [x]).length) (hg : w1.grownBy w2 (Value.slice A ls.length c).ownBlock)
    (hat : (Value.slice A2 n c2).ownBlock = (Value.slice A ls.length c).ownBlock ∨ (Value.slice A2 n c2).ownBlock = some w1.heap.size) : OwnR w0 w2 A2 c2 (ls ++ [x]) := by
  subst hn
  refine ⟨by simpa [rlcells] using ho, ?_, ?_⟩
  · intro k hk
    rw [ownBlock_map, ownBlock_map, hk] at hat
    rcases hat with e | e
    · exact h.ab k e.symm
    · injection e with e
      have := h.fr.size
      have := h1.size
      omega
  · have hu : Upd (fun i => w0.heap.size ≤ i) w0 w2 := (Fresh.to (h.fr.trans h1 (fun _ _ h => h))).grown hg (fun i hi _ => h.ab i (by rw [ownBlock_map] at hi; exact hi))
    exact ⟨hu.os, hu.tape, hu.output, hu.size, fun k hk _ => hu.block k hk (by omega)⟩

/-! ### To -/
def ToO (ls : List RLn) (w : World) (e : Ending) (w' : World) : Prop := ∃ A c, e = .returned (.slice A ls.length c) ∧ OwnR w w' A c ls
theorem conv_of {w : World} {A : Option Addr} {c : Nat} {l : List UInt8} (h : Reads w (fun _ => True) 1 A l.length (bv l)) : (convert 23 9 (.slice A l.length c)).run Try.prog w = .ok (.string ⟨l.toArray⟩) w :=
  run_string_of (P := Try.prog) 23 9 5 Try.underlying23 Try.underlying5 Try.underlying9 h
theorem LsR.all {w : World} {A : Option Addr} {ls : List Ln} (h : LsR w A ls) {i : Nat} (hi : i < ls.length) : ∃ ad, A = some ad ∧ ∀ w9, Fresh w w9 → w9.cell? (ad.add (i * 2)) = some (.int .i64 ls[i].k) ∧ w9.cell? ⟨(ad.add (i * 2)).block, (ad.add (i * 2)).off + 1, none⟩ = some (.slice ls[i].B ls[i].d.length ls[i].c) ∧ (convert 23 9 (.slice ls[i].B ls[i].d.length ls[i].c)).run Try.prog w9 = .ok (.string ⟨ls[i].d.toArray⟩) w9 := by
  obtain ⟨ad, hA, _, _⟩ := h.at_ hi
  refine ⟨ad, hA, fun w9 h9 => ?_⟩
  obtain ⟨ad2, hA2, e0, e1⟩ := (h.fresh h9).at_ hi
  rw [hA] at hA2
  injection hA2 with hA2
  subst hA2
  exact ⟨e0, e1, conv_of ((h.fresh h9).dat _ (List.getElem_mem hi)).1⟩
set_option maxHeartbeats 1600000 in
theorem to_o {A : Option Addr} {cp : Nat} {ls : List Ln} {w : World} (h : LsR w A ls) (hn : ls.length ≤ 1099511627776) :
    Calls Try.prog 11 #[.slice A ls.length cp] w (ToO (ls.map Ln.p) w) := by
  obtain ⟨i0, hi0, hz0, hz1, hz2⟩ := info_parts Try.info60
  have H := Lib.hid h
  clear h
  go_enter Try.func11, Try.ntmps11
  go_wp2_with fail
  go_loopg [3, 4] ls.length (fun gk s3 s4 wx => ∃ (k : Nat) (A1 : Option Addr) (c1 : Nat) (rs : List RLn), gk + k = ls.length ∧ s4 = .int .i64 (k : Int) ∧ s3 = .slice A1 rs.length c1 ∧ rs.length = k ∧ Hid (OwnR w wx A1 c1 rs ∧ rs = (ls.take k).map Ln.p))
  case atStart => exact ⟨0, none, 0, [], rfl, rfl, rfl, rfl, OwnR.nil (Upd.refl w), rfl⟩
  case round =>
    obtain ⟨k, A1, c1, rs, hgk, rfl, rfl, hrs, HO⟩ := hrel
    by_cases hk : k < ls.length
    · have HT := Lib.hid (show (ls.take (k + 1)).map Ln.p = rs ++ [ls[k].p] by rw [HO.out.2, List.take_succ_eq_append_getElem hk, List.map_append]; rfl)
      obtain ⟨ad, hA, hall⟩ := H.out.all hk
      subst hA
      have HR := Lib.hid hrs
      have HO1 := Lib.hid HO.out.1
      have hrl : rs.length ≤ 1099511627776 := by omega
      have z1 : (k : Int) < (ls.length : Int) := by omega
      have z0 : (0 : Int) ≤ (k : Int) := by omega
      clear hrs HO
      generalize ls[k] = x at hall HT
      obtain ⟨xk, xd, xB, xc⟩ := x
      dsimp only [Ln.p] at hall HT
      have HF := Lib.hid hall
      obtain ⟨e0, e1, -⟩ := hall wr HO1.out.fr
      obtain ⟨-, -, cv⟩ := hall wr.drew HO1.out.fr.drew
      obtain ⟨q0, q1, cq⟩ := hall ((wr.alloc (.cells #[.int .i64 xk, .string ⟨xd.toArray⟩] 60)).drew) (HO1.out.fr.alloc _).drew
      clear hall
      go_upto_region 5 with fail
      go_region_held3 (fun W => W.cell? (ad.add (k * 2)) = some (.int .i64 xk) ∧ W.cell? ⟨(ad.add (k * 2)).block, (ad.add (k * 2)).off + 1, none⟩ = some (.slice xB xd.length xc) ∧ (convert 23 9 (.slice xB xd.length xc)).run Try.prog W = .ok (.string ⟨xd.toArray⟩) W) (first | exact ⟨e0, e1, cv⟩ | exact ⟨q0, q1, cq⟩ | exact ⟨r0, r1, cr⟩ | go_keep)
        (first
          | (go_must (refine step_append_any _ rfl (.tmp 11) (.tmp 24) 36 rfl 60 i0 _ 2 24 Try.underlying36 hi0 hz0 hz1 hz2 rfl (by omega) (.slice A1 rs.length c1) rs.length (rlcells rs) rfl ((HO1.out.fresh ((Upd.refl wr).drew)).fresh ((Upd.refl _).alloc _)).own (fun _ => True) (some ⟨wr.heap.size, 0, none⟩) 1 1 _ rfl (reads_new wr.drew #[.int .i64 xk, .string ⟨xd.toArray⟩] 60 2 1 rfl) (by simp [Value.oneCell']) (by unfold maxLen; omega) (by omega) ?_)
             intro A3 d3 w3 hown3 hg3 hat3
             have HN := Lib.hid ((HO1.out.fresh ((Upd.refl wr).drew)).app (x := (xk, xd)) ((Upd.refl _).alloc _) hown3 (by simp) hg3 hat3)
             obtain ⟨r0, r1, cr⟩ := HF.out _ HN.out.fr
             clear hown3 hg3 hat3))
      go_wp2_with fail
      go_roundg (ls.length - (k + 1))
      case measure => omega
      case rel => exact ⟨k + 1, A3, d3, rs ++ [(xk, xd)], by omega, by go_num, by simp, by have := HR.out; simp; omega, HN.out, HT.out.symm⟩
    · go_wp2_with fail
      go_ret
      have h1 : k = ls.length := by omega
      have h2 := HO.out.2
      rw [h1, List.take_length] at h2
      rw [← h2]
      exact ⟨A1, c1, rfl, HO.out.1⟩
end Go.Proofs.Ytgknfbmlljhidaa
