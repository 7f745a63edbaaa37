import Derived.Test.YtdflbfkdegkboaaTk
namespace Go.Proofs.Ytdflbfkdegkboaa
open Go.RowKit

/-! ### What NetCounts counts -/
def cnt (ds : List Dg) (k : Nat) : Nat := ds.countP fun d => d.frm == (k : Int)
def cl (ds : List Dg) : List Value := (List.range 32).map fun k => Value.int .i64 (cnt ds k : Int)
theorem cl_len (ds : List Dg) : (cl ds).length = 32 := by simp [cl]
theorem cl_at (ds : List Dg) {k : Nat} (hk : k < 32) : (cl ds).toArray[k]? = some (.int .i64 (cnt ds k : Int)) := by
  simp [cl, hk]
theorem cl_set {ds ds' : List Dg} {f : Nat} {v : Int} (hv : (cnt ds' f : Int) = v) (hk : ∀ k, k ≠ f → cnt ds' k = cnt ds k) : (cl ds).toArray.setIfInBounds f (.int .i64 v) = (cl ds').toArray := by
  rw [List.setIfInBounds_toArray]
  congr 1
  apply List.ext_getElem
  · simp [cl]
  · intro i h1 h2
    rw [List.getElem_set]
    by_cases e : f = i
    · subst e
      simp [cl, hv]
    · simp only [e, if_false, cl, List.getElem_map, List.getElem_range]
      rw [hk i (fun h => e h.symm)]
theorem cnt_add (ds : List Dg) (d : Dg) (k : Nat) : cnt (ds ++ [d]) k = cnt ds k + if d.frm == (k : Int) then 1 else 0 := by
  simp [cnt, List.countP_append, List.countP_cons]
theorem cnt_take (ds : List Dg) (i : Nat) (hi : i < ds.length) (k : Nat) : cnt ds k = cnt (ds.take i ++ ds.drop (i + 1)) k + if ds[i].frm == (k : Int) then 1 else 0 := by
  conv => lhs; rw [← List.take_append_drop i ds, List.drop_eq_getElem_cons hi]
  simp only [cnt, List.countP_append, List.countP_cons]
  omega
theorem cnt_nil (k : Nat) : cnt [] k = 0 := rfl
theorem cnt_le (ds : List Dg) (k : Nat) : cnt ds k ≤ ds.length := List.countP_le_length

structure Ok (n : Nat) (d : Dg) (f : Nat) : Prop where
  lt : f < n
  frm : d.frm = (f : Int)
  to_ : d.to_ = (f : Int) + 1
  b : d.b = [UInt8.ofNat f, UInt8.ofNat (3 * f)]

structure CI (w0 w : World) (n g q : Nat) (ds : List Dg) (A : Option Addr) (c : Nat) : Prop where
  on : ON w0 w g 64 200 0 ds A c
  cb : Blk w q 3 (cl ds).toArray
  hq : w0.heap.size ≤ q
  ok : ∀ d ∈ ds, ∃ f, Ok n d f

section
variable {w0 w w' : World} {n g q : Nat} {ds : List Dg} {A : Option Addr} {c : Nat}
theorem CI.fresh (h : CI w0 w n g q ds A c) (hu : Fresh w w') : CI w0 w' n g q ds A c := ⟨h.on.fresh hu, h.cb.upd hu (fun h => h), h.hq, h.ok⟩
theorem CI.keep (h : CI w0 w n g q ds A c) (hu : Upd (fun i => i = g ∨ A.map (·.block) = some i) w w') : Blk w' q 3 (cl ds).toArray := by
  refine h.cb.upd hu ?_
  rintro (e | e)
  · exact h.cb.ne_ h.on.nt.blk (by decide) e
  · exact own_blk_ne h.on.nt.own h.cb (by decide) (by rw [← e]; cases A <;> rfl)
/-- A net, where a cell of the counts is set. -/
theorem ON.count (h : ON w0 w g 64 200 0 ds A c) {cs : Array Value} (hb : Blk w q 3 cs) (hq : w0.heap.size ≤ q) (f : Nat) (v : Value) : ON w0 (w.setCell ⟨q, f, none⟩ v) g 64 200 0 ds A c := by
  have hu : Upd (fun i => i = q) w (w.setCell ⟨q, f, none⟩ v) := upd_set w ⟨q, f, none⟩ _
  exact ⟨⟨h.nt.blk.far (fun e => h.nt.blk.ne_ hb (by decide) e) v, owns_upd h.nt.own hu (fun i hi e => own_blk_ne h.nt.own hb (by decide) (by rw [hi, e])), fun d hd => (h.nt.dat d hd).keep hu (noBytes_of hb (by decide))⟩, h.fr.next hu (fun i hi => by rw [show i = q from hi]; exact hq), h.hg, h.ha⟩
theorem CI.up {A' : Option Addr} {c' : Nat} {d : Dg} {f : Nat} {v : Int} (h : CI w0 w n g q ds A c) (hu : Upd (fun i => i = g ∨ A.map (·.block) = some i) w w') (hn : ON w0 w' g 64 200 0 (ds ++ [d]) A' c') (hd : Ok n d f) (hv : v = (cnt ds f : Int) + 1) :
    CI w0 (w'.setCell ⟨q, f, none⟩ (.int .i64 v)) n g q (ds ++ [d]) A' c' := by
  have hb := h.keep hu
  refine ⟨hn.count hb h.hq _ _, ?_, h.hq, ?_⟩
  · have := hb.set_ f (.int .i64 v)
    rwa [cl_set (ds' := ds ++ [d]) (by rw [cnt_add, hd.frm, hv]; simp) (fun k hk => by
      rw [cnt_add, hd.frm]
      have : ((f : Int) == (k : Int)) = false := by simp; omega
      rw [this]; simp)] at this
  · intro d' hd'
    rcases List.mem_append.1 hd' with e | e
    · exact h.ok d' e
    · simp at e; subst e; exact ⟨f, hd⟩
theorem CI.down {A' : Option Addr} {c' i : Nat} {f : Nat} {v : Int} (h : CI w0 w n g q ds A c) (hi : i < ds.length) (hu : Upd (fun i => i = g ∨ A.map (·.block) = some i) w w') (hn : ON w0 w' g 64 200 0 (ds.take i ++ ds.drop (i + 1)) A' c') (hd : Ok n ds[i] f) (hv : v = (cnt ds f : Int) - 1) :
    CI w0 (w'.setCell ⟨q, f, none⟩ (.int .i64 v)) n g q (ds.take i ++ ds.drop (i + 1)) A' c' := by
  have hb := h.keep hu
  refine ⟨hn.count hb h.hq _ _, ?_, h.hq, ?_⟩
  · have := hb.set_ f (.int .i64 v)
    rwa [cl_set (ds' := ds.take i ++ ds.drop (i + 1)) (by
        have := cnt_take ds i hi f
        rw [hd.frm] at this
        simp at this
        omega) (fun k hk => by
      have := cnt_take ds i hi k
      rw [hd.frm] at this
      have e : ((f : Int) == (k : Int)) = false := by simp; omega
      rw [e] at this; simp at this
      simp [this])] at this
  · intro d' hd'
    refine h.ok d' ?_
    rcases List.mem_append.1 hd' with e | e
    · exact List.mem_of_mem_take e
    · exact List.mem_of_mem_drop e
end

theorem pick_ (p : Int) (n : Nat) (hn : 0 < n) : ∃ k : Nat, k < n ∧ Int.tmod (Int.tmod p n + n) n = (k : Int) := by
  have h1 : Int.tmod p n < n := Int.tmod_lt_of_pos p (by omega)
  have h2 : -(n : Int) < Int.tmod p n := Int.lt_tmod_of_pos p (by omega)
  have h3 : 0 ≤ Int.tmod p n + n := by omega
  rw [Int.tmod_eq_emod_of_nonneg h3]
  have h4 := Int.emod_nonneg (Int.tmod p n + n) (b := (n : Int)) (by omega)
  have h5 := Int.emod_lt_of_pos (Int.tmod p n + n) (b := (n : Int)) (by omega)
  exact ⟨((Int.tmod p n + n) % n).toNat, by omega, by omega⟩
theorem two_bytes {f : Nat} (hf : f < 32) : bv [UInt8.ofNat f, UInt8.ofNat (3 * f)] = [.int .u8 (f : Int), .int .u8 (3 * (f : Int))] := by
  have h1 : f % 256 = f := Nat.mod_eq_of_lt (by omega)
  have h2 : (3 * f) % 256 = 3 * f := Nat.mod_eq_of_lt (by omega)
  simp [bv, h1, h2]
theorem reads_two (w : World) {f : Nat} (hf : f < 32) : Reads (w.alloc (.cells #[.int .u8 (f : Int), .int .u8 (3 * (f : Int))] 5)) (fun _ => True) 1 (some ⟨w.heap.size, 0, none⟩) [UInt8.ofNat f, UInt8.ofNat (3 * f)].length (bv [UInt8.ofNat f, UInt8.ofNat (3 * f)]) := by
  have h := reads_new w #[.int .u8 (f : Int), .int .u8 (3 * (f : Int))] 5 1 2 (by simp)
  rw [two_bytes hf]
  exact h
end Go.Proofs.Ytdflbfkdegkboaa
