import Derived.Test.YtdflbfkdegkboaaAt
namespace Go.Proofs.Ytdflbfkdegkboaa
open Go.RowKit

section
variable {P : Program} (w : World)
theorem run_append_fits2 (t ty e : TypeId) (i : TypeInfo) (size : Nat) (ht : P.underlying t = some (.slice e)) (hi : P.info? e = some i) (hsize : i.size = size)
    (g n cap : Nat) (xs : List Value) (hown : w.ownsRow 0 e size (.slice (some ⟨g, 0, none⟩) n cap) n xs)
    (S : Nat → Prop) (A : Option Addr) (m c : Nat) (news : List Value) (hr : Reads w S size A m news) (h1 : ∀ u ∈ news, u.oneCell' = true) (hroom : n + m ≤ cap) :
    ∃ w', (Builtin.append_ #[t, t] ty #[.slice (some ⟨g, 0, none⟩) n cap, .slice A m c]).run P w = .ok (.slice (some ⟨g, 0, none⟩) (n + m) cap) w' ∧
      w'.ownsRow 0 e size (.slice (some ⟨g, 0, none⟩) (n + m) cap) (n + m) (xs ++ news) ∧ w.grownBy w' (some g) := by
  rcases A with _ | ad
  · have hm : m = 0 := by
      rcases Nat.eq_zero_or_pos m with h0 | h0
      · exact h0
      · obtain ⟨ad, h, _⟩ := hr.2 h0
        cases h
    subst hm
    have hn : news = [] := List.eq_nil_of_length_eq_zero (by simpa using hr.1)
    subst hn
    exact ⟨w, run_append_of_nil w 0 t ty e i size ht hi _ n xs hown c, by simpa using hown, World.grownBy.refl w _⟩
  · have hcells : ∀ j u, news[j]? = some u → w.cell? (ad.add j) = some u := by
      intro j u hu
      rcases Nat.eq_zero_or_pos m with h0 | h0
      · subst h0
        have hn : news = [] := List.eq_nil_of_length_eq_zero (by simpa using hr.1)
        subst hn
        simp at hu
      · obtain ⟨ad', h, _, _, hc⟩ := hr.2 h0
        injection h with h
        subst h
        exact hc j u hu
    exact run_append_fits (P := P) w 0 t ty e i size ht hi hsize g n cap xs hown ad m c news hr.1 hcells h1 hroom
theorem step_append_fits2 {ops : Array Oper} {o : Oper} {a : Act} {K : Act → World → Prop} {Q : Exit → Act → World → Prop} {E : Prop} (hgd : o.guard = none) (s x : Operand) (t : TypeId)
    (ho : o.op = .call { callee := .builtin .append, args := #[s, x], argTypes := #[t, t] })
    (e : TypeId) (i : TypeInfo) (size : Nat) (ht : P.underlying t = some (.slice e)) (hi : P.info? e = some i) (hsize : i.size = size)
    (g n cap : Nat) (xs : List Value) (hs : a.eval s = .slice (some ⟨g, 0, none⟩) n cap) (hown : w.ownsRow 0 e size (.slice (some ⟨g, 0, none⟩) n cap) n xs)
    (S : Nat → Prop) (A : Option Addr) (m c : Nat) (news : List Value) (hx : a.eval x = .slice A m c) (hr : Reads w S size A m news) (h1 : ∀ u ∈ news, u.oneCell' = true) (hroom : n + m ≤ cap)
    (h : ∀ w', w'.ownsRow 0 e size (.slice (some ⟨g, 0, none⟩) (n + m) cap) (n + m) (xs ++ news) → w.grownBy w' (some g) → K (a.put o.dst (.slice (some ⟨g, 0, none⟩) (n + m) cap)) w') :
    if Region.wanted o (yielded ops a.tmps) = true then Oper.wp P o a w K Q else E := by
  have hw : Region.wanted o (yielded ops a.tmps) = true := by simp [Region.wanted, hgd]
  rw [if_pos hw]
  obtain ⟨w', hrun, h2, h3⟩ := run_append_fits2 (P := P) w t o.type e i size ht hi hsize g n cap xs hown S A m c news hr h1 hroom
  unfold Oper.wp execOp
  simp only [ho, resolve, invoke, builtin, Sem.run_bind, Sem.run_pure, Result.andThen_ok, List.map_toArray, List.map_cons, List.map_nil, hs, hx, hrun]
  exact h w' h2 h3

theorem run_clear_one (t e ty : TypeId) (z : Value) (zs : List Value) (ht : P.underlying t = some (.slice e)) (hv : ∀ w, (zeroValue e).run P w = .ok z w) (hz : (Builtin.zeroCells z.cells 1).toList = zs) (h1 : ∀ u ∈ zs, u.oneCell' = true)
    (g off c : Nat) (cur : Array Value) (hg : w.heap[g]? = some (.cells cur e (0, 0))) (hfit : off + zs.length ≤ cur.size) :
    (Builtin.clear_ #[t] ty #[.slice (some ⟨g, off, none⟩) 1 c]).run P w = .ok (.tuple #[]) (w.setRow g (cur.toList.take off ++ zs ++ cur.toList.drop (off + zs.length)).toArray) := by
  have hst := run_storeCells_at P g off e zs 0 cur w hg (by simpa using hfit) h1
  simp only [Nat.add_zero] at hst
  simp [Builtin.clear_, run_underlying ht, hv, hz, hst]
theorem wpList_clear_one {ops : Array Oper} {rest : List Oper} {o : Oper} {a : Act} {Q : Exit → Act → World → Prop} (hgd : o.guard = none) (x : Operand) (t : TypeId)
    (ho : o.op = .call { callee := .builtin .clear, args := #[x], argTypes := #[t] })
    (e : TypeId) (z : Value) (zs : List Value) (ht : P.underlying t = some (.slice e)) (hv : ∀ w, (zeroValue e).run P w = .ok z w) (hz : (Builtin.zeroCells z.cells 1).toList = zs) (h1 : ∀ u ∈ zs, u.oneCell' = true)
    (g off c : Nat) (cur : Array Value) (hx : a.eval x = .slice (some ⟨g, off, none⟩) 1 c) (hg : w.heap[g]? = some (.cells cur e (0, 0))) (hfit : off + zs.length ≤ cur.size)
    (h : wpList P ops Q rest (a.put o.dst (.tuple #[])) (w.setRow g (cur.toList.take off ++ zs ++ cur.toList.drop (off + zs.length)).toArray)) : wpList P ops Q (o :: rest) a w := by
  refine wpList_plain hgd fun _ hK => ?_
  have hrun := run_clear_one (P := P) w t e o.type z zs ht hv hz h1 g off c cur hg hfit
  unfold Oper.wp execOp
  simp only [ho, resolve, invoke, builtin, Sem.run_bind, Sem.run_pure, Result.andThen_ok, List.map_toArray, List.map_cons, List.map_nil, hx, hrun]
  exact hK _ _ h
end
theorem Try.zero56 (w : World) : (zeroValue 56).run Try.prog w = .ok (.agg #[.int .i64 0, .int .i64 0, .slice none 0 0]) w := by kernel_rfl

def zs56 : List Value := [.int .i64 0, .int .i64 0, .slice none 0 0]
theorem zs56_length : zs56.length = 3 := rfl
theorem zs56_one : ∀ u ∈ zs56, u.oneCell' = true := by
  intro u hu
  simp [zs56] at hu
  rcases hu with rfl | rfl <;> rfl
theorem zc56 : (Builtin.zeroCells (Value.agg #[.int .i64 0, .int .i64 0, .slice none 0 0]).cells 1).toList = zs56 := by kernel_rfl

theorem owns_prefix {w : World} {base g n c k size : Nat} {e : TypeId} {xs : List Value} (h : w.ownsRow base e size (.slice (some ⟨g, 0, none⟩) n c) n xs) (hk : k ≤ n) : w.ownsRow base e size (.slice (some ⟨g, 0, none⟩) k c) k (xs.take (k * size)) := by
  refine ⟨by rw [List.length_take, h.1]; exact Nat.min_eq_left (Nat.mul_le_mul_right _ hk), ?_⟩
  rcases h.2 with ⟨hv, _⟩ | ⟨g', cap, cur, hv, hb, hg, hnc, hcm, hcs, ht⟩
  · injection hv with h1; cases h1
  · simp only [Value.slice.injEq, Option.some.injEq, Addr.mk.injEq, and_true, true_and] at hv
    obtain ⟨rfl, rfl⟩ := hv
    refine .inr ⟨g, c, cur, rfl, hb, hg, by omega, hcm, hcs, ?_⟩
    rw [← ht, List.take_take, Nat.min_eq_left (Nat.mul_le_mul_right _ hk)]
/-- What is written behind the elements is of no matter. -/
theorem owns_behind {w : World} {base g n c size off : Nat} {e : TypeId} {xs zs : List Value} {cur : Array Value} (h : w.ownsRow base e size (.slice (some ⟨g, 0, none⟩) n c) n xs) (hg : w.heap[g]? = some (.cells cur e (0, 0))) (ho : n * size ≤ off) (hf : off + zs.length ≤ cur.size) :
    (w.setRow g (cur.toList.take off ++ zs ++ cur.toList.drop (off + zs.length)).toArray).ownsRow base e size (.slice (some ⟨g, 0, none⟩) n c) n xs := by
  refine ⟨h.1, ?_⟩
  rcases h.2 with ⟨hv, _⟩ | ⟨g', cap, cur', hv, hb, hg', hnc, hcm, hcs, ht⟩
  · injection hv with h1; cases h1
  · simp only [Value.slice.injEq, Option.some.injEq, Addr.mk.injEq, and_true, true_and] at hv
    obtain ⟨rfl, rfl⟩ := hv
    rw [hg] at hg'
    simp only [Option.some.injEq, Obj.cells.injEq, and_true] at hg'
    subst hg'
    refine .inr ⟨g, c, _, rfl, hb, setRow_heap w g cur _ e _ hg, hnc, hcm, ?_, ?_⟩
    · simp; omega
    · simp only [List.append_assoc]
      rw [List.take_append_of_le_length (by simp; omega), List.take_take, Nat.min_eq_left ho]
      exact ht

def DelO (w : World) (ga n c i : Nat) (ds : List Dg) (e : Ending) (w' : World) : Prop :=
  e = .returned (.slice (some ⟨ga, 0, none⟩) (n - 1) c) ∧ w'.ownsRow 0 56 3 (.slice (some ⟨ga, 0, none⟩) (n - 1) c) (n - 1) (dcells (ds.take i ++ ds.drop (i + 1))) ∧ Upd (fun k => k = ga) w w'

set_option maxHeartbeats 3200000 in
theorem del_o {w : World} {ga c : Nat} {ds : List Dg} (h : w.ownsRow 0 56 3 (.slice (some ⟨ga, 0, none⟩) ds.length c) ds.length (dcells ds)) (i : Nat) (hi : i < ds.length) (hmax : ds.length ≤ 1000000) :
    Calls Try.prog 20 #[.slice (some ⟨ga, 0, none⟩) ds.length c, .int .i64 i, .int .i64 ((i : Int) + 1)] w (DelO w ga ds.length c i ds) := by
  obtain ⟨i0, hi0, hz0, hz1, hz2⟩ := info_parts Try.info56
  have hcap := owns_cap h
  unfold maxLen at hcap
  obtain ⟨hc1, _, hc2⟩ := hcap
  have H := Lib.hid h
  clear h
  obtain ⟨n, hn⟩ : ∃ n, ds.length = n + 1 := ⟨ds.length - 1, by omega⟩
  have HN := Lib.hid hn
  rw [hn] at hc1 hi hmax ⊢
  clear hn
  have hci : ¬ c = n := by omega
  have b1 : (0 : Int) ≤ (i : Int) + 1 := by omega
  have b2 : (i : Int) + 1 ≤ (n : Int) + 1 := by omega
  have b3 : ((i : Int) + 1).toNat = i + 1 := by omega
  have HP : Hid (w.ownsRow 0 56 3 (.slice (some ⟨ga, 0, none⟩) i c) i (dcells (ds.take i))) := by
    have h1 := owns_prefix (k := i) (by have h2 := H.out; rw [HN.out] at h2; exact h2) (by omega)
    rw [dcells_take] at h1
    exact h1
  have HS : Hid (Reads w (fun _ => True) 3 (some (if c = i + 1 then (⟨ga, 0, none⟩ : Addr) else ⟨ga, (i + 1) * 3, none⟩)) (n - i) (dcells (ds.drop (i + 1)))) := by
    have h1 := ((Reads.of_own H.out).weak (S' := fun _ => True) (fun _ _ => trivial)).cut (k := i + 1) (cap := c) (by rw [HN.out]; omega) (by rw [HN.out]; omega)
    rw [dcells_drop, HN.out, show n + 1 - (i + 1) = n - i by omega] at h1
    by_cases e : c = i + 1
    · rw [if_pos e] at h1 ⊢; exact h1
    · rw [if_neg e] at h1 ⊢
      have e2 : (some (⟨ga, 0, none⟩ : Addr)).map (·.add ((i + 1) * 3)) = some ⟨ga, (i + 1) * 3, none⟩ := by
        simp [Addr.add]
      rw [e2] at h1
      exact h1
  have hroom : i + (n - i) = n := by omega
  have HR := Lib.hid hroom
  have hmi : n - i + i ≤ c := by omega
  clear hroom
  have b4 : i ≤ c := by omega
  have b5 : (i : Int) ≤ (c : Int) := by omega
  have b6 : i ≤ n := by omega
  by_cases hcc : c = i + 1
  · have hin : n = i := by omega
    subst hin
    subst hcc
    have HS0 : Hid (Reads w (fun _ => True) 3 (some ⟨ga, 0, none⟩) 0 (dcells (ds.drop (n + 1)))) := by have h1 := HS.out; rw [if_pos rfl, Nat.sub_self] at h1; exact h1
    clear HS
    have b7 : (n : Int) ≤ (n : Int) + 1 := by omega
    go_enter Try.func20, Try.ntmps20
    go_wp2_with fail
    go_region_law (first
      | ((refine step_append_fits2 _ rfl (.tmp 22) (.tmp 25) 51 rfl 56 i0 3 Try.underlying51 hi0 hz1 ga n (n + 1) (dcells (ds.take n)) rfl (by exact HP.out) (fun _ => True) (some ⟨ga, 0, none⟩) 0 _ (dcells (ds.drop (n + 1))) rfl (HS0.out.drewN _) (dcells_one _) (by omega) ?_)
         intro w2 hown2 hg2
         rw [Nat.add_zero] at hown2 ⊢
         have Ho := Lib.hid hown2
         have Hg := Lib.hid hg2
         clear hown2 hg2))
    have hw2 := hc1
    obtain ⟨cur, hcur, hcs⟩ : ∃ cur, w2.heap[ga]? = some (.cells cur 56 (0, 0)) ∧ cur.size = (n + 1) * 3 := by
      rcases Ho.out.2 with ⟨hv, _⟩ | ⟨g', cap, cur', hv, _, hg', _, _, hs, _⟩
      · injection hv with h1; cases h1
      · simp only [Value.slice.injEq, Option.some.injEq, Addr.mk.injEq, and_true, true_and] at hv
        obtain ⟨rfl, rfl⟩ := hv
        exact ⟨cur', hg', hs⟩
    have HC := Lib.hid hcur
    have HCS := Lib.hid hcs
    clear hcur hcs hw2
    have hz := HCS.out
    have hzc : n * 3 + zs56.length ≤ cur.size := by rw [hz, zs56_length]; omega
    have HZ := Lib.hid hzc
    clear hz hzc
    have hclr := run_clear_one (P := Try.prog) w2 51 56 0 _ zs56 Try.underlying51 Try.zero56 zc56 zs56_one ga (n * 3) 1 cur HC.out HZ.out
    have Hb := Lib.hid (owns_behind Ho.out HC.out (Nat.le_refl _) HZ.out)
    have Hu := Lib.hid (show Upd (fun k => k = ga) w2 (w2.setRow ga (cur.toList.take (n * 3) ++ zs56 ++ cur.toList.drop (n * 3 + zs56.length)).toArray) from ⟨rfl, rfl, rfl, by simp, fun k _ hk => setRow_other w2 ga k _ hk⟩)
    generalize w2.setRow ga (cur.toList.take (n * 3) ++ zs56 ++ cur.toList.drop (n * 3 + zs56.length)).toArray = w3 at hclr Hb Hu
    clear HZ HCS HC
    go_wp2_with fail
    go_ret
    refine ⟨rfl, ?_, ?_⟩
    · rw [dcells_append]
      exact Hb.out
    · exact (((Upd.refl w).drewN _).grown Hg.out (fun k hk _ => by injection hk with hk; exact hk.symm)).trans Hu.out (fun _ _ h => h)
  · go_enter Try.func20, Try.ntmps20
    go_wp2_with fail
    go_region_law (first
      | ((refine step_append_fits2 _ rfl (.tmp 22) (.tmp 25) 51 rfl 56 i0 3 Try.underlying51 hi0 hz1 ga i c (dcells (ds.take i)) rfl (by exact HP.out) (fun _ => True) (some ⟨ga, (i + 1) * 3, none⟩) (n - i) _ (dcells (ds.drop (i + 1))) rfl (by have h1 := HS.out; rw [if_neg hcc] at h1; exact h1.drewN _) (dcells_one _) (by omega) ?_)
         intro w2 hown2 hg2
         rw [HR.out] at hown2 ⊢
         have Ho := Lib.hid hown2
         have Hg := Lib.hid hg2
         clear hown2 hg2))
    have hw2 := hc1
    obtain ⟨cur, hcur, hcs⟩ : ∃ cur, w2.heap[ga]? = some (.cells cur 56 (0, 0)) ∧ cur.size = c * 3 := by
      rcases Ho.out.2 with ⟨hv, _⟩ | ⟨g', cap, cur', hv, _, hg', _, _, hs, _⟩
      · injection hv with h1; cases h1
      · simp only [Value.slice.injEq, Option.some.injEq, Addr.mk.injEq, and_true, true_and] at hv
        obtain ⟨rfl, rfl⟩ := hv
        exact ⟨cur', hg', hs⟩
    have HC := Lib.hid hcur
    have HCS := Lib.hid hcs
    clear hcur hcs hw2
    have hz := HCS.out
    have hzc : n * 3 + zs56.length ≤ cur.size := by rw [hz, zs56_length]; omega
    have HZ := Lib.hid hzc
    clear hz hzc
    have hclr := run_clear_one (P := Try.prog) w2 51 56 0 _ zs56 Try.underlying51 Try.zero56 zc56 zs56_one ga (n * 3) (c - n) cur HC.out HZ.out
    have Hb := Lib.hid (owns_behind Ho.out HC.out (Nat.le_refl _) HZ.out)
    have Hu := Lib.hid (show Upd (fun k => k = ga) w2 (w2.setRow ga (cur.toList.take (n * 3) ++ zs56 ++ cur.toList.drop (n * 3 + zs56.length)).toArray) from ⟨rfl, rfl, rfl, by simp, fun k _ hk => setRow_other w2 ga k _ hk⟩)
    generalize w2.setRow ga (cur.toList.take (n * 3) ++ zs56 ++ cur.toList.drop (n * 3 + zs56.length)).toArray = w3 at hclr Hb Hu
    clear HZ HCS HC
    go_wp2_with fail
    go_ret
    refine ⟨rfl, ?_, ?_⟩
    · rw [dcells_append]
      exact Hb.out
    · exact (((Upd.refl w).drewN _).grown Hg.out (fun k hk _ => by injection hk with hk; exact hk.symm)).trans Hu.out (fun _ _ h => h)
end Go.Proofs.Ytdflbfkdegkboaa
