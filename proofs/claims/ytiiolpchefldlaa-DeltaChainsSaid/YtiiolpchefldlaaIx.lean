import Derived.Test.YtiiolpchefldlaaNd
import Derived.Test.YtiiolpchefldlaaShelf
import Derived.Lib.IndexMore
namespace Go.Proofs.Ytiiolpchefldlaa
open Go.RowKit

/-! ### bytes.Index -/
def ints (b : List UInt8) : List Int := b.map fun x => (x.toNat : Int)
theorem ints_len (b : List UInt8) : (ints b).length = b.length := by simp [ints]
theorem ints_bytes (b : List UInt8) : Lib.bytesOf (ints b) = b := by
  unfold Lib.bytesOf ints
  rw [List.map_map]
  refine (List.map_congr_left fun x _ => ?_).trans (List.map_id b)
  simp [Function.comp]
theorem ints_range (b : List UInt8) : ∀ x ∈ ints b, 0 ≤ x ∧ x < 256 := by
  intro x hx
  obtain ⟨y, _, rfl⟩ := List.mem_map.1 hx
  have := y.toNat_lt
  omega
theorem ints_cells {w : World} {ad : Addr} {b : List UInt8} (h : Reads w (fun _ => True) 1 (some ad) b.length (bv b)) : ∀ i, i < b.length → w.cell? (ad.add i) = some (.int .u8 ((ints b).getD i 0)) := by
  intro i hi
  rw [bytes_at h hi]
  simp [ints, List.getD, hi]
theorem fresh_drewN (w : World) (q : Nat) : Fresh w (w.drewN q) := (Upd.refl w).drewN q
theorem index_o {As At : Option Addr} {cs ct : Nat} {base target : List UInt8} {w : World} {m : Int} (hb : Sl w As base cs) (ht : Sl w At target ct) (hs : base.length < 4294967281) (hm : w.cell? ⟨0, 0, none⟩ = some (.int .i64 m)) :
    Calls Try.prog 16 #[.slice As base.length cs, .slice At target.length ct] w fun e w' => e = .returned (.int .i64 (Lib.index base target)) ∧ Fresh w w' := by
  rcases At with _ | a2
  · obtain rfl : target = [] := List.eq_nil_of_length_eq_zero ht.rd.zero.1
    rw [Lib.index_empty]
    exact (Try.bytes_Index_none As none _ _ _ w).mono fun e w' ⟨h1, h2⟩ => ⟨h1, by rw [h2]; exact Upd.refl w⟩
  · rcases As with _ | a1
    · obtain rfl : base = [] := List.eq_nil_of_length_eq_zero hb.rd.zero.1
      obtain rfl := hb.nn rfl
      have he : Lib.index [] target = if target.length = 0 then 0 else -1 := by
        rcases target with _ | ⟨x, t⟩
        · rfl
        · rw [if_neg (by simp)]
          exact Lib.index_past (i := 0) (by simp) (fun j hj => absurd hj (Nat.not_lt_zero _)) (by simp)
      rw [he]
      refine (Try.bytes_Index_nil (some a2) target.length ct w (by have := ht.le; have := ht.cm; omega) (fun h => ?_)).mono fun e w' ⟨h1, h2⟩ => ⟨h1, by rw [h2]; exact Upd.refl w⟩
      have hc := ints_cells ht.rd 0 (by omega)
      have hp := Lib.plain_of_cell hc
      exact ⟨(a2.add 0).block, (a2.add 0).off, _, congrArg some hp, by rw [← hp]; exact hc⟩
    · have h := Try.bytes_Index_at a1 a2 base.length cs target.length ct (ints base) (ints target) m w (ints_len _) (ints_len _) (ints_range _) (ints_range _) (ints_cells hb.rd) (ints_cells ht.rd) hb.le hs (by have := ht.le; have := ht.cm; omega) hm
      rw [ints_bytes, ints_bytes] at h
      exact h.mono fun e w' ⟨h1, q, h2⟩ => ⟨h1, by rw [h2]; exact fresh_drewN w q⟩
/-- What Index says. -/
theorem index_some {base target : List UInt8} {i : Nat} (h : Lib.index base target = (i : Int)) : i + target.length ≤ base.length ∧ (base.drop i).take target.length = target := by
  have hr := Lib.index_room base target (by omega)
  rw [h] at hr
  refine ⟨by omega, ?_⟩
  rcases Lib.index_spec base target with ⟨h1, _⟩ | ⟨j, h1, h2, h3, _⟩
  · omega
  · obtain rfl : j = i := by omega
    unfold Lib.occAt at h3
    exact (List.prefix_iff_eq_take.1 (List.isPrefixOf_iff_prefix.1 h3)).symm
theorem index_found {base target : List UInt8} {k : Nat} (hk : k + target.length ≤ base.length) (h : (base.drop k).take target.length = target) : 0 ≤ Lib.index base target := by
  rcases Lib.index_spec base target with ⟨_, h2⟩ | ⟨j, h1, _⟩
  · have := h2 k (by omega)
    unfold Lib.occAt at this
    rw [List.isPrefixOf_iff_prefix.2 (List.prefix_iff_eq_take.2 h.symm)] at this
    cases this
  · omega
end Go.Proofs.Ytiiolpchefldlaa
