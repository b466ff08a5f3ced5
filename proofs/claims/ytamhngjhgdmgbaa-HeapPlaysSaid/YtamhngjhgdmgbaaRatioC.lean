/- Package ratio: Sound, top, Compare, by what it answers. -/
import Derived.Test.YtamhngjhgdmgbaaWCmp
namespace Go.Proofs.Ytamhngjhgdmgbaa
open Go.RowKit

set_option maxHeartbeats 400000 in
theorem sound_any (h l d : Int) (w : World) :
    Calls Try.prog 33 #[.agg #[.int .u64 h, .int .u64 l, .int .u64 d]] w fun e w' => e = .returned (.bool (d != 0)) ∧ Below w.heap.size w w' := by
  go_enter Try.func33, Try.ntmps33
  go_wp2
  go_ret
  exact ⟨rfl, by (repeat' (first | (with_reducible exact Below.refl _ _) | (with_reducible assumption) | (with_reducible refine Below.alloc ?_ ?_ _) | (with_reducible refine Below.drew ?_) | (with_reducible refine drewN_below ?_ _) | (with_reducible refine Below.setCell ?_ ?_ _) | (with_reducible refine below_call (by with_reducible assumption) ?_ ?_) | (first | (with_reducible exact Nat.le_refl _) | (with_reducible assumption) | omega | (simp; done) | (simp; omega))))⟩
set_option maxHeartbeats 400000 in
theorem top_any (h l d : Int) (w : World) :
    Calls Try.prog 35 #[.agg #[.int .u64 h, .int .u64 l, .int .u64 d]] w fun e w' => e = .returned (.agg #[.int .u64 h, .int .u64 l]) ∧ Below w.heap.size w w' := by
  go_enter Try.func35, Try.ntmps35
  go_wp2
  exact bodyPost_ret (v := .agg #[.int .u64 h, .int .u64 l]) (by simp [*, results, Try.results35, go_sem]) rfl ⟨rfl, by (repeat' (first | (with_reducible exact Below.refl _ _) | (with_reducible assumption) | (with_reducible refine Below.alloc ?_ ?_ _) | (with_reducible refine Below.drew ?_) | (with_reducible refine drewN_below ?_ _) | (with_reducible refine Below.setCell ?_ ?_ _) | (with_reducible refine below_call (by with_reducible assumption) ?_ ?_) | (first | (with_reducible exact Nat.le_refl _) | (with_reducible assumption) | omega | (simp; done) | (simp; omega))))⟩

set_option maxHeartbeats 2000000 in
theorem rcmp_any (ah al ad bh bl bd : Int) (h1 : Word ah) (h2 : Word al) (h3 : Word ad) (h4 : Word bh) (h5 : Word bl) (h6 : Word bd) (w : World) :
    Calls Try.prog 27 #[.agg #[.int .u64 ah, .int .u64 al, .int .u64 ad], .agg #[.int .u64 bh, .int .u64 bl, .int .u64 bd]] w fun e w' => e = .returned (.int .i64 (cmpD ah al ad bh bl bd)) ∧ Below w.heap.size w w' := by
  by_cases ha : ad = 0
  · have ha' : (ad != 0) = false := by simp [ha]
    by_cases hb : bd = 0
    · have hv : cmpD ah al ad bh bl bd = 0 := by unfold cmpD; rw [if_pos ha, if_pos hb]
      have hb' : (bd != 0) = false := by simp [hb]
      rw [hv]; clear hv ha hb
      go_enter Try.func27, Try.ntmps27
      go_wp2_with (go_at_call 33; refine (sound_any _ _ _ _).mono ?_; rintro e w' ⟨rfl, hB⟩; obtain ⟨hc, hf⟩ := keep hB; have hz := hB.size; try simp at hz)
      go_ret
      exact ⟨rfl, by (repeat' (first | (with_reducible exact Below.refl _ _) | (with_reducible assumption) | (with_reducible refine Below.alloc ?_ ?_ _) | (with_reducible refine Below.drew ?_) | (with_reducible refine drewN_below ?_ _) | (with_reducible refine Below.setCell ?_ ?_ _) | (with_reducible refine below_call (by with_reducible assumption) ?_ ?_) | (first | (with_reducible exact Nat.le_refl _) | (with_reducible assumption) | omega | (simp; done) | (simp; omega))))⟩
    · have hv : cmpD ah al ad bh bl bd = 1 := by unfold cmpD; rw [if_pos ha, if_neg hb]
      have hb' : (bd != 0) = true := by simp [hb]
      rw [hv]; clear hv ha hb
      go_enter Try.func27, Try.ntmps27
      go_wp2_with (go_at_call 33; refine (sound_any _ _ _ _).mono ?_; rintro e w' ⟨rfl, hB⟩; obtain ⟨hc, hf⟩ := keep hB; have hz := hB.size; try simp at hz)
      go_ret
      exact ⟨rfl, by (repeat' (first | (with_reducible exact Below.refl _ _) | (with_reducible assumption) | (with_reducible refine Below.alloc ?_ ?_ _) | (with_reducible refine Below.drew ?_) | (with_reducible refine drewN_below ?_ _) | (with_reducible refine Below.setCell ?_ ?_ _) | (with_reducible refine below_call (by with_reducible assumption) ?_ ?_) | (first | (with_reducible exact Nat.le_refl _) | (with_reducible assumption) | omega | (simp; done) | (simp; omega))))⟩
  · have ha' : (ad != 0) = true := by simp [ha]
    by_cases hb : bd = 0
    · have hv : cmpD ah al ad bh bl bd = -1 := by unfold cmpD; rw [if_neg ha, if_pos hb]
      have hb' : (bd != 0) = false := by simp [hb]
      rw [hv]; clear hv ha hb
      go_enter Try.func27, Try.ntmps27
      go_wp2_with (go_at_call 33; refine (sound_any _ _ _ _).mono ?_; rintro e w' ⟨rfl, hB⟩; obtain ⟨hc, hf⟩ := keep hB; have hz := hB.size; try simp at hz)
      go_ret
      exact ⟨rfl, by (repeat' (first | (with_reducible exact Below.refl _ _) | (with_reducible assumption) | (with_reducible refine Below.alloc ?_ ?_ _) | (with_reducible refine Below.drew ?_) | (with_reducible refine drewN_below ?_ _) | (with_reducible refine Below.setCell ?_ ?_ _) | (with_reducible refine below_call (by with_reducible assumption) ?_ ?_) | (first | (with_reducible exact Nat.le_refl _) | (with_reducible assumption) | omega | (simp; done) | (simp; omega))))⟩
    · have hv : cmpD ah al ad bh bl bd = cmpV (num ah al * bd) (num bh bl * ad) := by unfold cmpD; rw [if_neg ha, if_neg hb]
      have hb' : (bd != 0) = true := by simp [hb]
      rw [hv]; clear hv ha hb
      go_enter Try.func27, Try.ntmps27
      go_wp2_with (go_at_call 33; refine (sound_any _ _ _ _).mono ?_; rintro e w' ⟨rfl, hB⟩; obtain ⟨hc, hf⟩ := keep hB; have hz := hB.size; try simp at hz)
      (refine wp_region_text (by kernel_rfl) (by kernel_rfl) ?_; (repeat (first | (refine step_val (v := ?_) (by rfl) ?_ ?_; rotate_left; (· (intro z hz; obtain ⟨hc, hf⟩ := keep hz; go_simp; first | done | (with_reducible rfl))); (try simp only [Act.put, List.setIfInBounds_toArray, List.set_cons_zero, List.set_cons_succ])) | (refine step_skip (by rfl) ?_; (try simp only [Act.put, List.setIfInBounds_toArray, List.set_cons_zero, List.set_cons_succ])) | (refine step_call (v := ?_) (f := ?_) (args := ?_) (by rfl) ?_ ?_ ?_; rotate_left; rotate_left; rotate_left; (· (intro z hz; go_simp; first | done | (with_reducible rfl) | (constructor <;> with_reducible rfl))); (· (intro z hz; first | (go_at_call 35; refine (top_any _ _ _ _).mono ?_; rintro e w' ⟨rfl, hB⟩; refine ⟨?_, hz.trans (hB.mono hz.size)⟩; with_reducible rfl) | (go_at_call 34; refine (wcmpProducts_any _ _ _ _ _ _ h1 h2 h6 h4 h5 h3 _).mono ?_; rintro e w' ⟨rfl, hB⟩; refine ⟨?_, hz.trans (hB.mono hz.size)⟩; with_reducible rfl))); (try simp only [Act.put, List.setIfInBounds_toArray, List.set_cons_zero, List.set_cons_succ])))); refine steps_end ?_; intro w' hB; obtain ⟨hc, hf⟩ := keep hB; have hz := hB.size; try simp at hz)
      go_wp2
      go_ret
      exact ⟨rfl, by (repeat' (first | (with_reducible exact Below.refl _ _) | (with_reducible assumption) | (with_reducible refine Below.alloc ?_ ?_ _) | (with_reducible refine Below.drew ?_) | (with_reducible refine drewN_below ?_ _) | (with_reducible refine Below.setCell ?_ ?_ _) | (with_reducible refine below_call (by with_reducible assumption) ?_ ?_) | (first | (with_reducible exact Nat.le_refl _) | (with_reducible assumption) | omega | (simp; done) | (simp; omega))))⟩
end Go.Proofs.Ytamhngjhgdmgbaa
