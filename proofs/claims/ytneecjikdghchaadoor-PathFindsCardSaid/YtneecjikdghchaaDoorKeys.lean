/- A map of numbers' keys, as the kit's own word for maps has them. -/
import Derived.Lib.SlKeysI
import Derived.Maps.Range
import Derived.Test.YtneecjikdghchaaDoorIntMap
set_option linter.unusedSimpArgs false
set_option linter.unusedVariables false
namespace Go.Proofs.YtneecjikdghchaaDoor
open Go.RowKit Go.MapKept Go.WideShapes Go.ChangeMaps Go.WideElems

theorem pigeon : ∀ (n : Nat) (l : List Int), l.Nodup → (∀ x, x ∈ l → 0 ≤ x ∧ x < n) → l.length ≤ n
  | 0, l, _, h => by
    cases l with
    | nil => simp
    | cons x l => have := h x (by simp); omega
  | n + 1, l, hn, h => by
    have h1 := pigeon n (l.erase (n : Int)) (hn.erase _) fun x hx => by
      have h2 := (hn.mem_erase_iff).1 hx
      have h3 := h x h2.2
      have := h2.1
      omega
    rw [List.length_erase] at h1
    split at h1 <;> omega
def R0 : Value → Option (DataW Unit × List MemPlace) := fun _ => some (.nil, [])
theorem MapAt.owns {P : Program} {k : TypeId} {W : World} {b : Nat} {f : Int → Option Value} (h : MapAt W b f) (hk : P.underlying k = some (.int .i64)) (hr : ∀ x v, f x = some v → 0 ≤ x ∧ x ≤ 255) :
    ∃ D : DataW Unit, W.ownsMap P k R0 b 256 D ∧ (∀ x, x ∈ intKeys D ↔ ∃ v, f x = some v) ∧ (intKeys D).Nodup := by
  obtain ⟨es, clock, hb, hkeys, huniq, hval, hdom, hst⟩ := h
  have hkey : ∀ e, e ∈ es.toList → ∃ x : Int, e.key = .int .i64 x ∧ f x = some e.val ∧ keyOf P k e.key = some (.int .i64 x) := fun e he => by
    obtain ⟨x, hx, h0, h1⟩ := hkeys e he
    exact ⟨x, hx, hval e he x hx, by rw [hx]; exact Maps.keyOf_int_mk hk (wf_i64 h0 h1)⟩
  have hnd : (es.toList.map fun e => match e.key with | .int _ x => x | _ => 0).Nodup := by
        have hp := hst.2.2
        rw [List.nodup_iff_pairwise_ne, List.pairwise_map] at hp ⊢
        refine List.Pairwise.imp_of_mem ?_ hp
        intro e e' he he' hne
        obtain ⟨x, hx, _⟩ := hkey e he
        obtain ⟨y, hy, _⟩ := hkey e' he'
        rw [hx, hy] at hne ⊢
        simp only at hne ⊢
        intro e1
        exact hne (by rw [e1])
  have hsize : es.size ≤ 256 := by
    have h1 : (es.toList.map fun e => match e.key with | .int _ x => x | _ => 0).length ≤ 256 := by
      refine pigeon 256 _ hnd ?_
      · intro x hx
        obtain ⟨e, he, rfl⟩ := List.mem_map.1 hx
        obtain ⟨y, hy, hf, _⟩ := hkey e he
        rw [hy]
        have := hr y _ hf
        simp only; omega
    simpa using h1
  have hrd : ∀ e, e ∈ es.toList → ∃ x : Int, e.key = .int .i64 x ∧ rd P k R0 e = some (.int .i64 x, .nil) := fun e he => by
    obtain ⟨x, hx, _, hk2⟩ := hkey e he
    refine ⟨x, hx, ?_⟩
    cases e with
    | mk key val born => exact rd_mk (born := born) hk2 (yv := (.nil, [])) rfl
  refine ⟨_, ⟨es, clock, hb, ⟨by unfold maxLen; omega, hst, fun e he => by obtain ⟨x, _, h2⟩ := hrd e he; exact ⟨_, h2⟩⟩, hsize, rfl⟩, fun x => ?_, ?_⟩
  rotate_left
  · simp only [intKeys]
    refine ((sorted_perm _).map _).nodup_iff.2 ?_
    rw [List.map_map]
    have he : es.toList.map ((fun p => _root_.Go.intOf p.1) ∘ rg P k R0) = es.toList.map fun e => match e.key with | .int _ x => x | _ => 0 := by
      refine List.map_congr_left fun e he => ?_
      obtain ⟨y, hy, h2⟩ := hrd e he
      simp only [Function.comp, rg_of h2, hy]
      rfl
    rw [he]; exact hnd
  simp only [intKeys, List.mem_map, mem_sorted]
  constructor
  · rintro ⟨p, ⟨e, he, rfl⟩, rfl⟩
    obtain ⟨y, hy, h2⟩ := hrd e he
    rw [rg_of h2]
    exact ⟨e.val, hval e he y hy⟩
  · rintro ⟨v, hv⟩
    obtain ⟨e, he, hek⟩ := hdom x v hv
    obtain ⟨y, hy, h2⟩ := hrd e he
    refine ⟨_, ⟨e, he, rfl⟩, ?_⟩
    rw [rg_of h2]
    rw [hek] at hy
    cases hy
    rfl
end Go.Proofs.YtneecjikdghchaaDoor
