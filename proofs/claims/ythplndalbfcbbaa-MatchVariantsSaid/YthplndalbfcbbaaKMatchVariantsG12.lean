/- What the proof of the law rests on: contracts of the functions, plain laws, and words. -/
import Derived.Laws.EntriesVeiled
import Derived.Test.YthplndalbfcbbaaKMatchVariantsG5
import Derived.Test.YthplndalbfcbbaaKMatchVariantsG6
import Derived.Test.YthplndalbfcbbaaKMatchVariantsG1
import Derived.Test.YthplndalbfcbbaaKMatchVariantsG3
import Derived.Test.YthplndalbfcbbaaKMatchVariantsG4
import Derived.Test.YthplndalbfcbbaaKMatchVariantsG11
set_option linter.unusedSimpArgs false
set_option linter.unusedVariables false
namespace Go.Proofs.Ythplndalbfcbbaa
open Go.RowKit
def posN (v : Int) : List Int → Nat
  | [] => 0
  | x :: l => if x = v then 0 else 1 + posN v l
theorem posN_le (v : Int) : ∀ l : List Int, posN v l ≤ l.length
  | [] => by simp [posN]
  | x :: l => by
    have := posN_le v l
    simp only [posN, List.length_cons]
    split <;> omega
theorem posN_append {v : Int} : ∀ {a : List Int} (b : List Int), v ∈ a → posN v (a ++ b) = posN v a
  | [], _, h => by simp at h
  | x :: a, b, h => by
    simp only [List.cons_append, posN]
    split
    · rfl
    · rename_i hx
      rw [posN_append b ((List.mem_cons.1 h).resolve_left fun e => hx e.symm)]
theorem posN_new {v : Int} : ∀ {a : List Int}, v ∉ a → posN v (a ++ [v]) = a.length
  | [], _ => by simp [posN]
  | x :: a, h => by
    simp only [List.mem_cons, not_or] at h
    simp only [List.cons_append, posN, List.length_cons]
    rw [if_neg (fun e => h.1 e.symm), posN_new h.2]; omega
def numStep (ns : List Int) (v : Int) : List Int := if v ∈ ns then ns else ns ++ [v]
theorem mem_numStep {ns : List Int} {v x : Int} : x ∈ numStep ns v ↔ x ∈ ns ∨ x = v := by
  unfold numStep
  split
  · rename_i h
    exact ⟨.inl, fun h' => h'.elim id fun e => e ▸ h⟩
  · simp
theorem numStep_nodup {ns : List Int} {v : Int} (h : ns.Nodup) : (numStep ns v).Nodup := by
  unfold numStep
  split
  · exact h
  · rename_i hv
    rw [List.nodup_append]
    exact ⟨h, by simp, fun a ha b hb e => by simp at hb; subst hb; exact hv (e ▸ ha)⟩
def numF (ns : List Int) : Int → Option Value := fun v => if v ∈ ns then some (.int .i64 (posN v ns)) else none
theorem numF_step {ns : List Int} {v : Int} (h : v ∉ ns) : (fun y => if y = v then some (.int .i64 (ns.length : Int)) else numF ns y) = numF (numStep ns v) := by
  funext y
  have e : numStep ns v = ns ++ [v] := by simp [numStep, h]
  by_cases hy : y = v
  · subst hy
    simp only [numF, e, if_true]
    rw [if_pos (by simp), posN_new h]
  · simp only [if_neg hy, numF, e]
    by_cases hm : y ∈ ns
    · rw [if_pos hm, if_pos (by simp [hm]), posN_append _ hm]
    · rw [if_neg hm, if_neg (by simp [hm, hy])]
theorem nodup_le : ∀ (a b : List Int), a.Nodup → (∀ x, x ∈ a → x ∈ b) → a.length ≤ b.length
  | [], _, _, _ => by simp
  | x :: a, b, hn, hs => by
    rw [List.nodup_cons] at hn
    obtain ⟨b1, b2, rfl⟩ := List.append_of_mem (hs x (by simp))
    have := nodup_le a (b1 ++ b2) hn.2 fun y hy => by
      have h1 := hs y (by simp [hy])
      simp only [List.mem_append, List.mem_cons] at h1 ⊢
      rcases h1 with h1 | rfl | h1
      · exact .inl h1
      · exact absurd hy hn.1
      · exact .inr h1
    simp only [List.length_append, List.length_cons] at this ⊢; omega
theorem MapAt.count {W : World} {b : Nat} {f : Int → Option Value} (h : MapAt W b f) {ns : List Int} (hn : ns.Nodup) (hd : ∀ x, x ∈ ns ↔ ∃ u, f x = some u) : ∃ es clock, W.heap[b]? = some (.map es clock) ∧ es.size = ns.length := by
  obtain ⟨es, clock, hb, hkeys, huniq, hval, hdom, hst⟩ := h
  refine ⟨es, clock, hb, ?_⟩
  let key : MapEntry → Int := fun e => match e.key with | .int _ x => x | _ => 0
  have hk : ∀ e, e ∈ es.toList → e.key = .int .i64 (key e) := fun e he => by
    obtain ⟨x, hx, -, -⟩ := hkeys e he
    simp only [key, hx]
  have hnd : (es.toList.map key).Nodup := by
    rw [List.nodup_iff_pairwise_ne, List.pairwise_map, List.pairwise_iff_getElem]
    intro i j hi hj hij hee
    have h1 := huniq i j _ _ (List.getElem?_eq_getElem hi) (List.getElem?_eq_getElem hj) (by rw [hk _ (List.getElem_mem hi), hk _ (List.getElem_mem hj), hee])
    omega
  have l1 := nodup_le (es.toList.map key) ns hnd fun x hx => by
    obtain ⟨e, he, rfl⟩ := List.mem_map.1 hx
    exact (hd _).2 ⟨_, hval e he _ (hk e he)⟩
  have l2 := nodup_le ns (es.toList.map key) hn fun x hx => by
    obtain ⟨u, hu⟩ := (hd x).1 hx
    obtain ⟨e, he, hek⟩ := hdom x u hu
    refine List.mem_map.2 ⟨e, he, ?_⟩
    have := hk e he
    rw [hek] at this
    simpa using this.symm
  simp only [List.length_map, Array.length_toList] at l1 l2
  omega
structure NumAt (w : World) (mb pb : Nat) (ns : List Int) : Prop where
  cell : w.heap[pb]? = some (.cells #[.map (some mb)] 121 (0, 0))
  map : MapAt w mb (numF ns)
  nodup : ns.Nodup
  rng : ∀ x, x ∈ ns → 0 ≤ x ∧ x ≤ 255
  ne : pb ≠ mb
theorem NumAt.keep {w w' : World} {mb pb : Nat} {ns : List Int} {S : Nat → Prop} (h : NumAt w mb pb ns) (hk : Keep S w w') (h1 : S pb) (h2 : S mb) : NumAt w' mb pb ns :=
  ⟨hk.obj h1 h.cell, h.map.keep hk h2, h.nodup, h.rng, h.ne⟩
theorem NumAt.below {w w' : World} {mb pb : Nat} {ns : List Int} (h : NumAt w mb pb ns) (hk : Below w.heap.size w w') : NumAt w' mb pb ns := h.keep (S := fun _ => True) (.of_below hk) trivial trivial
theorem NumAt.len {w : World} {mb pb : Nat} {ns : List Int} (h : NumAt w mb pb ns) : ns.length ≤ 256 :=
  pigeon 256 ns (List.nodup_iff_pairwise_ne.1 h.nodup |> List.nodup_iff_pairwise_ne.2) fun x hx => ⟨(h.rng x hx).1, by have := (h.rng x hx).2; omega⟩
theorem zeroInt (W : World) : (zeroValue 3).run Try.prog W = .ok (.int .i64 0) W := by kernel_rfl
set_option maxHeartbeats 4000000 in
set_option maxRecDepth 100000 in
theorem num_calls (mb pb : Nat) (v : Int) (ns : List Int) (w : World) (h0 : 0 ≤ v) (h1 : v ≤ 255) (hn : NumAt w mb pb ns) :
    Calls Try.prog 109 #[.int .i64 v, .pointer (some ⟨pb, 0, none⟩)] w fun e w' => e = .returned (.int .i64 (posN v (numStep ns v))) ∧ NumAt w' mb pb (numStep ns v) ∧ Keep (fun b => b ≠ mb) w w' := by
  have HN := hide hn
  have hcl : w.cell? ⟨pb, 0, none⟩ = some (.map (some mb)) := by simp [World.cell?, hn.cell]
  have hlt : mb < w.heap.size := hn.map.lt
  have hlen := hn.len
  have hpl := posN_le v ns
  clear hn
  go_enter Try.func109, Try.ntmps109
  by_cases hv : v ∈ ns
  · have HF := hide (show numF ns v = some (.int .i64 (posN v ns)) by simp [numF, hv])
    have HS := hide (show numStep ns v = ns by simp [numStep, hv])
    clear hv
    go_wp2_with (at_lookup; refine look_pl rfl _ _ 121 rfl Try.underlying3 Try.underlying121 (zeroInt _) mb (numF ns) rfl HN.out.map v rfl (by omega) (by omega) ?_; rw [HF.out])
    go_ret
    exact ⟨by rw [HS.out]; rfl, by rw [HS.out]; exact HN.out, Keep.refl _ _⟩
  · have HF := hide (show numF ns v = none by simp [numF, hv])
    have HS := hide (numF_step hv)
    have HP := hide (show posN v (numStep ns v) = ns.length by simp [numStep, hv, posN_new hv])
    obtain ⟨es, clock, hes, hsz⟩ := HN.out.map.count HN.out.nodup (fun x => by
      simp only [numF]
      constructor
      · intro h; exact ⟨_, by rw [if_pos h]⟩
      · rintro ⟨u, hu⟩
        split at hu
        · assumption
        · cases hu)
    have hrun : (Builtin.len_ #[121] 3 #[.map (some mb)]).run Try.prog w = .ok (.int .i64 (ns.length : Int)) w := by
      rw [← hsz]; exact _root_.Go.run_len_map _ _ _ mb es clock (by kernel_rfl) hes
    clear hsz hes
    clear hv
    go_wp2_with (first | (at_lookup; refine look_pl rfl _ _ 121 rfl Try.underlying3 Try.underlying121 (zeroInt _) mb (numF ns) rfl HN.out.map v rfl (by omega) (by omega) ?_; rw [HF.out]) | (at_mapUpdate; refine store_pl rfl _ _ _ 121 rfl Try.underlying3 Try.underlying121 mb (numF ns) rfl HN.out.map v rfl (by omega) (by omega) (.int .i64 (ns.length : Int)) rfl ?_; intro W9 hm9 hk9))
    go_ret
    rw [HS.out] at hm9
    exact ⟨by rw [HP.out]; rfl, ⟨hk9.obj HN.out.ne HN.out.cell, hm9, numStep_nodup HN.out.nodup, fun x hx => (mem_numStep.1 hx).elim (HN.out.rng x) fun e => by subst e; exact ⟨h0, h1⟩, HN.out.ne⟩, hk9⟩
end Go.Proofs.Ythplndalbfcbbaa
set_option linter.unusedSimpArgs false
set_option linter.unusedVariables false
namespace Go.Proofs.Ythplndalbfcbbaa
open Go.RowKit
mutual
def numT (ns : List Int) : Tm → List Int
  | .node h l => if h < 0 then numStep ns (-1 - h) else numL ns l
def numL (ns : List Int) : List Tm → List Int
  | [] => ns
  | t :: ts => numL (numT ns t) ts
end
mutual
def renT (ns : List Int) : Tm → Tm
  | .node h l => if h < 0 then .node (-1 - (posN (-1 - h) (numStep ns (-1 - h)) : Int)) [] else .node h (renL ns l)
def renL (ns : List Int) : List Tm → List Tm
  | [] => []
  | t :: ts => renT ns t :: renL (numT ns t) ts
end
theorem renT_neg (ns : List Int) (t : Tm) (h : t.h < 0) : renT ns t = .node (-1 - (posN (-1 - t.h) (numStep ns (-1 - t.h)) : Int)) [] ∧ numT ns t = numStep ns (-1 - t.h) := by
  cases t; simp only [Tm.h] at h ⊢; rw [renT, numT, if_pos h, if_pos h]; exact ⟨rfl, rfl⟩
theorem renT_pos (ns : List Int) (t : Tm) (h : ¬ t.h < 0) : renT ns t = .node t.h (renL ns t.args) ∧ numT ns t = numL ns t.args := by
  cases t; simp only [Tm.h, Tm.args] at h ⊢; rw [renT, numT, if_neg h, if_neg h]; exact ⟨rfl, rfl⟩
theorem renL_length : ∀ (ns : List Int) (l : List Tm), (renL ns l).length = l.length
  | _, [] => rfl
  | ns, t :: ts => by simp [renL, renL_length _ ts]
theorem numL_take : ∀ (ns : List Int) (l : List Tm) (k : Nat) (hk : k < l.length), numL ns (l.take (k + 1)) = numT (numL ns (l.take k)) l[k]
  | _, [], _, hk => by simp at hk
  | ns, t :: ts, 0, _ => by simp [numL]
  | ns, t :: ts, k + 1, hk => by
    simp only [List.take_succ_cons, numL, List.getElem_cons_succ]
    exact numL_take _ ts k (by simpa using hk)
theorem renL_take : ∀ (ns : List Int) (l : List Tm) (k : Nat) (hk : k < l.length), (renL ns l).take (k + 1) = (renL ns l).take k ++ [renT (numL ns (l.take k)) l[k]]
  | _, [], _, hk => by simp at hk
  | ns, t :: ts, 0, _ => by simp [renL, numL]
  | ns, t :: ts, k + 1, hk => by
    simp only [renL, List.take_succ_cons, List.cons_append, numL, List.getElem_cons_succ]
    rw [renL_take _ ts k (by simpa using hk)]
def KB (mb : Nat) (w w' : World) : Prop := Keep (fun b => b ≠ mb ∧ b < w.heap.size) w w'
theorem KB.of_below {mb : Nat} {w w' : World} (h : Below w.heap.size w w') : KB mb w w' := Keep.of_below h
theorem KB.more {mb : Nat} {w w1 w2 : World} (h : KB mb w w1) (k : Keep (fun b => b ≠ mb) w1 w2) : KB mb w w2 := Keep.trans h (k.mono fun _ _ h => h.1)
theorem KB.out {mb : Nat} {w w1 : World} (h : KB mb w w1) : Keep (fun b => b ≠ mb) w w1 := Keep.mono h fun _ hb hn => ⟨hn, hb⟩
theorem keep_alloc {S : Nat → Prop} (w : World) (o : Obj) : Keep S w (w.alloc o) := .of_below ((Below.refl _ _).alloc (Nat.le_refl _) o)
theorem box1 {w : World} {b : Nat} {x : Value} {t : TypeId} (h : w.heap[b]? = some (.cells #[x] t (0, 0))) : b < w.heap.size ∧ w.cell? ⟨b, 0, none⟩ = some x ∧ w.frozen? ⟨b, 0, none⟩ = false :=
  ⟨(Array.getElem?_eq_some_iff.1 h).1, by simp [World.cell?, h], by simp [World.frozen?, h]⟩
structure BuildK (mb pb : Nat) (ns : List Int) (A : Nat → Prop) (w W : World) (bo base e : Nat) (bt : TypeId) (h : Int) (v : Value) (ds : List D) : Prop where
  keep : KB mb w W
  box : W.heap[bo]? = some (.cells #[.int .i64 h, v] bt (0, 0))
  own : OwnD (fun b => A b ∨ b = bo) W base e 2 v ds
  old : w.heap.size ≤ bo
  lt : bo < base
  base : base ≤ W.heap.size
  am : A mb
  ml : mb < w.heap.size
  pl : pb < w.heap.size
  num : NumAt W mb pb ns
section
variable {mb pb : Nat} {ns : List Int} {A : Nat → Prop} {w W W' : World} {bo base e : Nat} {bt : TypeId} {h : Int} {v : Value} {ds : List D}
theorem BuildK.ownlt (hb : BuildK mb pb ns A w W bo base e bt h v ds) : ∀ b, v.ownBlock = some b → base ≤ b ∧ b < W.heap.size := hb.own.lt
theorem BuildK.later (hb : BuildK mb pb ns A w W bo base e bt h v ds) (hB : Keep (fun b => b ≠ mb) W W') {ns' : List Int} (hn : NumAt W' mb pb ns') : BuildK mb pb ns' A w W' bo base e bt h v ds :=
  ⟨hb.keep.more hB, hB.obj (fun e => by have := hb.old; have := hb.ml; omega) hb.box, hb.own.keep hB (fun b _ hb' e => hb' (.inl (e ▸ hb.am))) (fun b hb' e => by have := (hb.ownlt b hb').1; have := hb.lt; have := hb.old; have := hb.ml; omega), hb.old, hb.lt, Nat.le_trans hb.base hB.size, hb.am, hb.ml, hb.pl, hn⟩
theorem BuildK.step {v' : Value} {d : D} (hb : BuildK mb pb ns A w W bo base e bt h v ds) (hk : Keep (fun b => v.ownBlock ≠ some b) W W') (ho : OwnD (fun b => A b ∨ b = bo) W' base e 2 v' (ds ++ [d])) :
    BuildK mb pb ns A w (W'.setCell ⟨bo, 1, none⟩ v') bo base e bt h v' (ds ++ [d]) := by
  have hbo : v.ownBlock ≠ some bo := fun e => by have := hb.ownlt bo e; have := hb.lt; omega
  have hlt := hb.lt
  have hold := hb.old
  have hml := hb.ml
  have hpl := hb.pl
  have hkk : Keep (fun b => b < bo) W (W'.setCell ⟨bo, 1, none⟩ v') := (hk.mono (fun b _ hb' e => by have := hb.ownlt b e; omega)).setCell (p := ⟨bo, 1, none⟩) (by simp) v'
  refine ⟨?_, box2_set1 (hk.obj hbo hb.box) v', ?_, hb.old, hb.lt, Nat.le_trans hb.base (by simpa [World.setCell] using hk.size), hb.am, hb.ml, hb.pl, hb.num.keep hkk (by omega) (by omega)⟩
  · exact Keep.trans hb.keep (hkk.mono fun b _ h => by have := h.2; omega)
  · refine ho.keep (S := fun b => b ≠ bo) ((Keep.refl _ _).setCell (p := ⟨bo, 1, none⟩) (by simp) v') (fun b _ hb' e => hb' (.inr e)) (fun b hb' e => ?_)
    have := ho.lt b hb'
    omega
theorem BuildK.grow (hb : BuildK mb pb ns A w W bo base e bt h v ds) (hk : Keep (fun b => v.ownBlock ≠ some b) W W') : Below base W W' :=
  hk.below (fun b hb' e => by have := hb.ownlt b e; omega) hb.base
theorem BuildK.terms {ts : List Tm} (hb : BuildK mb pb ns A w W bo base e bt h v (ts.map Tm.d)) (hA : ∀ b, A b → b < base) : Terms A W v ts := by
  have h1 := hb.lt
  refine (hb.own.terms (fun b h => ?_)).bar fun b _ h => .inl h
  rcases h with h | h
  · exact hA b h
  · omega
end
theorem IsTm.keep9 {A S : Nat → Prop} {w w' : World} {x : Int} {s : Value} {t : Tm} (h : IsTm A w x s t) (hk : Keep S w w') (hS : ∀ b, b < w.heap.size → ¬ A b → S b) : IsTm A w' x s t := ⟨h.1, Terms.keep h.2 hk hS⟩
def renV (pb : Nat) : Value := .func (.func 109) #[] #[.pointer (some ⟨pb, 0, none⟩)]
def RenPost (mb pb : Nat) (A : Nat → Prop) (ns : List Int) (t : Tm) (w : World) (e : Ending) (w' : World) : Prop :=
  ∃ s', e = .returned (.agg #[.int .i64 (renT ns t).h, s']) ∧ IsTm A w' (renT ns t).h s' (renT ns t) ∧ NumAt w' mb pb (numT ns t) ∧ Keep (fun b => b ≠ mb) w w'
set_option maxHeartbeats 4000000 in
set_option maxRecDepth 100000 in
theorem ren_calls (mb pb : Nat) (Ai : Nat → Prop) (hAi : Ai mb) (n0 : Nat) : ∀ (t : Tm) (ns : List Int) (A : Nat → Prop) (h : Int) (s : Value) (w : World), t.size ≤ n0 → (∀ b, A b → b < w.heap.size) → A mb → t.good = true → NumAt w mb pb ns → IsTm Ai w h s t →
    Calls Try.prog 110 #[.agg #[renV pb], .agg #[.int .i64 h, s]] w fun e w' => RenPost mb pb A ns t w e w' := by
  induction n0 with
  | zero => intro t; cases t; intro ns A h s w ht; simp [Tm.size] at ht
  | succ n0 ih =>
    rintro t ns A h s w ht hA hAm hgood hnum hs
    obtain ⟨rfl, a, c, rfl, hlc, hc⟩ := hs.shape
    obtain ⟨hh, hl8, hkids⟩ := good_args hgood
    have hsz := hide t.size_eq
    have hl : t.args.length ≤ 9223372036854775807 := by omega
    have HN := hide hnum
    have hml : mb < w.heap.size := hA _ hAm
    have hpl : pb < w.heap.size := (Array.getElem?_eq_some_iff.1 hnum.cell).1
    clear hnum
    go_enter Try.func110, Try.ntmps110
    refine seq_cut (fun a' w' => a' = { tmps := #[.agg #[renV pb], .agg #[.int .i64 t.h, .slice a t.args.length c], .pointer (some ⟨w.heap.size, 0, none⟩), .pointer (some ⟨w.heap.size + 1, 0, none⟩), .pointer (some ⟨w.heap.size + 2, 0, none⟩), undef, undef, undef, undef, undef, undef, undef, undef, undef, undef, undef, undef, undef, undef, undef, undef, undef, undef, undef, undef, undef, undef, undef, undef, undef, undef, undef, undef, undef, undef, undef, undef, undef, undef], defers := [] } ∧ w' = ((w.alloc (.cells #[renV pb] 125)).alloc (.cells #[.int .i64 t.h, .slice a t.args.length c] 25)).alloc (.cells #[.int .i64 0, .slice none 0 0] 25)) ?_ ?_
    · unfold renV
      go_wp2
      first | done | exact ⟨rfl, rfl⟩ | exact ⟨trivial, trivial⟩
    rintro _ W ⟨rfl, HW⟩
    have hWa : W = allocs w [.cells #[renV pb] 125, .cells #[.int .i64 t.h, .slice a t.args.length c] 25, .cells #[.int .i64 0, .slice none 0 0] 25] := HW
    have hB : Below w.heap.size w W := by rw [hWa]; exact allocs_below _ _
    have hsW : W.heap.size = w.heap.size + 3 := by rw [hWa]; exact allocs_size _ _
    have b9 : W.heap[w.heap.size]? = some (.cells #[renV pb] 125 (0, 0)) := by rw [hWa]; exact allocs_get _ _ 0 _ rfl
    have b0 : W.heap[w.heap.size + 1]? = some (.cells #[.int .i64 t.h, .slice a t.args.length c] 25 (0, 0)) := by rw [hWa]; exact allocs_get _ _ 1 _ rfl
    have b1 : W.heap[w.heap.size + 2]? = some (.cells #[.int .i64 0, .slice none 0 0] 25 (0, 0)) := by rw [hWa]; exact allocs_get _ _ 2 _ rfl
    clear HW hWa
    have HsW := hide hsW
    clear hsW
    obtain ⟨-, z0, z1, -, -⟩ := box2 b0
    obtain ⟨-, z9, -⟩ := box1 b9
    have HN1 := hide (HN.out.below hB)
    by_cases hneg : t.h < 0
    · have HP := hide (renT_neg ns t hneg)
      unfold renV at z9 ⊢
      go_wp2_with fail
      refine (num_calls mb pb (-1 - t.h) ns W (by omega) (by omega) HN1.out).mono ?_
      rintro e w1 ⟨rfl, hn1, h1⟩
      have hns : ∀ {k : Nat}, k < 3 → w.heap.size + k ≠ mb := fun _ e => by omega
      have b1' := h1.obj (hns (k := 2) (by omega)) b1
      obtain ⟨-, y0, y1, y2, y3⟩ := box2 b1'
      have HPL := hide (posN_le (-1 - t.h) (numStep ns (-1 - t.h)))
      have HNL := hide hn1.len
      have hB1 : KB mb w w1 := (KB.of_below hB).more h1
      generalize hpp : posN (-1 - t.h) (numStep ns (-1 - t.h)) = pp at HP HPL ⊢
      have hp256 : pp ≤ 256 := Nat.le_trans HPL.out HNL.out
      obtain ⟨-, q0, q1, -, -⟩ := box2 (box2_set b1' (.int .i64 (-1 - (pp : Int))) (.slice none 0 0))
      have hke : Keep (fun b => b ≠ w.heap.size + 2) w1 ((w1.setCell ⟨w.heap.size + 2, 0, none⟩ (.int .i64 (-1 - (pp : Int)))).setCell ⟨w.heap.size + 2, 1, none⟩ (.slice none 0 0)) := ((Keep.refl _ w1).setCell (p := ⟨w.heap.size + 2, 0, none⟩) (by simp) _).setCell (p := ⟨w.heap.size + 2, 1, none⟩) (by simp) _
      have HR : Hid (RenPost mb pb A ns t w (.returned (.agg #[.int .i64 (-1 - (pp : Int)), .slice none 0 0])) ((w1.setCell ⟨w.heap.size + 2, 0, none⟩ (.int .i64 (-1 - (pp : Int)))).setCell ⟨w.heap.size + 2, 1, none⟩ (.slice none 0 0))) := by
        refine hide ?_
        unfold RenPost
        rw [HP.out.1, HP.out.2]
        exact ⟨_, rfl, ⟨rfl, Terms.nil _ _⟩, hn1.keep hke (by omega) (by omega), KB.out (Keep.trans hB1 (hke.mono fun b _ h => by have := h.2; omega))⟩
      clear z0 z1 z9 b0 b1 b9 hpp hke
      go_wp2
      exact bodyPost_ret (v := .agg #[.int .i64 (-1 - (pp : Int)), .slice none 0 0]) (by simp [results, Try.results110, go_sem, q0, q1]) rfl HR.out
    · have HP := hide (renT_pos ns t hneg)
      have hl2 : (renL ns t.args).length = t.args.length := renL_length _ _
      have HL2 := hide hl2
      clear hl2
      have hlt0 : w.heap.size + 1 < W.heap.size := by have := HsW.out; omega
      go_wp2
      go_loopw [25] (fun i wr => ∃ k v, k ≤ t.args.length ∧ i = .int .i64 k ∧ BuildK mb pb (numL ns (t.args.take k)) (fun b => A b ∨ b = w.heap.size + 2) w wr W.heap.size (W.heap.size + 1) 25 25 t.h v (((renL ns t.args).take k).map Tm.d) ∧ wr.heap[w.heap.size]? = some (.cells #[renV pb] 125 (0, 0)) ∧ wr.heap[w.heap.size + 1]? = some (.cells #[.int .i64 t.h, .slice a t.args.length c] 25 (0, 0)) ∧ wr.heap[w.heap.size + 2]? = some (.cells #[.int .i64 0, .slice none 0 0] 25 (0, 0))) (fun i _ => t.args.length - (intOf i).toNat)
      case atStart =>
        have := HsW.out
        exact ⟨0, .slice none 0 0, by omega, rfl, ⟨KB.of_below (hB.alloc hB.size _), World.alloc_heap_new _ _, OwnD.nil _ _ _ _ _, by omega, by omega, by simp, .inl hAm, hml, hpl, HN1.out.keep (keep_alloc (S := fun _ => True) _ _) trivial trivial⟩, (Below.heap_alloc _ _ _ (by omega)).trans b9, (Below.heap_alloc _ _ _ (by omega)).trans b0, (Below.heap_alloc _ _ _ (by omega)).trans b1⟩
      case round =>
        obtain ⟨k, v, hk, rfl, hbd, x9, x0, x1⟩ := hrel
        obtain ⟨xw, y0, y1, -, -⟩ := box2 x0
        by_cases hlt : k < t.args.length
        · obtain ⟨b, off, a', c', rfl, hbs, hbA, g0, g1, g2⟩ := hs.2.get k hlt
          have hbm : b ≠ mb := fun e => hbA (e ▸ hAi)
          have hts : t.args[k].size ≤ n0 := by have := hsz.out; have := Tm.size_get t.args k hlt; omega
          have hkg := hkids k hlt
          have hlenk : (((renL ns t.args).take k).map Tm.d).length = k := by have := HL2.out; simp; omega
          have HLK := hide hlenk
          obtain ⟨av, cv, hv⟩ := hbd.own.shape
          rw [hlenk] at hv
          clear hlenk
          have HSW := hide HsW.out
          have l0 := (Keep.cell hbd.keep (p := ⟨b, off + k * 2, none⟩) ⟨hbm, hbs⟩ g0)
          have l1 := (Keep.cell hbd.keep (p := ⟨b, off + k * 2 + 1, none⟩) ⟨hbm, hbs⟩ g1)
          subst hv
          clear g0 g1 y0 y1
          go_wp2
          have hal : Keep (fun b => b ≠ mb) wr (wr.alloc (.cells #[.int .i64 t.args[k].h, .slice a' t.args[k].args.length c'] 25)) := keep_alloc _ _
          have hbA := hbd.later hal (hbd.num.keep (keep_alloc (S := fun _ => True) _ _) trivial trivial)
          have heb : (wr.alloc (.cells #[.int .i64 t.args[k].h, .slice a' t.args[k].args.length c'] 25)).heap[wr.heap.size]? = some (.cells #[.int .i64 t.args[k].h, .slice a' t.args[k].args.length c'] 25 (0, 0)) := World.alloc_heap_new _ _
          have hmw : ∀ {k : Nat}, w.heap.size + k ≠ mb := fun e => by omega
          have xA9 := hal.obj (hmw (k := 0)) x9
          have xA0 := hal.obj (hmw (k := 1)) x0
          have xA1 := hal.obj (hmw (k := 2)) x1
          have hown : ∀ c, (Value.slice av k cv).ownBlock = some c → W.heap.size + 1 ≤ c ∧ c < wr.heap.size := hbd.ownlt
          have hwb : W.heap.size + 1 ≤ wr.heap.size := hbd.base
          generalize (wr.alloc (.cells #[.int .i64 t.args[k].h, .slice a' t.args[k].args.length c'] 25)) = WA at *
          clear hbd x9 x0 x1 l0 l1 hal
          obtain ⟨-, u0, u1, u2, u3⟩ := box2 hbA.box
          obtain ⟨heA, i0, i1, -, -⟩ := box2 heb
          have CL : ∀ W' : World, W'.heap[w.heap.size]? = some (.cells #[renV pb] 125 (0, 0)) → W'.heap[wr.heap.size]? = some (.cells #[.int .i64 t.args[k].h, .slice a' t.args[k].args.length c'] 25 (0, 0)) → W'.cell? ⟨w.heap.size, 0, none⟩ = some (renV pb) ∧ W'.cell? ⟨wr.heap.size, 0, none⟩ = some (.int .i64 t.args[k].h) ∧ W'.cell? ⟨wr.heap.size, 1, none⟩ = some (.slice a' t.args[k].args.length c') := by
            intro W' h1 h2
            obtain ⟨-, h3, h4, -, -⟩ := box2 h2
            exact ⟨(box1 h1).2.1, h3, h4⟩
          refine drawn_until (fun W' => W'.cell? ⟨w.heap.size, 0, none⟩ = some (renV pb) ∧ W'.cell? ⟨wr.heap.size, 0, none⟩ = some (.int .i64 t.args[k].h) ∧ W'.cell? ⟨wr.heap.size, 1, none⟩ = some (.slice a' t.args[k].args.length c'))
            (fun W' => W'.cell? ⟨W.heap.size, 1, none⟩ = some (.slice av k cv)) 6 [(0, 0), (1, 1), (2, 0), (3, 0), (4, 2), (5, 2), (6, 3), (7, 0), (8, 3)] (by kernel_rfl) (by kernel_rfl) (by kernel_rfl) (by kernel_rfl) (fun _ _ _ _ _ h => h) (CL _ xA9 heb) u1 ?_
          iterate 1 (refine v_take (v := ?_) rfl (by rfl) ?_ ?_; rotate_left; (intro w hS; obtain ⟨hS0, hS1, hS2⟩ := hS; go_simp; try with_reducible rfl); simp only [Act.put, List.setIfInBounds_toArray, List.set_cons_zero, List.set_cons_succ])
          iterate 1 (refine v_takeD (v := ?_) rfl (by rfl) ?_ ?_; rotate_left; (intro w hS; obtain ⟨-, hS1⟩ := hS; go_simp; try with_reducible rfl); simp only [Act.put, List.setIfInBounds_toArray, List.set_cons_zero, List.set_cons_succ])
          iterate 2 (refine v_take (v := ?_) rfl (by rfl) ?_ ?_; rotate_left; (intro w hS; obtain ⟨hS0, hS1, hS2⟩ := hS; go_simp; try with_reducible rfl); simp only [Act.put, List.setIfInBounds_toArray, List.set_cons_zero, List.set_cons_succ])
          refine v_do2 rfl (by rfl) ?_
          intro K hK
          go_simp
          refine (ih t.args[k] (numL ns (t.args.take k)) (fun b => ((A b ∨ b = w.heap.size + 2) ∨ b = W.heap.size) ∨ (Value.slice av k cv).ownBlock = some b) _ _ _ hts (fun b hb => ?_) (.inl (.inl (.inl hAm))) hkg (hbA.num.keep (S := fun _ => True) ((Keep.refl _ _).drew) trivial trivial) (IsTm.keep9 (S := fun b => b ≠ mb ∧ b < w.heap.size) (⟨rfl, g2⟩ : IsTm Ai w _ _ _) (Keep.drew hbA.keep) (fun b hb h => ⟨fun e => h (e ▸ hAi), hb⟩))).mono ?_
          · have := HSW.out
            show b < WA.heap.size
            rcases hb with ((hb | hb) | hb) | hb
            · have := hA b hb; omega
            · omega
            · omega
            · have := hown b hb; omega
          rintro e w1 ⟨s1, rfl, hT, hn1, h1⟩
          obtain ⟨-, a1, c1, hs1, -, -⟩ := hT.shape
          subst hs1
          have h1' : Keep (fun b => b ≠ mb) WA w1 := ((Keep.refl _ WA).drew).trans h1
          clear h1
          have hbd1 := hbA.later h1' hn1
          obtain ⟨-, v0, v1, -, -⟩ := box2 hbd1.box
          have hba : W.heap.size + 1 ≤ w1.heap.size := hbd1.base
          have he1 := h1'.obj (fun e => by have := HSW.out; omega) heb
          have x91 := h1'.obj (hmw (k := 0)) xA9
          have hl1 := h1'.size
          refine hK.out _ _ (CL _ x91 he1) v1 ?_
          clear hK K
          refine v_do2 rfl (by rfl) ?_
          intro K hK
          go_simp
          refine hK.out _ _ (CL _ ((Below.heap_alloc _ _ _ (by omega)).trans x91) ((Below.heap_alloc _ _ _ (by omega)).trans he1)) ((World.cell?_alloc_lt _ _ _ (by show W.heap.size < _; omega)).trans v1) ?_
          clear hK K
          refine v_do3 rfl (by rfl) ?_
          intro K hK
          refine app_op (.tmp 30) (.tmp 34) 23 rfl (W.heap.size + 1) 25 (.agg #[.int .i64 0, .slice none 0 0]) 32 Try.underlying23 (by kernel_rfl) rfl (v := .slice av k cv) (d := (renT (numL ns (t.args.take k)) t.args[k]).d) rfl rfl hbd1.own (repTm.2 ⟨_, rfl, hT.2⟩) rfl rfl (by rw [HLK.out]; unfold maxLen; omega) (by rw [HLK.out]; omega) hba ?_
          intro v' w2 o1 k1 o2
          obtain ⟨av', cv', o2⟩ := o2
          rw [HLK.out] at o2
          subst o2
          have he2 := k1.obj (fun e => by have := hown _ e; omega) he1
          have x92 := k1.obj (fun e => by have := hown _ e; omega) x91
          have hbd2 := hbd1.step k1 o1
          obtain ⟨-, -, v3, -, v4⟩ := box2 (k1.obj (fun e => by have := hown _ e; omega) hbd1.box)
          refine hK.out _ _ (CL _ x92 he2) ?_
          clear hK K
          iterate 1 (refine v_take (v := ?_) rfl (by rfl) ?_ ?_; rotate_left; (intro w hS; obtain ⟨hS0, hS1, hS2⟩ := hS; go_simp; try with_reducible rfl); simp only [Act.put, List.setIfInBounds_toArray, List.set_cons_zero, List.set_cons_succ])
          refine v_do3 rfl (by rfl) ?_
          intro K hK
          go_simp
          refine hK.out _ _ (CL _ ((Below.heap_setCell _ _ _ _ (by show w.heap.size ≠ W.heap.size; omega)).trans x92) ((Below.heap_setCell _ _ _ _ (by show wr.heap.size ≠ W.heap.size; omega)).trans he2)) ?_
          clear hK K CL
          refine v_done ?_
          have hds : ((renL ns t.args).take k).map Tm.d ++ [(renT (numL ns (t.args.take k)) t.args[k]).d] = ((renL ns t.args).take (k + 1)).map Tm.d := by
            rw [renL_take _ _ k hlt]; simp
          rw [hds, ← numL_take ns t.args k hlt] at hbd2
          have hk12 : ∀ c, c ≠ mb → c < W.heap.size + 1 → ∀ o, WA.heap[c]? = some o → w2.heap[c]? = some o := fun c hcm hc o ho => ((hbd1.grow k1).block c hc).trans (h1'.obj hcm ho)
          have x9' : (w2.setCell ⟨W.heap.size, 1, none⟩ (.slice av' (k + 1) cv')).heap[w.heap.size]? = _ := (Below.heap_setCell _ _ _ _ (by show w.heap.size ≠ W.heap.size; have := HSW.out; omega)).trans ((hk12 _ (hmw (k := 0)) (by have := HSW.out; omega) _ xA9))
          have x0' : (w2.setCell ⟨W.heap.size, 1, none⟩ (.slice av' (k + 1) cv')).heap[w.heap.size + 1]? = _ := (Below.heap_setCell _ _ _ _ (by show w.heap.size + 1 ≠ W.heap.size; have := HSW.out; omega)).trans ((hk12 _ (hmw (k := 1)) (by have := HSW.out; omega) _ xA0))
          have x1' : (w2.setCell ⟨W.heap.size, 1, none⟩ (.slice av' (k + 1) cv')).heap[w.heap.size + 2]? = _ := (Below.heap_setCell _ _ _ _ (by show w.heap.size + 2 ≠ W.heap.size; have := HSW.out; omega)).trans ((hk12 _ (hmw (k := 2)) (by have := HSW.out; omega) _ xA1))
          clear hds v3 v4 v0 v1 u0 u1 u2 u3 i0 i1
          go_wp2
          go_roundw
          case rel => exact ⟨k + 1, _, by omega, by go_num, hbd2, x9', x0', x1'⟩
          case measure => simp [intOf]; omega
        · have hk2 : k = t.args.length := by omega
          have HT := hide (show Terms (fun b => A b ∨ b = w.heap.size + 2) wr v (renT ns t).args by
            rw [HP.out.1]
            have h9 := hbd.terms (fun b h => by have := HsW.out; rcases h with h | h; (have := hA b h; omega); omega)
            rwa [List.take_of_length_le (by rw [HL2.out]; omega)] at h9)
          have HNN := hide (show NumAt wr mb pb (numT ns t) by
            rw [HP.out.2]
            have h9 := hbd.num
            rwa [List.take_of_length_le (by omega)] at h9)
          have hlenk : (((renL ns t.args).take k).map Tm.d).length = k := by have := HL2.out; simp; omega
          obtain ⟨av, cv, hv⟩ := hbd.own.shape
          rw [hlenk] at hv
          subst hv
          obtain ⟨-, u0, u1, u2, u3⟩ := box2 hbd.box
          obtain ⟨-, q0, q1, q2, q3⟩ := box2 x1
          have hke : Keep (fun b => b ≠ w.heap.size + 2) wr ((wr.setCell ⟨w.heap.size + 2, 0, none⟩ (.int .i64 t.h)).setCell ⟨w.heap.size + 2, 1, none⟩ (.slice av k cv)) := ((Keep.refl _ wr).setCell (p := ⟨w.heap.size + 2, 0, none⟩) (by simp) (.int .i64 t.h)).setCell (p := ⟨w.heap.size + 2, 1, none⟩) (by simp) (.slice av k cv)
          have hTe := HT.out.keep (S := fun b => b ≠ w.heap.size + 2) hke (fun b _ hb' e => hb' (.inr e))
          obtain ⟨-, r0, r1, -, -⟩ := box2 (box2_set x1 (.int .i64 t.h) (.slice av k cv))
          have HR : Hid (RenPost mb pb A ns t w (.returned (.agg #[.int .i64 t.h, .slice av k cv])) ((wr.setCell ⟨w.heap.size + 2, 0, none⟩ (.int .i64 t.h)).setCell ⟨w.heap.size + 2, 1, none⟩ (.slice av k cv))) := by
            refine hide ?_
            have hth : (renT ns t).h = t.h := by rw [HP.out.1]; rfl
            exact ⟨_, by rw [hth], ⟨rfl, hTe.bar (fun _ _ h => .inl h)⟩, HNN.out.keep hke (by omega) (by omega), KB.out (Keep.trans hbd.keep (hke.mono fun b _ h => by have := h.2; omega))⟩
          clear hk2 hlenk hke
          go_wp2
          exact bodyPost_ret (v := .agg #[.int .i64 t.h, .slice av k cv]) (by simp [results, Try.results110, go_sem, r0, r1]) rfl HR.out
end Go.Proofs.Ythplndalbfcbbaa
set_option linter.unusedSimpArgs false
set_option linter.unusedVariables false
namespace Go.Proofs.Ythplndalbfcbbaa
open Go.RowKit
theorem MapAt.made0 (W : World) : MapAt (W.alloc (.map #[] 0)) W.heap.size (numF []) :=
  (MapEnv.made (A := fun _ => False) W).elim fun F h => by
    have e : F = numF [] := by
      funext x
      rw [(h.2 x).1 rfl]; simp [numF]
    rw [← e]; exact h.1
theorem goods_get : ∀ {l : List Tm}, Tm.goods l = true → ∀ k (hk : k < l.length), l[k].good = true
  | [], _, _, hk => by simp at hk
  | t :: ts, h, k, hk => by
    simp only [Tm.goods, Bool.and_eq_true] at h
    cases k with
    | zero => exact h.1
    | succ k => exact goods_get h.2 k (by simpa using hk)
theorem Terms.rowD {A : Nat → Prop} {w : World} {v : Value} {ts : List Tm} (h : Terms A w v ts) : RepD A w (.row 2 (ts.map Tm.d)) [v] := by rw [← Tm.ds_eq]; exact h
def normT (ts : List Tm) : List Tm × Int := if ts.all rightB then (renL [] ts, 0) else ([], 1)
set_option maxHeartbeats 8000000 in
set_option maxRecDepth 100000 in
theorem norm_calls (A Ai : Nat → Prop) (ts : List Tm) (s : Value) (w : World) (ht9 : Tm.sizes ts ≤ 1000000000) (hA : ∀ b, A b → b < w.heap.size) (hs : Terms Ai w s ts) :
    Calls Try.prog 51 #[s] w fun e w' => ∃ v, e = .returned (.tuple #[v, .int .i64 (normT ts).2]) ∧ Terms A w' v (normT ts).1 ∧ Below w.heap.size w w' := by
  obtain ⟨a1, d1, rfl, hd1, hd1'⟩ := hs.shape
  have HAO := hide hA
  have HTS := hide (fun t (h : t ∈ ts) => (by obtain ⟨i, hi, rfl⟩ := List.getElem_of_mem h; exact Nat.le_trans (Tm.size_get ts i hi) ht9 : t.size ≤ 1000000000))
  have hlen9 : ts.length ≤ 1000000000 := Nat.le_trans (Tm.sizes_length ts) ht9
  go_enter Try.func51, Try.ntmps51
  go_wp2_with fail
  refine (wrong_calls ts Ai _ _ hs HTS.out).mono ?_
  rintro e w1 ⟨rfl, B1⟩
  cases hpr : ts.all rightB
  · have HM := hide (show normT ts = ([], 1) by rw [normT, if_neg (by rw [hpr]; simp)])
    clear hpr
    simp only [Bool.not_false]
    go_wp2
    exact bodyPost_ret (v := .tuple #[.slice none 0 0, .int .i64 1]) (by simp [results, Try.results51, go_sem]) rfl ⟨_, by rw [HM.out], by rw [HM.out]; exact Terms.nil _ _, B1⟩
  have HM := hide (show normT ts = (renL [] ts, 0) by rw [normT, if_pos hpr])
  have HGO := hide (goods_of_right hpr)
  clear hpr
  simp only [Bool.not_true]
  have hmm := @run_makeMap Try.prog
  have hm1 : MapAt (w1.alloc (.map #[] 0)) w1.heap.size (numF []) := MapAt.made0 w1
  have hWL : Hid (∀ W, W = allocs w1 [.map #[] 0, .cells #[.map (some w1.heap.size)] 121, .cells #[renV (w1.heap.size + 1)] 125] → (w.heap.size ≤ w1.heap.size ∧ Below w.heap.size w W ∧ W.heap.size = w1.heap.size + 3 ∧ NumAt W w1.heap.size (w1.heap.size + 1) [] ∧ W.heap[w1.heap.size + 2]? = some (.cells #[renV (w1.heap.size + 1)] 125 (0, 0)))) := by
    refine hide ?_
    rintro W rfl
    refine ⟨B1.size, more_below B1 (allocs_below _ _), allocs_size _ _, ⟨allocs_get _ _ 1 _ rfl, ?_, by simp, by simp, by omega⟩, allocs_get _ _ 2 _ rfl⟩
    refine hm1.keep (S := fun _ => True) (Keep.trans (keep_alloc _ _) (keep_alloc _ _)) trivial
  have HB1 := hide B1.size
  clear hm1 B1
  unfold renV at hWL
  go_wp2
  obtain ⟨hw01, BW, hsW, hnW, hrW⟩ := hWL.out _ rfl
  have hWe : allocs w1 [.map #[] 0, .cells #[.map (some w1.heap.size)] 121, .cells #[.func (.func 109) #[] #[.pointer (some ⟨w1.heap.size + 1, 0, none⟩)]] 125] = ((w1.alloc (.map #[] 0)).alloc (.cells #[.map (some w1.heap.size)] 121)).alloc (.cells #[.func (.func 109) #[] #[.pointer (some ⟨w1.heap.size + 1, 0, none⟩)]] 125) := rfl
  rw [hWe] at BW hsW hnW hrW
  clear hWe hWL
  generalize ((w1.alloc (.map #[] 0)).alloc (.cells #[.map (some w1.heap.size)] 121)).alloc (.cells #[.func (.func 109) #[] #[.pointer (some ⟨w1.heap.size + 1, 0, none⟩)]] 125) = W at *
  have HSW := hide hsW
  have HBW := hide BW
  generalize w1.heap.size = mb at *
  clear hsW BW
  go_loopw [6, 16] (fun v i wr => ∃ k : Nat, k ≤ ts.length ∧ i = .int .i64 k ∧ Below w.heap.size w wr ∧ W.heap.size ≤ wr.heap.size ∧ NumAt wr mb (mb + 1) (numL [] (ts.take k)) ∧ wr.heap[mb + 1 + 1]? = some (.cells #[.func (.func 109) #[] #[.pointer (some ⟨mb + 1, 0, none⟩)]] 125 (0, 0)) ∧ OwnD (fun b => A b ∨ b = mb) wr W.heap.size 25 2 v (((renL [] ts).take k).map Tm.d)) (fun _ i _ => ts.length - (intOf i).toNat)
  case atStart => exact ⟨0, by omega, rfl, HBW.out, Nat.le_refl _, hnW, hrW, OwnD.nil _ _ _ _ _⟩
  case round =>
    obtain ⟨k, hk, rfl, hB, hlW, hN, hR, hO⟩ := hrel
    obtain ⟨hR0, hR1, -⟩ := box1 hR
    by_cases hlt : k < ts.length
    · obtain ⟨b, off, a', c', rfl, hbs, hbA, g0, g1, g2⟩ := hs.get k hlt
      have l0 := (hB.cell (p := ⟨b, off + k * 2, none⟩) hbs).trans g0
      have l1 := (hB.cell (p := ⟨b, off + k * 2 + 1, none⟩) hbs).trans g1
      have HTG := hide (goods_get HGO.out k hlt)
      have HTK := hide (HTS.out ts[k] (List.getElem_mem hlt))
      have hlenk : (((renL [] ts).take k).map Tm.d).length = k := by simp [renL_length]; omega
      have HLK := hide hlenk
      obtain ⟨av, cv, hv⟩ := hO.shape
      rw [hlenk] at hv
      subst hv
      clear hlenk g0 g1
      go_wp2_with fail
      have hal : Below wr.heap.size wr (wr.alloc (.cells #[.int .i64 ts[k].h, .slice a' ts[k].args.length c'] 25)) := (Below.refl _ _).alloc (Nat.le_refl _) _
      have hown : ∀ c, (Value.slice av k cv).ownBlock = some c → W.heap.size ≤ c ∧ c < wr.heap.size := hO.lt
      have hmbl : mb + 3 = W.heap.size := HSW.out.symm
      have hw0 : w.heap.size ≤ mb := hw01
      refine (ren_calls mb (mb + 1) (fun b => Ai b ∨ b = mb) (.inr rfl) ts[k].size ts[k] (numL [] (ts.take k)) (fun b => (A b ∨ b = mb) ∨ (Value.slice av k cv).ownBlock = some b) _ _ _ (Nat.le_refl _) (fun b hb => ?_) (.inl (.inr rfl)) HTG.out (hN.below hal) (IsTm.below (A := fun b => Ai b ∨ b = mb) (IsTm.bar (⟨rfl, g2⟩ : IsTm Ai w _ _ _) (fun b hb h => ?_)) (hB.trans (hal.mono (by omega))))).mono ?_
      · rw [World.size_alloc]
        rcases hb with (hb | hb) | hb
        · have := HAO.out b hb; omega
        · omega
        · have := hown b hb; omega
      · rcases h with h | h
        · exact h
        · omega
      rintro e w4 ⟨s4, rfl, hT, hN4, hk4⟩
      have hk5 : Keep (fun b => b ≠ mb) wr w4 := Keep.trans (keep_alloc _ _) hk4
      have HN4 := hide (show NumAt w4 mb (mb + 1) (numL [] (ts.take (k + 1))) by rw [numL_take _ _ _ hlt]; exact hN4)
      have HB4 := hide (hB.trans (hk5.below (B := w.heap.size) (fun b hb e => by omega) (by omega)))
      have HR4 := hide (hk5.obj (by omega) hR)
      have HO4 := hide (hO.keep hk5 (fun b _ hb' e => hb' (Or.inr e)) (fun b hb' e => by have := hown b hb'; omega))
      obtain ⟨-, a4, c4, rfl, -, -⟩ := hT.shape
      have hl4 : W.heap.size ≤ w4.heap.size := by have := hk5.size; omega
      clear hN hR hR0 hR1 hO hal hk4 hN4 l0 l1 hB hlW
      generalize hrt : renT (numL [] (ts.take k)) ts[k] = rt at *
      have HRT := hide (renL_take [] ts k hlt)
      rw [hrt] at HRT
      clear hrt
      have hal : Below w4.heap.size w4 (w4.alloc (.cells #[.int .i64 rt.h, .slice a4 rt.args.length c4] 25)) := (Below.refl _ _).alloc (Nat.le_refl _) _
      have HD := hide (show RepD (fun b => (A b ∨ b = mb) ∨ (Value.slice av k cv).ownBlock = some b) (w4.alloc (.cells #[.int .i64 rt.h, .slice a4 rt.args.length c4] 25)) (.row 2 ([rt].map Tm.d)) [.slice (some ⟨w4.heap.size, 0, none⟩) 1 1] from
        Terms.rowD (terms1 (t := rt) (World.alloc_heap_new _ _) (fun h => by
          rcases h with (h | h) | h
          · have := HAO.out _ h; omega
          · omega
          · have := hown _ h; have := hk5.size; omega) (hT.2.below hal)))
      have HO5 := hide (HO4.out.below hal)
      have HB5 := hide (HB4.out.trans (hal.mono HB4.out.size))
      have HN5 := hide (HN4.out.below hal)
      have HR5 := hide ((Below.heap_alloc w4 (.cells #[.int .i64 rt.h, .slice a4 rt.args.length c4] 25) _ (by omega)).trans HR4.out)
      have HLD := hide hlen9
      have hbase5 : W.heap.size ≤ (w4.alloc (.cells #[.int .i64 rt.h, .slice a4 rt.args.length c4] 25)).heap.size := by rw [World.size_alloc]; omega
      clear hal hT hk5 HB4 HN4 HR4 HO4
      go_wp2_with (at_builtin; refine app_all_pl rfl (.tmp 20) (.tmp 24) 23 rfl W.heap.size 25 (.agg #[.int .i64 0, .slice none 0 0]) 2 32 Try.underlying23 (by kernel_rfl) rfl (by decide) (v := .slice av k cv) (xv := .slice (some ⟨w4.heap.size, 0, none⟩) 1 1) rfl rfl HO5.out HD.out (fun d hd => by obtain ⟨z, -, rfl⟩ := List.mem_map.1 hd; exact Tm.oneD z) (by rw [HLK.out]; simp [maxLen]; omega) (by rw [HLK.out]; simp; omega) hbase5 ?_; intro v' w' o' kp ob hsh)
      have hkp : ∀ b, b < W.heap.size → (Value.slice av k cv).ownBlock ≠ some b := fun b hb e => by have := hown b e; omega
      go_roundw
      case rel =>
        refine ⟨k + 1, by omega, by go_num, HB5.out.trans (kp.below (fun b hb => hkp b (by omega)) HB5.out.size), Nat.le_trans hbase5 kp.size, HN5.out.keep kp (hkp _ (by omega)) (hkp _ (by omega)), kp.obj (hkp _ (by omega)) HR5.out, ?_⟩
        rw [HRT.out, List.map_append]; exact o'
      case measure => simp [intOf]; omega
    · obtain rfl : k = ts.length := by omega
      rw [List.take_of_length_le (by rw [renL_length]; omega)] at hO
      have hRs : Terms A wr u6 (renL [] ts) := (hO.terms (fun b h => by have := HSW.out; have := HAO.out b; rcases h with h | h; (have := HAO.out b h; omega); omega)).bar fun _ _ h => .inl h
      obtain ⟨ar, cr, rfl, -, -⟩ := hRs.shape
      clear hO hlt hk hN hR hR0 hR1
      go_wp2
      exact bodyPost_ret (v := .tuple #[.slice ar (renL [] ts).length cr, .int .i64 0]) (by simp [results, Try.results51, go_sem]) rfl ⟨_, by rw [HM.out], by rw [HM.out]; exact hRs, hB⟩
end Go.Proofs.Ythplndalbfcbbaa
set_option linter.unusedSimpArgs false
set_option linter.unusedVariables false
namespace Go.Proofs.Ythplndalbfcbbaa
open Go.RowKit
theorem numStep_pre (ns : List Int) (v : Int) : ∃ r, numStep ns v = ns ++ r := by
  unfold numStep
  split
  · exact ⟨[], by simp⟩
  · exact ⟨_, rfl⟩
mutual
theorem numT_pre : ∀ (t : Tm) (ns : List Int), ∃ r, numT ns t = ns ++ r
  | .node h l, ns => by
    simp only [numT]
    split
    · exact numStep_pre _ _
    · exact numL_pre l ns
theorem numL_pre : ∀ (l : List Tm) (ns : List Int), ∃ r, numL ns l = ns ++ r
  | [], ns => ⟨[], by simp [numL]⟩
  | t :: ts, ns => by
    obtain ⟨r, h⟩ := numT_pre t ns
    obtain ⟨r2, h2⟩ := numL_pre ts (numT ns t)
    exact ⟨r ++ r2, by rw [numL, h2, h]; simp⟩
end
mutual
theorem numT_nodup : ∀ (t : Tm) (ns : List Int), ns.Nodup → (numT ns t).Nodup
  | .node h l, ns, hn => by
    simp only [numT]
    split
    · exact numStep_nodup hn
    · exact numL_nodup l ns hn
theorem numL_nodup : ∀ (l : List Tm) (ns : List Int), ns.Nodup → (numL ns l).Nodup
  | [], ns, hn => hn
  | t :: ts, ns, hn => numL_nodup ts _ (numT_nodup t ns hn)
end
theorem posN_lt {v : Int} : ∀ {l : List Int}, v ∈ l → posN v l < l.length
  | [], h => by simp at h
  | x :: l, h => by
    simp only [posN, List.length_cons]
    split
    · omega
    · rename_i hx
      have := posN_lt ((List.mem_cons.1 h).resolve_left fun e => hx e.symm)
      omega
theorem mem_step (ns : List Int) (v : Int) : v ∈ numStep ns v := mem_numStep.2 (.inr rfl)
mutual
theorem num_heads : ∀ (t : Tm) (ns : List Int), t.good = true → numT ns t = t.heads.foldl vstep ns
  | .node h l, ns, hg => by
    simp only [numT, Tm.heads, List.foldl_cons]
    by_cases hn : h < 0
    · obtain rfl := good_var hg hn
      simp only [if_pos hn, Tm.headsL, List.foldl_nil, numStep, vstep]
      by_cases hv : (-1 - h) ∈ ns
      · rw [if_pos hv, if_neg (by simp [hv])]
      · rw [if_neg hv, if_pos ⟨hn, hv⟩]
    · simp only [Tm.good, Bool.and_eq_true] at hg
      simp only [if_neg hn]
      rw [show vstep ns h = ns by simp [vstep, hn], numL_heads l ns hg.2]
theorem numL_heads : ∀ (l : List Tm) (ns : List Int), Tm.goods l = true → numL ns l = (Tm.headsL l).foldl vstep ns
  | [], _, _ => rfl
  | t :: ts, ns, hg => by
    simp only [Tm.goods, Bool.and_eq_true] at hg
    simp only [numL, Tm.headsL, List.foldl_append]
    rw [num_heads t ns hg.1, numL_heads ts _ hg.2]
end
mutual
theorem renT_size : ∀ (t : Tm) (ns : List Int), (renT ns t).size ≤ t.size
  | .node h l, ns => by
    simp only [renT]
    split
    · simp only [Tm.size, Tm.sizes]; omega
    · simp only [Tm.size]
      have := renL_sizes l ns; omega
theorem renL_sizes : ∀ (l : List Tm) (ns : List Int), Tm.sizes (renL ns l) ≤ Tm.sizes l
  | [], _ => by simp [renL]
  | t :: ts, ns => by
    simp only [renL, Tm.sizes]
    have := renT_size t ns
    have := renL_sizes ts (numT ns t)
    omega
end
end Go.Proofs.Ythplndalbfcbbaa
