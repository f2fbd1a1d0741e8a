import Derived.Test.YtbolojjnkkgehaaRows
import Derived.Test.YtbolojjnkkgehaaFew
import Derived.Deep.Strs
import Derived.SizedLaws
import Derived.OpenShut
import Derived.Carry
/-! A graph that came in, opened. -/
namespace Go.Proofs.Ytbolojjnkkgehaa
open Go.ChangeShapes Go.WideShapes Go.RowKit

/-- Nothing in it is wider than the reach. -/
def Sml {H : Type} (d : DataW H) (t : TypeId) : Prop := ∀ n ∈ d.weights Try.prog t, n ≤ reachBytes

section
variable {H : Type} {enc : TypeId × Value → H} {W : World}

noncomputable abbrev TR (enc : TypeId × Value → H) (W : World) (n : Nat) (t : TypeId) (cs : List Value) : Option (DataW H × List MemPlace) := DataW.trod enc Try.prog W 0 (fun _ => true) true n t cs

theorem trod_float {t : TypeId} {n : Nat} {cs : List Value} {x : DataW H × List MemPlace} {k : FloatKind} (ht : Try.prog.underlying t = some (.float k)) (h : TR enc W n t cs = some x) : ∃ b, cs = [.float k b] ∧ (Lit.float k b).wf = true := by
  cases n with
  | zero => simp [TR, DataW.trod] at h
  | succ n =>
    unfold TR DataW.trod at h
    rw [ht] at h
    split at h <;> simp_all

theorem weightsAll_mem {t : TypeId} {d : DataW H} : ∀ {l : List (DataW H)}, d ∈ l → ∀ n ∈ d.weights Try.prog t, n ∈ DataW.weightsAll Try.prog t l
  | x :: l, hm, n, hn => by
    rw [DataW.weightsAll]
    rcases List.mem_cons.1 hm with rfl | hm
    · exact List.mem_append_left _ hn
    · exact List.mem_append_right _ (weightsAll_mem hm n hn)

/-- A slice of elements of k cells, opened into a list. -/
theorem open_list {α : Type} (f : α → List Value) (Q : α → Prop) {t e : TypeId} {k by_ : Nat} (ht : Try.prog.underlying t = some (.slice e)) (hk : Try.prog.cellsOf e = k) (hby : Try.prog.bytesOf e = by_) (hk0 : 0 < k) (hf : ∀ x, (f x).length = k)
    (el : ∀ n C D pl, C.length = k → TR enc W n e C = some (D, pl) → Sml D e → ∃ x, C = f x ∧ Q x)
    {n : Nat} {v : Value} {x : DataW H × List MemPlace} (h : TR enc W n t [v] = some x) (hs : Sml x.1 t) :
    ∃ l : List α, SliceR W v l.length (l.flatMap f) ∧ l.length * by_ ≤ 140737488351232 ∧ ∀ x ∈ l, Q x := by
  rcases Deep.open_slice ht h with ⟨hv, rfl⟩ | ⟨a, len, cap, m, n1, D, Pl, hv, -, hlc, hcm, hm, rfl, hx⟩
  · simp only [List.cons.injEq, and_true] at hv
    subst hv
    exact ⟨[], SliceR.nil _, by simp, by simp⟩
  simp only [List.cons.injEq, and_true] at hv
  subst hv
  simp only [if_true] at hm
  subst hm
  have hw : Sml (DataW.slice ((List.range len).map D) ((List.range (m - len)).map fun j => D (len + j))) t := hs
  have hlen : (len + (m - len)) * Try.prog.bytesOf e ≤ reachBytes := hw _ (by simp [DataW.weights, ht])
  have hsm : ∀ i, i < len → Sml (D i) e := fun i hi q hq => hw q (by
    simp only [DataW.weights, ht, List.mem_cons, List.mem_append]
    exact .inr (.inl (weightsAll_mem (List.mem_map.2 ⟨i, by simpa using hi, rfl⟩) q hq)))
  have hone : ∀ i : Fin len, ∃ y, Q y ∧ W.cells? 0 (a.add (i.val * k)) k = some (f y) := fun i => by
    obtain ⟨cs, h1, h2⟩ := hx i.val (by omega)
    rw [hk] at h1
    obtain ⟨y, rfl, hy⟩ := el n1 cs (D i.val) (Pl i.val) (World.cells?_some h1).2.1 h2 (hsm i.val i.isLt)
    exact ⟨y, hy, h1⟩
  have hch := Classical.axiomOfChoice hone
  obtain ⟨g, hg⟩ := hch
  have hll : (List.ofFn g).length = len := by simp
  refine ⟨List.ofFn g, ⟨some a, m, by rw [hll], by rw [hll]; exact hlc, hcm, (fun h => by cases h), fun j u hj => ?_⟩, ?_, fun y hy => ?_⟩
  · have hjl : j < ((List.ofFn g).flatMap f).length := (List.getElem?_eq_some_iff.1 hj).1
    rw [flat_length k f hf, hll] at hjl
    have hi : j / k < len := Nat.div_lt_of_lt_mul (by rw [Nat.mul_comm]; exact hjl)
    have hr : j % k < k := Nat.mod_lt _ hk0
    have hjd : j = j / k * k + j % k := by rw [Nat.mul_comm]; exact (Nat.div_add_mod j k).symm
    rw [hjd, flat_at k f hf _ _ _ (by rw [hll]; exact hi) hr] at hj
    have h1 := (World.cells?_some (hg ⟨j / k, hi⟩).2).2.2 (j % k) hr
    rw [List.getElem_ofFn] at hj
    rw [hj, Deep.add_add] at h1
    have hsp : a.spot = none := by
      have h2 := (World.cells?_some (hg ⟨0, Nat.lt_of_le_of_lt (Nat.zero_le _) hi⟩).2).2.2 0 hk0
      have h3 := (World.cells?_some (hg ⟨0, Nat.lt_of_le_of_lt (Nat.zero_le _) hi⟩).2).2.1
      rw [List.getElem?_eq_getElem (by rw [h3]; exact hk0)] at h2
      obtain ⟨b, o, sp⟩ := a
      simpa [Addr.add] using World.cell?_spot h2
    obtain ⟨b, o, sp⟩ := a
    simp only at hsp
    subst hsp
    refine ⟨b, o, rfl, ?_⟩
    rw [addr_add0] at h1
    rw [hjd]
    exact h1
  · rw [hll]
    have h1 : len * Try.prog.bytesOf e ≤ (len + (m - len)) * Try.prog.bytesOf e := Nat.mul_le_mul_right _ (by omega)
    have h2 : reachBytes = 140737488351232 := by decide
    rw [hby] at h1 hlen
    omega
  · obtain ⟨i, rfl⟩ := List.mem_ofFn.1 hy
    exact (hg i).1

theorem wf_i64' {a : Int} (h : (Lit.int .i64 a).wf = true) : -9223372036854775808 ≤ a ∧ a ≤ 9223372036854775807 := by
  have h2 : (decide (IntKind.i64.min ≤ a) && decide (a ≤ IntKind.i64.max)) = true := h
  simp only [Bool.and_eq_true, decide_eq_true_eq] at h2
  exact h2

theorem cellsS_flat (l : List ByteArray) : cellsS l = l.flatMap fun s => [Value.string s] := by
  induction l with
  | nil => rfl
  | cons a l ih => rw [List.flatMap_cons, ← ih]; rfl
/-- A slice of texts. -/
theorem open_S {n : Nat} {v : Value} {x : DataW H × List MemPlace} (h : TR enc W n 39 [v] = some x) (hs : Sml x.1 39) : ∃ l, Strs W v l := by
  obtain ⟨l, h1, h2, h3⟩ := open_list (fun s : ByteArray => [Value.string s]) (fun s => s.size ≤ maxLen) Try.underlying39 (k := 1) (by_ := 16) (by kernel_rfl) (by kernel_rfl) (by omega) (fun _ => rfl) (fun n C D pl _ hC _ => by
    obtain ⟨s, rfl, _, hw⟩ := DataW.trod_string Try.underlying9 hC
    exact ⟨s, rfl, hw⟩) h hs
  refine ⟨l, ⟨?_, by omega, h3⟩⟩
  rw [cellsS_flat]
  exact h1

theorem co3 : Try.prog.cellsOf 3 = 1 := by kernel_rfl
theorem co2 : Try.prog.cellsOf 2 = 1 := by kernel_rfl
theorem co51 : Try.prog.cellsOf 51 = 1 := by kernel_rfl
theorem co9 : Try.prog.cellsOf 9 = 1 := by kernel_rfl
theorem co39 : Try.prog.cellsOf 39 = 1 := by kernel_rfl
theorem co40 : Try.prog.cellsOf 40 = 1 := by kernel_rfl
theorem co4 : Try.prog.cellsOf 4 = 1 := by kernel_rfl
theorem co53 : Try.prog.cellsOf 53 = 4 := by kernel_rfl
theorem co22 : Try.prog.cellsOf 22 = 1 := by kernel_rfl
theorem co23 : Try.prog.cellsOf 23 = 1 := by kernel_rfl
theorem fld {m t k : Nat} {cs cs' : List Value} {f : Field} {o : Option (DataW H × List MemPlace)} (h : DataW.trod enc Try.prog W 0 (fun _ => true) true m f.type ((cs.drop f.offset).take (Try.prog.cellsOf f.type)) = o) (ht : f.type = t) (hc : Try.prog.cellsOf t = k) (hcs : (cs.drop f.offset).take k = cs') : TR enc W m t cs' = o := by
  subst ht; subst hc; subst hcs; exact h
theorem sml_agg {t : TypeId} {fs : Array Field} {xs : List (DataW H)} (ht : Try.prog.underlying t = some (.struct fs)) (hs : Sml (DataW.agg xs) t) {i : Nat} {f : Field} {d : DataW H} (hi : fs.toList[i]? = some f) (hd : xs[i]? = some d) : Sml d f.type := fun n hn => hs n (by
  simp only [DataW.weights, ht]
  exact DataW.weights_mem_each (by rw [List.getElem?_map, hi]; rfl) hd n hn)

/-- A value. -/
theorem open_V {n : Nat} {C : List Value} {x : DataW H × List MemPlace} (hl : C.length = 4) (h : TR enc W n 53 C = some x) : ∃ k n f s, C = [.int .i64 k, .int .i64 n, .float .f64 f, .string s] ∧ (Lit.int .i64 k).wf = true ∧ (Lit.int .i64 n).wf = true ∧ f < 18446744073709551616 := by
  match C, hl with
  | [c0, c1, c2, c3], _ =>
    obtain ⟨xs, m, -, -, -, hxl, hf⟩ := DataW.trod_struct Try.underlying53 h
    match xs, hxl with
    | [y0, y1, y2, y3], _ =>
      have h0 : TR enc W m 3 [c0] = some y0 := fld (hf 0 _ rfl) rfl co3 rfl
      have h1 : TR enc W m 2 [c1] = some y1 := fld (hf 1 _ rfl) rfl co2 rfl
      have h2 : TR enc W m 51 [c2] = some y2 := fld (hf 2 _ rfl) rfl co51 rfl
      have h3 : TR enc W m 9 [c3] = some y3 := fld (hf 3 _ rfl) rfl co9 rfl
      obtain ⟨k, e0, -, w0⟩ := DataW.trod_int Try.underlying3 h0
      obtain ⟨q, e1, -, w1⟩ := DataW.trod_int Try.underlying2 h1
      obtain ⟨f, e2, w2⟩ := trod_float Try.underlying51 h2
      obtain ⟨s, e3, -, -⟩ := DataW.trod_string Try.underlying9 h3
      simp only [List.cons.injEq, and_true] at e0 e1 e2 e3
      subst e0; subst e1; subst e2; subst e3
      exact ⟨k, q, f, s, rfl, w0, w1, by simpa [Lit.wf] using w2⟩
def cellsPr (p : Pr) : List Value := [.string p.nm, .int .i64 p.k, .int .i64 p.n, .float .f64 p.f, .string p.s]
/-- A slice of properties. -/
theorem open_P {n : Nat} {v : Value} {x : DataW H × List MemPlace} (h : TR enc W n 40 [v] = some x) (hs : Sml x.1 40) : ∃ l, Props W v l := by
  obtain ⟨l, h1, h2, h3⟩ := open_list cellsPr (fun p => p.Wf) Try.underlying40 (k := 5) (by_ := 56) (by kernel_rfl) (by kernel_rfl) (by omega) (fun _ => rfl) (fun n C D pl hl hC _ => by
    match C, hl with
    | [c0, c1, c2, c3, c4], _ =>
      obtain ⟨xs, m, -, -, -, hxl, hf⟩ := DataW.trod_struct Try.underlying55 hC
      match xs, hxl with
      | [y0, y1], _ =>
        have h0 : TR enc W m 9 [c0] = some y0 := fld (hf 0 _ rfl) rfl co9 rfl
        have h1 : TR enc W m 53 [c1, c2, c3, c4] = some y1 := fld (hf 1 _ rfl) rfl co53 rfl
        obtain ⟨s, e0, -, w0⟩ := DataW.trod_string Try.underlying9 h0
        obtain ⟨k, q, f, s2, e1, w1, w2, w3⟩ := open_V rfl h1
        simp only [List.cons.injEq, and_true] at e0 e1
        obtain ⟨rfl, rfl, rfl, rfl⟩ := e1
        subst e0
        exact ⟨⟨s, k, q, f, s2⟩, rfl, ⟨w0, (wf_i64' w1).1, (wf_i64' w1).2, (wf_i64' w2).1, (wf_i64' w2).2, w3⟩⟩) h hs
  exact ⟨l, h1, by omega, h3⟩

def cellsNx (x : NX) : List Value := [.string x.d.nm, x.lv, x.pv]
/-- A slice of nodes. -/
theorem open_N {n : Nat} {v : Value} {x : DataW H × List MemPlace} (h : TR enc W n 22 [v] = some x) (hs : Sml x.1 22) : ∃ l, Nodes W v l := by
  obtain ⟨l, h1, h2, h3⟩ := open_list cellsNx (fun x => Strs W x.lv x.d.ls ∧ Props W x.pv x.d.ps ∧ x.d.nm.size ≤ maxLen) Try.underlying22 (k := 3) (by_ := 64) (by kernel_rfl) (by kernel_rfl) (by omega) (fun _ => rfl) (fun n C D pl hl hC hsD => by
    match C, hl with
    | [c0, c1, c2], _ =>
      obtain ⟨xs, m, -, hx, -, hxl, hf⟩ := DataW.trod_struct Try.underlying46 hC
      match xs, hxl with
      | [y0, y1, y2], _ =>
        have h0 : TR enc W m 9 [c0] = some y0 := fld (hf 0 _ rfl) rfl co9 rfl
        have h1 : TR enc W m 39 [c1] = some y1 := fld (hf 1 _ rfl) rfl co39 rfl
        have h2 : TR enc W m 40 [c2] = some y2 := fld (hf 2 _ rfl) rfl co40 rfl
        simp only [Prod.mk.injEq, List.map_cons, List.map_nil] at hx
        obtain ⟨rfl, -⟩ := hx
        have s1 : Sml y1.1 39 := sml_agg Try.underlying46 hsD (i := 1) rfl rfl
        have s2 : Sml y2.1 40 := sml_agg Try.underlying46 hsD (i := 2) rfl rfl
        obtain ⟨s, e0, -, w0⟩ := DataW.trod_string Try.underlying9 h0
        simp only [List.cons.injEq, and_true] at e0
        subst e0
        obtain ⟨ls, hls⟩ := open_S h1 s1
        obtain ⟨ps, hps⟩ := open_P h2 s2
        exact ⟨⟨⟨s, ls, ps⟩, c1, c2⟩, rfl, hls, hps, w0⟩) h hs
  exact ⟨l, h1, by omega, fun x hx => (h3 x hx).1, fun x hx => (h3 x hx).2.1, fun x hx => (h3 x hx).2.2⟩

def cellsEx (x : EX) : List Value := [.string x.d.nm, .int .i64 x.d.src, .int .i64 x.d.dst, .bool x.d.dir, x.lv, x.pv]
/-- A slice of edges. -/
theorem open_E {n : Nat} {v : Value} {x : DataW H × List MemPlace} (h : TR enc W n 23 [v] = some x) (hs : Sml x.1 23) : ∃ l, Edges W v l := by
  obtain ⟨l, h1, h2, h3⟩ := open_list cellsEx (fun x => Strs W x.lv x.d.ls ∧ Props W x.pv x.d.ps ∧ x.d.nm.size ≤ maxLen ∧ (-9223372036854775808 ≤ x.d.src ∧ x.d.src ≤ 9223372036854775807) ∧ (-9223372036854775808 ≤ x.d.dst ∧ x.d.dst ≤ 9223372036854775807)) Try.underlying23 (k := 6) (by_ := 88) (by kernel_rfl) (by kernel_rfl) (by omega) (fun _ => rfl) (fun n C D pl hl hC hsD => by
    match C, hl with
    | [c0, c1, c2, c3, c4, c5], _ =>
      obtain ⟨xs, m, -, hx, -, hxl, hf⟩ := DataW.trod_struct Try.underlying42 hC
      match xs, hxl with
      | [y0, y1, y2, y3, y4, y5], _ =>
        have h0 : TR enc W m 9 [c0] = some y0 := fld (hf 0 _ rfl) rfl co9 rfl
        have h1 : TR enc W m 3 [c1] = some y1 := fld (hf 1 _ rfl) rfl co3 rfl
        have h2 : TR enc W m 3 [c2] = some y2 := fld (hf 2 _ rfl) rfl co3 rfl
        have h3 : TR enc W m 4 [c3] = some y3 := fld (hf 3 _ rfl) rfl co4 rfl
        have h4 : TR enc W m 39 [c4] = some y4 := fld (hf 4 _ rfl) rfl co39 rfl
        have h5 : TR enc W m 40 [c5] = some y5 := fld (hf 5 _ rfl) rfl co40 rfl
        simp only [Prod.mk.injEq, List.map_cons, List.map_nil] at hx
        obtain ⟨rfl, -⟩ := hx
        have s1 : Sml y4.1 39 := sml_agg Try.underlying42 hsD (i := 4) rfl rfl
        have s2 : Sml y5.1 40 := sml_agg Try.underlying42 hsD (i := 5) rfl rfl
        obtain ⟨s, e0, -, w0⟩ := DataW.trod_string Try.underlying9 h0
        obtain ⟨a, e1, -, w1⟩ := DataW.trod_int Try.underlying3 h1
        obtain ⟨b, e2, -, w2⟩ := DataW.trod_int Try.underlying3 h2
        obtain ⟨dr, e3, -⟩ := DataW.trod_bool Try.underlying4 h3
        simp only [List.cons.injEq, and_true] at e0 e1 e2 e3
        subst e0; subst e1; subst e2; subst e3
        obtain ⟨ls, hls⟩ := open_S h4 s1
        obtain ⟨ps, hps⟩ := open_P h5 s2
        exact ⟨⟨⟨s, a, b, dr, ls, ps⟩, c4, c5⟩, rfl, hls, hps, w0, wf_i64' w1, wf_i64' w2⟩) h hs
  exact ⟨l, h1, by omega, fun x hx => (h3 x hx).1, fun x hx => (h3 x hx).2.1, fun x hx => (h3 x hx).2.2.1, fun x hx => (h3 x hx).2.2.2.1, fun x hx => (h3 x hx).2.2.2.2⟩

set_option maxRecDepth 100000 in
/-- A graph. -/
theorem open_G {v : Value} {base : Nat} {d : DataW H} {pl : List MemPlace} (hval : Value.okWide Try.prog W .any base 25 v) (h : DataW.Trod enc Try.prog W 0 (fun _ => true) true 25 v d pl) (hs : Sml d 25) : ∃ nv ev xs es, v = GR nv ev ∧ Nodes W nv xs ∧ Edges W ev es := by
  have hcc := okWide_struct (P := Try.prog) (w := W) (base := base) (t := 25) (v := v) Try.underlying25 hval
  obtain ⟨cs, rfl, hcs⟩ := hcc
  have hc2 : cs.size = 2 := hcs.trans (by kernel_rfl)
  obtain ⟨c0, c1, rfl⟩ : ∃ a b, cs = #[a, b] := by
    obtain ⟨l⟩ := cs
    match l, hc2 with
    | [a, b], _ => exact ⟨a, b, rfl⟩
  obtain ⟨fuel, hfu⟩ := h
  obtain ⟨xs, m, -, hx, -, hxl, hf⟩ := DataW.trod_struct Try.underlying25 hfu
  match xs, hxl with
  | [y0, y1], _ =>
    have hx2 : d = DataW.agg ([y0, y1].map (·.1)) := congrArg Prod.fst hx
    subst hx2
    have s0 : Sml y0.1 22 := sml_agg Try.underlying25 hs (i := 0) rfl rfl
    have s1 : Sml y1.1 23 := sml_agg Try.underlying25 hs (i := 1) rfl rfl
    have h0 : TR enc W m 22 [c0] = some y0 := fld (hf 0 _ rfl) rfl co22 rfl
    have h1 : TR enc W m 23 [c1] = some y1 := fld (hf 1 _ rfl) rfl co23 rfl
    obtain ⟨xs, hxs⟩ := open_N h0 s0
    obtain ⟨es, hes⟩ := open_E h1 s1
    exact ⟨c0, c1, xs, es, rfl, hxs, hes⟩
end
end Go.Proofs.Ytbolojjnkkgehaa
