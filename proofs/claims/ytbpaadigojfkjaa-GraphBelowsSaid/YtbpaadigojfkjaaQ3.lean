/- What the reference's Below holds from round to round (pure). -/
import Derived.Test.YtbpaadigojfkjaaQ1
namespace Go.Proofs.Ytbpaadigojfkjaa

structure Gr (n : Nat) (rows : Nat → List Nat) (x : Nat) (done : List Nat) : Prop where
  nd : done.Nodup
  lt : ∀ y ∈ done, y < n
  at_ : x ∈ done
  rch : ∀ y ∈ done, Rch rows x y
theorem Gr.one {n x : Nat} {rows : Nat → List Nat} (hx : x < n) : Gr n rows x [x] :=
  ⟨by simp, fun y hy => by simp at hy; omega, by simp, fun y hy => by simp at hy; rw [hy]; exact .base⟩
theorem Gr.push {n x i y : Nat} {rows : Nat → List Nat} {done : List Nat} (h : Gr n rows x done) (hi : i ∈ done) (hy : y < n) (hm : y ∈ rows i) (hn : y ∉ done) : Gr n rows x (done ++ [y]) := by
  refine ⟨?_, fun z hz => ?_, List.mem_append_left _ h.at_, fun z hz => ?_⟩
  · rw [List.nodup_append]
    exact ⟨h.nd, by simp, fun p hp q hq => by simp at hq; rintro rfl; exact hn (hq ▸ hp)⟩
  · rcases List.mem_append.1 hz with hz | hz
    · exact h.lt z hz
    · simp at hz; omega
  · rcases List.mem_append.1 hz with hz | hz
    · exact h.rch z hz
    · simp at hz; rw [hz]; exact .step i y (h.rch i hi) hm
theorem Gr.le {n x : Nat} {rows : Nat → List Nat} {done : List Nat} (h : Gr n rows x done) : done.length ≤ n := nodup_le n done h.nd h.lt
theorem Gr.shut {n x : Nat} {rows : Nat → List Nat} {done : List Nat} (h : Gr n rows x done) (hc : ∀ y ∈ done, ∀ j ∈ rows y, j ∈ done) : Shut n rows x (fun y => done.contains y) :=
  ⟨by simpa using h.at_, fun y _ hy => h.rch y (by simpa using hy), fun y _ hy j hj => by simpa using hc y (by simpa using hy) j hj⟩
/-- At package i of a round that began at d0. -/
structure Md (d0 : List Nat) (rows : Nat → List Nat) (i : Nat) (mb : Bool) (done : List Nat) : Prop where
  t : mb = true → d0.length + 1 ≤ done.length
  f : mb = false → done = d0 ∧ ∀ y, y < i → y ∈ d0 → ∀ j ∈ rows y, j ∈ d0
theorem Md.start (d0 : List Nat) (rows : Nat → List Nat) : Md d0 rows 0 false d0 := ⟨fun h => (by cases h), fun _ => ⟨rfl, fun y hy => by omega⟩⟩
/-- .. at its k-th import. -/
structure Mi (d0 : List Nat) (ns row : List ByteArray) (rows : Nat → List Nat) (i k : Nat) (mb : Bool) (done : List Nat) : Prop where
  t : mb = true → d0.length + 1 ≤ done.length
  f : mb = false → done = d0 ∧ (∀ y, y < i → y ∈ d0 → ∀ j ∈ rows y, j ∈ d0) ∧ (i ∈ d0 → ∀ q, q < k → (idx ns (nm row q)).toNat ∈ d0)
section
variable {d0 done : List Nat} {ns row : List ByteArray} {rows : Nat → List Nat} {i k y : Nat} {mb : Bool}
theorem Md.enter (h : Md d0 rows i mb done) : Mi d0 ns row rows i 0 mb done := ⟨h.t, fun e => ⟨(h.f e).1, (h.f e).2, fun _ q hq => by omega⟩⟩
theorem Mi.out (h : Mi d0 ns row rows i k mb done) (hi : i ∉ done) : Md d0 rows (i + 1) mb done :=
  ⟨h.t, fun e => ⟨(h.f e).1, fun y hy hm => by
    by_cases e2 : y = i
    · rw [e2, ← (h.f e).1] at hm; exact absurd hm hi
    · exact (h.f e).2.1 y (by omega) hm⟩⟩
theorem Mi.there (h : Mi d0 ns row rows i k mb done) (hy : idx ns (nm row k) = (y : Int)) (hm : y ∈ done) : Mi d0 ns row rows i (k + 1) mb done :=
  ⟨h.t, fun e => ⟨(h.f e).1, (h.f e).2.1, fun hi q hq => by
    by_cases e2 : q = k
    · rw [e2, hy]; rw [(h.f e).1] at hm; exact hm
    · exact (h.f e).2.2 hi q (by omega)⟩⟩
theorem Mi.new (h : Mi d0 ns row rows i k mb done) : Mi d0 ns row rows i (k + 1) true (done ++ [y]) :=
  ⟨fun _ => by
    rw [List.length_append]
    cases mb with
    | true => have := h.t rfl; simp; omega
    | false => rw [(h.f rfl).1]; simp, fun e => (by cases e)⟩
theorem Mi.all {nss : List (List ByteArray)} (h : Mi d0 ns row (rowsF ns nss) i k mb done) (hr : nss.getD i [] = row) (hk : k = row.length) : Md d0 (rowsF ns nss) (i + 1) mb done :=
  ⟨h.t, fun e => ⟨(h.f e).1, fun y hy hm j hj => by
    by_cases e2 : y = i
    · subst e2
      unfold rowsF at hj
      rw [List.mem_filter, List.any_eq_true, hr] at hj
      obtain ⟨_, s, hs, he⟩ := hj
      have he := of_decide_eq_true he
      obtain ⟨q, hq, e3⟩ := List.mem_iff_getElem.1 hs
      have h3 := (h.f e).2.2 hm q (by omega)
      have e4 : nm row q = s := by
        unfold nm
        rw [List.getD_eq_getElem?_getD, List.getElem?_eq_getElem hq]
        simpa using e3
      rw [e4, he] at h3
      simpa using h3
    · exact (h.f e).2.1 y (by omega) hm j hj⟩⟩
end
end Go.Proofs.Ytbpaadigojfkjaa
