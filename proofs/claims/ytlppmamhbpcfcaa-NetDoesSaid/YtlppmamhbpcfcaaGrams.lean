/- Rows of things underway that came in, as the walks read them; conditions as typed. -/
import Derived.Test.YtlppmamhbpcfcaaPlain
import Derived.Test.YtlppmamhbpcfcaaMNetx0
import Derived.Deep.Slices
import Derived.ChangeSlices
import Derived.ChangeSame
import Derived.SizedLaws
namespace Go.Proofs.Ytlppmamhbpcfcaa.MNet
open Go.RowKit Go.Proofs.YtlppmamhbpcfcaaW.PrintWords Go.ChangeShapes Go.WideShapes
open Go.Deep (open_slice choose_lt)
/-- What a thing underway may hold. -/
def GramOk (x : S40) : Prop := (-9223372036854775808 ≤ x.f0 ∧ x.f0 < 9223372036854775808) ∧ Plain.Bytes x.f1 ∧ x.f1.length ≤ reachBytes
def GramsOk (l : List S40) : Prop := ∀ x ∈ l, GramOk x
instance : Inhabited S40 := ⟨⟨0, []⟩⟩
theorem mem_all {H : Type} {P : Program} {e : TypeId} {n : Nat} {x : DataW H} : ∀ {l : List (DataW H)}, x ∈ l → n ∈ x.weights P e → n ∈ DataW.weightsAll P e l
  | y :: r, hx, hn => by
    simp only [DataW.weightsAll]
    rcases List.mem_cons.1 hx with rfl | hx
    · exact List.mem_append_left _ hn
    · exact List.mem_append_right _ (mem_all hx hn)
theorem bytes_trod {H : Type} {enc : TypeId × Value → H} {w : World} {base fuel : Nat} {held : Bool} {v : Value} {x : DataW H × List MemPlace}
    (h : DataW.trod enc Try.prog w base (fun _ => true) held fuel 26 [v] = some x) (hw : ∀ n ∈ x.1.weights Try.prog 26, n ≤ reachBytes) :
    ∃ (A : Option Addr) (c : Nat) (l : List Int), v = .slice A l.length c ∧ l.length ≤ c ∧ Kd.C (Kd.int .u8) w A l.length l ∧ Plain.Bytes l ∧ l.length ≤ reachBytes := by
  rcases open_ints Try.underlying26 Try.underlying5 (by kernel_rfl) h with ⟨hcs, _⟩ | ⟨a, len, cap, zs, hcs, _, hl, hm, hz, hxe, hcell, hwz⟩
  · simp at hcs
    subst hcs
    exact ⟨none, 0, [], rfl, Nat.le_refl _, Kd.C_nil _ _, fun x hx => by simp at hx, by simp⟩
  · simp at hcs
    subst hcs
    obtain ⟨l, e, hr, hml, hwl, hc⟩ := ReadsInt.ofRowC (k := .u8) (w := w) (a := some a) (len := len) (cap := cap) (zs := zs) (.inr ⟨a, rfl, hl, hm, by simpa using hz, hcell, hwz⟩)
    subst e
    refine ⟨some a, cap, l, rfl, hc, Kd.C_of_reads (d := (0 : Int)) (h1 := fun _ => rfl) hr, fun x hx => Plain.wf_u8 (hwl x hx), ?_⟩
    have hb1 : Try.prog.bytesOf 5 = 1 := by kernel_rfl
    have := hw ((lits (H := H) .u8 (zs.take l.length)).length + (lits (H := H) .u8 (zs.drop l.length)).length) (by
      rw [hxe]
      simp [DataW.weights, Try.underlying26, hb1])
    simp [lits] at this hz
    omega
theorem gram_trod {H : Type} {enc : TypeId × Value → H} {w : World} {base fuel : Nat} {held : Bool} {cs : List Value} {x : DataW H × List MemPlace}
    (h : DataW.trod enc Try.prog w base (fun _ => true) held fuel 40 cs = some x) (hw : ∀ n ∈ x.1.weights Try.prog 40, n ≤ reachBytes) : ∃ g : S40, k40.K w g cs ∧ GramOk g := by
  obtain ⟨y0, y1, n, hxe, hl, h0, h1⟩ := trod_struct2 Try.underlying40 h
  have hc40 : Try.prog.cellsOf 40 = 2 := by kernel_rfl
  have hc3 : Try.prog.cellsOf 3 = 1 := by kernel_rfl
  have hc26 : Try.prog.cellsOf 26 = 1 := by kernel_rfl
  rw [hc40] at hl
  match cs, hl with
  | [u, v], _ =>
    have h0' : DataW.trod enc Try.prog w base (fun _ => true) held n 3 [u] = some y0 := by
      have : ([u, v].drop 0).take (Try.prog.cellsOf 3) = [u] := by rw [hc3]; rfl
      rw [← this]
      exact h0
    have h1' : DataW.trod enc Try.prog w base (fun _ => true) held n 26 [v] = some y1 := by
      have : ([u, v].drop 1).take (Try.prog.cellsOf 26) = [v] := by rw [hc26]; rfl
      rw [← this]
      exact h1
    obtain ⟨m, hu, _, hwf⟩ := DataW.trod_int Try.underlying3 h0'
    simp at hu
    subst hu
    obtain ⟨A, c, l, rfl, hlc, hC, hB, hm⟩ := bytes_trod h1' (fun n hn => hw n (by rw [hxe]; simp [DataW.weights, Try.underlying40, DataW.weightsEach]; exact .inr hn))
    exact ⟨⟨m, l⟩, k40_mk w ⟨m, l⟩ hlc hC, Plain.wf_i64 hwf, hB, hm⟩
/-- Things underway that came in. -/
theorem grams_trod {H : Type} {enc : TypeId × Value → H} {w : World} {base : Nat} {held : Bool} {a : Option Addr} {len cap : Nat} {d : DataW H} {ps : List MemPlace}
    (h : DataW.Trod enc Try.prog w base (fun _ => true) held 33 (.slice a len cap) d ps) (hw : ∀ n ∈ d.weights Try.prog 33, n ≤ reachBytes) :
    ∃ l : List S40, len = l.length ∧ Kd.C k40 w a l.length l ∧ l.length ≤ cap ∧ l.length ≤ maxLen ∧ GramsOk l := by
  obtain ⟨fuel, hf⟩ := h
  have hc40 : Try.prog.cellsOf 40 = 2 := by kernel_rfl
  rcases open_slice Try.underlying33 hf with ⟨hcs, _⟩ | ⟨x, l, c, m, n, D, Pl, hcs, _, hl, hm, hmm, hxe, hx⟩
  · simp [Value.cells] at hcs
    obtain ⟨rfl, rfl, rfl⟩ := hcs
    exact ⟨[], rfl, Kd.C_nil _ _, Nat.le_refl _, by simp, fun x hx => by simp at hx⟩
  · simp [Value.cells] at hcs
    obtain ⟨rfl, rfl, rfl⟩ := hcs
    simp only [if_true] at hmm
    subst hmm
    rw [hc40] at hx
    obtain ⟨Z, hZ⟩ := choose_lt (α := S40) (n := len) (p := fun i g => ∃ cs', w.cells? base (x.add (i * 2)) 2 = some cs' ∧ k40.K w g cs' ∧ GramOk g) (fun i hi => by
      obtain ⟨cs', h1, h2⟩ := hx i (by omega)
      obtain ⟨g, h3, h4⟩ := gram_trod h2 (fun n hn => hw n (by
        obtain ⟨rfl, _⟩ := Prod.mk.inj hxe
        simp only [DataW.weights, Try.underlying33]
        exact List.mem_cons_of_mem _ (List.mem_append_left _ (mem_all (List.mem_map.2 ⟨i, List.mem_range.2 hi, rfl⟩) hn))))
      exact ⟨g, cs', h1, h3, h4⟩)
    have hml : len ≤ 9223372036854775807 := by
      unfold maxLen at hm
      omega
    refine ⟨(List.range len).map Z, by simp, ?_, by simpa using hl, by simp; omega, fun g hg => ?_⟩
    · have hlen : ((List.range len).map Z).length = len := by simp
      rw [hlen]
      refine ⟨hlen, hml, fun hn => ⟨x, rfl, fun j p hj => ?_⟩⟩
      obtain ⟨hj1, hj2⟩ := List.getElem?_eq_some_iff.1 hj
      rw [hlen] at hj1
      simp at hj2
      subst hj2
      obtain ⟨cs', h1, h2, _⟩ := hZ j hj1
      obtain ⟨_, h4, h5⟩ := World.cells?_some h1
      refine ⟨cs', h4, h2, fun i u hu => ?_⟩
      have hi : i < 2 := by
        have := (List.getElem?_eq_some_iff.1 hu).1
        omega
      have h6 := h5 i hi
      rw [Go.Deep.add_add] at h6
      rw [show k40.sz = 2 from rfl, h6]
      exact hu
    · obtain ⟨i, hi, rfl⟩ := List.mem_map.1 hg
      obtain ⟨_, _, _, h3⟩ := hZ i (List.mem_range.1 hi)
      exact h3
end Go.Proofs.Ytlppmamhbpcfcaa.MNet
