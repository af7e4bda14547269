/- The program's store: Types where a node is unknown, or too great. -/
import Derived.Test.YtafpbdmggnfdnaaTypesOf
namespace Go.Proofs.Ytafpbdmggnfdnaa
open Go.RowKit Go.Shelf Go.Maps
set_option linter.unusedVariables false
attribute [local go_sem] Oper.semAt_some

def TypesNo (w : World) (err : Int) (e : Ending) (w' : World) : Prop := e = .returned (.tuple #[.slice none 0 0, .int .i64 err]) ∧ Below w.heap.size w w'

set_option maxRecDepth 100000 in
set_option maxHeartbeats 4000000 in
theorem types_no {w : World} {base : Nat} {L : Lay} {S : PS} (h : St w base L S) (A : Option Addr) (cap : Nat) (xs : List Int) (hA : Ints w A xs) (hlen : xs.length ≤ 1000000) (hall : allIn S.nodes.length xs = false) :
    Calls Try.prog 15 #[.pointer (some ⟨L.g, 0, none⟩), .slice A xs.length cap] w (TypesNo w 221) := by
  have HK := hide (callsIn_wide (n := 4) |>.2 (known_any h A cap xs hA hlen))
  rw [hall] at HK
  clear hall h hA
  refine (callsIn_wide (n := 5)).1 ?_
  refine callsIn_of_wp_marks Try.func15 rfl trivial ?_ rfl
  simp only [Try.ntmps15, List.size_toArray, List.length_cons, List.length_nil, Nat.reduceAdd, Nat.reduceSub, Array.replicate_succ, Array.replicate_zero, List.push_toArray, List.append_toArray, List.nil_append, List.cons_append]
  gi_wp2_with fail
  refine ⟨trivial, HK.out.mono ?_⟩
  rintro e w1 ⟨rfl, rfl⟩
  gi_wp2
  exact ⟨.tuple #[.slice none 0 0, .int .i64 221], by simp [results, Try.results15, go_sem], rfl, Below.refl _ _⟩

set_option maxRecDepth 100000 in
set_option maxHeartbeats 4000000 in
theorem types_big {w : World} {base : Nat} {L : Lay} {S : PS} {c d : Nat → Nat} (h : St w base L S) (hi : Ok S c d) (A : Option Addr) (cap : Nat) (ns : List Nat) (hA : Nats w A ns) (hns : ∀ x ∈ ns, x < S.nodes.length) (hlen : ns.length ≤ 1000000)
    (hbig : ∃ x ∈ ns, ∃ B, Stands S.nodes c (par S.forms) [x] B ∧ 300 < B.cnt) :
    Calls Try.prog 15 #[.pointer (some ⟨L.g, 0, none⟩), .slice A ns.length cap] w (TypesNo w 120) := by
  have hall : allIn S.nodes.length (cast ns) = true := by
    unfold allIn cast
    rw [List.all_eq_true]
    intro x hx
    obtain ⟨y, hy, rfl⟩ := List.mem_map.1 hx
    have := hns y hy
    simp; omega
  have HK := hide (callsIn_wide (n := 4) |>.2 (known_any h A cap (cast ns) hA (by simp [cast]; exact hlen)))
  rw [hall, show (cast ns).length = ns.length by simp [cast]] at HK
  have Hi := hide hi; have Hst := hide h; have HA := hide hA; have Hns := hide hns; have Hbig := hide hbig
  have hm := h.many
  clear hall hi h hA hns hbig
  refine (callsIn_wide (n := 5)).1 ?_
  refine callsIn_of_wp_marks Try.func15 rfl trivial ?_ rfl
  simp only [Try.ntmps15, List.size_toArray, List.length_cons, List.length_nil, Nat.reduceAdd, Nat.reduceSub, Array.replicate_succ, Array.replicate_zero, List.push_toArray, List.append_toArray, List.nil_append, List.cons_append]
  gi_wp2_with fail
  refine ⟨trivial, HK.out.mono ?_⟩
  rintro e w1 ⟨rfl, rfl⟩
  gi_wp2
  gi_loopw [19] (fun i wr => ∃ k : Nat, i = .int .i64 (k : Int) ∧ k ≤ ns.length ∧ Hid (Below w.heap.size w wr) ∧ Hid (∀ x ∈ ns.take k, ∀ B, Stands S.nodes c (par S.forms) [x] B → B.cnt ≤ 300)) (fun i _ => ns.length - (intOf i).toNat)
  case atStart => exact ⟨0, rfl, by omega, hide (Below.refl _ _), hide (by simp)⟩
  case round =>
    obtain ⟨k, rfl, hk, HB, HFit⟩ := hrel
    by_cases hlt : k < ns.length
    · obtain ⟨b, off, hAe, hb, d0⟩ := HA.out.at_ k (by simpa [cast] using hlt)
      simp only [cast, List.getElem_map] at d0
      obtain ⟨x, hx⟩ : ∃ x, ns[k] = x := ⟨_, rfl⟩
      rw [hx] at d0
      have e0 := (HB.out.cell (p := ⟨b, off + k, none⟩) hb).trans d0
      have hxm : x ∈ ns := by rw [← hx]; exact List.getElem_mem _
      have hxn := Hns.out x hxm
      obtain ⟨B, hB⟩ := Hi.out.stands [x] (by simpa using hxn)
      have HZ := hide (callsIn_wide (n := 4) |>.2 (size_any (Hst.out.later HB.out) Hi.out x hxn B hB))
      have Htake : Hid (ns.take (k + 1) = ns.take k ++ [x]) := hide (by rw [List.take_succ_eq_append_getElem hlt, hx])
      have HSB := hide hB
      simp only [hAe]
      have HAe := hide hAe
      clear hAe d0 hx hB
      by_cases hBc : B.cnt ≤ 300
      · have hcap : capped B.cnt = B.cnt := by unfold capped; rw [if_pos hBc]
        rw [hcap] at HZ
        gi_wp2_with fail
        refine ⟨trivial, HZ.out.mono ?_⟩
        rintro e w2 ⟨rfl, hb2⟩
        have kk : decide ((300 : Int) < (B.cnt : Int)) = false := by simp; omega
        have HB2 := hide (HB.out.trans (hb2.mono HB.out.size))
        clear hb2 HZ
        gi_wp2
        go_roundw
        case rel =>
          refine ⟨k + 1, by go_num, by omega, HB2, hide ?_⟩
          rw [Htake.out]
          intro y hy C hC
          rcases List.mem_append.1 hy with hy | hy
          · exact HFit.out y hy C hC
          · simp at hy; subst hy; rw [hC.unique HSB.out]; exact hBc
        case measure => simp [intOf]; omega
      · have hcap : capped B.cnt = 301 := by unfold capped; rw [if_neg hBc]
        rw [hcap] at HZ
        gi_wp2_with fail
        refine ⟨trivial, HZ.out.mono ?_⟩
        rintro e w2 ⟨rfl, hb2⟩
        have HB2 := hide (HB.out.trans (hb2.mono HB.out.size))
        clear hb2 HZ
        gi_wp2
        exact ⟨.tuple #[.slice none 0 0, .int .i64 120], by simp [results, Try.results15, go_sem], rfl, HB2.out⟩
    · exfalso
      obtain ⟨x, hx, B, hB, hl⟩ := Hbig.out
      have := HFit.out x (by rw [List.take_of_length_le (by omega)]; exact hx) B hB
      omega
end Go.Proofs.Ytafpbdmggnfdnaa
