/- Merged: PlayAll. -/
import Derived.Test.YtoabkcalphpkhaaN19
/- What all layers' Plays share: from the cells made to the answers. -/
namespace Go.Proofs.Ytoabkcalphpkhaa
open Go Go.Conc Go.RowKit
open Go.Proofs.YtoabkcalphpkhaaW.PrintWords
set_option linter.unusedVariables false
set_option linter.unusedSimpArgs false
set_option linter.unusedSectionVars false
set_option maxRecDepth 100000

section
variable {Post : Value → World → Prop} {N : Nat} {u u2 : World} {fr : Frame} {cs : List Frame} {W back : Nat} {sv cv : Value} {sched : List Int} {cb : List Nat} {vals : List Int}
theorem play_run {K : Nat} {fid : FuncId} {caps : Array Value} {doP : Cal → (Ans → Proc) → Proc} {scripts : List (List Cal)} {SA : Option Addr} {scp : Nat} {fin : Sys × List Park} (hN : 0 < N) (hsc : ScrW W u SA scripts) (hm : mayOf scripts false = 0) (hin : ∀ l ∈ scripts, ∀ c ∈ l, CalIn c) (hbd : bodied Try.prog fid = true)
    (hcb0 : 0 < cb.length) (hf2 : Fresh0 W back sv cv sched cb.length cb vals u2) (hk1 : Keep0 W (.slice none 0 0) u u2) (hown : ∀ k, cv.ownBlock = some k → u.heap.size ≤ k) (hcbN : ∀ c ∈ cb, u.heap.size ≤ c)
    (hdo : ∀ (L : Lay) (i T : Nat), L.cn = cb.length → L.cb = cb → (∀ (b t : Nat) (c : Array Value) (z : Nat × Nat), u2.heap[b]? = some (.cells c t z) → t ≠ 80 → t ≠ 3 → t ≠ 105 → L.ro b = some (.cells c t z)) → DoOK (worldMode L i T) fid caps doP)
    (hrun : spawn sched K (scripts.map fun l => oneP doP 0 l []) ⟨0, -1, vals, List.replicate cb.length 0, [], false⟩ [] = some fin ∧ fin.1.trace.length ≤ roomB)
    (hn : ∀ out u', fin.2.length = scripts.length → Played W back fin u u' (.slice (some ⟨out, 0, none⟩) scripts.length scripts.length) → Wn (ctxP Post (N + scripts.length) S0 list0) (fr.finish (.slice (some ⟨out, 0, none⟩) scripts.length scripts.length)) cs u') :
    Wn (ctxP Post N S0 list0) (Frame.enter Try.prog 51 #[ptr W, .slice SA scripts.length scp, .func (.func fid) #[] caps] .normal) (fr :: cs) u2 := by
  obtain ⟨hlen, h1, h8⟩ := mayOf_zero hm
  obtain ⟨hrun, hroom⟩ := hrun
  obtain ⟨d, hfr, rfl, rfl, hcb, hvals, rfl, hcn, hcvo, hsv, hcv⟩ := Fresh0.fresh hf2 hcb0
  have hcA : u.heap.size ≤ d.cA := hown d.cA hcvo
  have hcbN' : ∀ c ∈ d.cb, u.heap.size ≤ c := fun c hc => by rw [hcb] at hc; exact hcbN c hc
  have hold : ∀ b' o, u.heap[b']? = some o → b' ≠ d.W → b' ≠ d.back → u2.heap[b']? = some o ∧ ¬ d.own b' := fun b' o h1 h2 h3 => by
    have h4 := hk1.blk b' o h1 h2 (fun e => by cases e)
    have h5 := blk_lt h1
    refine ⟨h4, ?_⟩
    rintro (e | e | e | e)
    · exact h2 e
    · exact h3 e
    · omega
    · have := hcbN' _ e; omega
  have hnot : ∀ {b' t : Nat} {c : Array Value} {z : Nat × Nat}, u2.heap[b']? = some (.cells c t z) → t ≠ 80 → t ≠ 3 → t ≠ 105 → ¬ d.own b' := fun {b' t c z} h1 h2 h3 h4 => by
    rintro (e | e | e | e)
    · exact ne_of_ty h1 hfr.w h2 e
    · exact ne_of_chan h1 hfr.back e
    · obtain ⟨c', h'⟩ := own_ty hfr.ch (k := d.cA) rfl
      exact ne_of_ty h1 h' h3 e
    · obtain ⟨q, hq⟩ := List.mem_iff_getElem?.1 e
      exact ne_of_ty h1 (hfr.c q _ hq) h4 rfl
  have hbackN : ∀ {b' t : Nat} {c : Array Value} {z : Nat × Nat}, u.heap[b']? = some (.cells c t z) → b' ≠ d.W → b' ≠ d.back := fun {b' t c z} h1 h2 e => by
    have h4 := hk1.blk b' _ h1 h2 (fun e => by cases e)
    exact ne_of_chan h4 hfr.back e
  have es : d.start = ⟨0, -1, vals, List.replicate cb.length 0, [], false⟩ := by unfold Nums0.start; rw [hvals, hcn]
  refine run51 (d := d) (K := K) (fid := fid) (caps := caps) (doP := doP) (fin := fin) hN hfr h8 hlen hin hbd (scrAll_of hsc fun b' c t z h1 h2 => hold b' _ h1 h2 (hbackN h1 h2)) (fun L i T hLW hLcb hLcn hro => hdo L i T (hLcn.trans hcn) (hLcb.trans hcb) fun b t c z hb h1 h2 h3 => hro b _ hb (hnot hb h1 h2 h3)) (by rw [es]; exact hrun) hroom ?_
  intro out u' hr
  have hfl := (spawn_ended _ _ _ _ hrun (fun pk h => by cases h)).1
  rw [List.length_map] at hfl
  have hfl : fin.2.length = scripts.length := by simpa using hfl
  refine hn out u' hfl ?_
  obtain ⟨vth, vtr, hw1, hw2⟩ := hr.w
  obtain ⟨oc, ho1, ho2, ho3⟩ := hr.o
  have hsz : u.heap.size ≤ u2.heap.size := hk1.size
  refine ⟨⟨out, oc, by rw [hfl], Nat.le_trans hsz hr.outN, ho1, ho2, fun j pk hj => ?_⟩, ⟨_, _, vth, vtr, hw1, hw2⟩, fun b' o h1 h2 h3 => ?_, hr.os.trans hk1.os, hr.outp.trans hk1.out, hr.ended⟩
  · obtain ⟨vj, h1, h2⟩ := ho3 j pk hj
    exact ⟨vj, h1, Kd.R_mono h2 fun k hk => Nat.le_trans hsz hk⟩
  · obtain ⟨h4, h5⟩ := hold b' o h1 h2 h3
    exact hr.keep b' o h4 h5
end
end Go.Proofs.Ytoabkcalphpkhaa
