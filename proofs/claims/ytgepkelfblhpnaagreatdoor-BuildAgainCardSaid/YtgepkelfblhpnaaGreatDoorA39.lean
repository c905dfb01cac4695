/- A part of the proof of BuildAgain: no condition of its own. Whence: AmBld2, AmBld3, AmBld4. -/
import Derived.Test.YtgepkelfblhpnaaGreatDoorA38
import Derived.KernelRfl
set_option linter.all false
namespace Am
open Go C
set_option maxRecDepth 20000
def imageS (src:Str) (v:Int):Img × Fault:=if (parseS src).2.1 ≠ 0 then (img0,(1,(parseS src).2.2,(parseS src).2.1)) else (genI (parseS src).1 v,genIF (parseS src).1 v)
def readP (src:Str):Prog:=if (parseS src).2.1 ≠ 0 then prog0 else (parseS src).1
def srcA (p:Prog) (m:Img):HV:=.agg (dcells (encProg p) ++ dcells (encImg m))
theorem read_c19 (src:Str) (hs:src.length ≤ 1000000) (v:Int) (H:St):CallsA prg 19 [.d (.str src),.d (.int .u32 v)] H (.tup [srcA (readP src) (imageS src v).1,faultV (imageS src v).2]) H:=by
  obtain ⟨hf,hsm⟩:=parse_fit src hs
  have h1:=fun H=>WCall_of (parse_c src hs H)
  have h2:=fun H=>WCall_of (genImage_c (parseS src).1 hf hsm v H)
  unfold encProg at h1
  unfold progV encProg faultV imgA encImg at h2
  unfold srcA encProg encImg faultV
  simp only [dcells_cons,dcells_nil] at h1 h2 ⊢
  refine calls_of2 rfl f19 ?_
  obtain ⟨B,T,lw⟩:=H
  simp only [go_sem,c19,h1]
  refine WG_intro (fun t=>?_) fun t=>?_
  · have ht:(parseS src).2.1 ≠ 0:=by simpa using t
    have e1:imageS src v = (img0,(1,(parseS src).2.2,(parseS src).2.1)):=by unfold imageS;rw [if_pos ht]
    have e2:readP src = prog0:=by unfold readP;rw [if_pos ht]
    simp only [go_sem,t,e1,e2]
    rfl
  · have ht:(parseS src).2.1 = 0:=by simpa using t
    have e1:imageS src v = (genI (parseS src).1 v,genIF (parseS src).1 v):=by unfold imageS;rw [if_neg (by simp [ht])]
    have e2:readP src = (parseS src).1:=by unfold readP;rw [if_neg (by simp [ht])]
    simp only [go_sem,t,h2,e1,e2]
theorem bimage_c (src:Str) (hs:src.length ≤ 1000000) (v:Int) (H:St):CallsA prg 8 [.d (.str src),.d (.int .u32 v)] H (.tup [imgA (imageS src v).1,faultV (imageS src v).2]) H:=by
  have h1:=fun H=>WCall_of (read_c19 src hs v H)
  unfold srcA encProg encImg faultV at h1
  unfold imgA encImg faultV
  simp only [dcells_cons,dcells_nil,List.cons_append,List.nil_append] at h1 ⊢
  refine calls_of2 rfl f8 ?_
  obtain ⟨B,T,lw⟩:=H
  simp only [go_sem,c8,h1]
end Am
namespace Am
open Go C
set_option maxRecDepth 20000
def kn1:Str:=[110,111,100,101,32,102,32,40,41,32,114,101,116,117,114,110,115,32,40,121,32,58,32,105,110,116,41,59,32,108,101,116,32,121,32,61,32,49,59,32,116,101,108]
def kn2:Str:=[110,111,100,101]
theorem kn2_f:(imageS kn2 1).2 = (1,4,16):=by kernel_rfl
theorem kn1_f:(imageS kn1 1).2 = (0,0,0):=by kernel_rfl
theorem kn1_s:(imageS kn1 1).1.step.length = 4:=by kernel_rfl
end Am
namespace Am
open Go C
set_option maxRecDepth 20000
theorem known_c (H:St):CallsA prg 7 [] H (.d (.bool true)) H:=by
  have h1:=fun H=>WCall_of (bimage_c kn1 (by decide) 1 H)
  have h2:=fun H=>WCall_of (bimage_c kn2 (by decide) 1 H)
  have k1:(((imageS kn1 1).1.step.length:Int) == 4) = true:=by rw [kn1_s];rfl
  rw [kn1_f] at h1
  rw [kn2_f] at h2
  unfold imgA encImg faultV at h1 h2
  simp only [dcells_cons,dcells_nil,kn1,kn2] at h1 h2
  refine calls_of2 rfl f7 ?_
  obtain ⟨B,T,lw⟩:=H
  simp only [kn1] at k1
  simp only [go_sem,c7,h1,h2,k1,List.length_map]
theorem genIF_whole {p:Prog} {v:Int} (h:(printS p).2 ≠ 0):(genIF p v).2.2 ≠ 0:=by
  have e1:kindsS p = (4,0,(printS p).2):=by unfold kindsS;dsimp only;rw [if_pos h]
  have n:∀ a b:Int,((a,b,(printS p).2):Fault) ≠ (0,0,0):=fun a b h2=>h (by simp only [Prod.mk.injEq] at h2;exact h2.2.2)
  have e2:clocksS p = (4,0,(printS p).2):=by unfold clocksS;rw [e1,if_pos (n _ _)]
  have e3:(orderS p).2 = (4,0,(printS p).2):=by unfold orderS;rw [e2,if_pos (n _ _)]
  have e4:startS p = (4,0,(printS p).2):=by unfold startS;rw [e3,if_pos (n _ _)]
  have e5:meanF p = (4,0,(printS p).2):=by unfold meanF;rw [e4,if_pos (n _ _)]
  have e6:genF p = (4,0,(printS p).2):=by unfold genF;rw [e5,if_pos (n _ _)]
  have e7:genIF p v = (4,0,(printS p).2):=by unfold genIF;rw [e6,if_pos (n _ _)]
  rw [e7]
  exact h
theorem again_same {src:Str} {v:Int} (h1:(parseS src).2.1 = 0) (h2:(printS (parseS src).1).2 = 0):imageS (printS (parseS src).1).1 v = imageS src v ∧ (printS (parseS src).1).1.length ≤ 4096:=by
  have h3:wholeS (parseS src).1 = true ∧ (textS (parseS src).1).length ≤ 4096 ∧ (printS (parseS src).1).1 = textS (parseS src).1:=by
    unfold printS at h2 ⊢
    split at h2
    · rename_i h
      split at h2
      · cases h2
      · rename_i h4
        rw [if_pos h,if_neg h4]
        exact ⟨h,by omega,rfl⟩
    · cases h2
  obtain ⟨h4,h5,h6⟩:=h3
  rw [h6]
  refine ⟨?_,h5⟩
  have h7:=parse_text h4 h5
  unfold imageS
  rw [h7]
  simp only [ne_eq,not_true_eq_false,if_false,h1]
theorem imageS_fit (src:Str) (v:Int):(imageS src v).1.fit:=by
  have h0:img0.fit:=⟨by simp [img0],by simp [img0],by simp [img0]⟩
  unfold imageS
  split
  · exact h0
  · show (genI (parseS src).1 v).fit
    unfold genI
    split
    · exact h0
    · exact genM_fit _ _
theorem again_c (src:Str) (v:Int) (H:St):CallsA prg 4 [.d (.str src),.d (.int .u32 v)] H (.d (.bool true)) H:=by
  have hk:=fun H=>WCall_of (known_c H)
  refine calls_of2 rfl f4 ?_
  obtain ⟨B,T,lw⟩:=H
  simp only [go_sem,c4]
  refine WG_intro (fun t=>?_) fun t=>?_
  · simp only [go_sem,t,hk]
  have hs:src.length ≤ 20000:=by have:=of_decide_eq_false t;omega
  have h1:=fun H=>WCall_of (bimage_c src (by omega) v H)
  have h2:=fun H=>WCall_of (parse_c src (by omega) H)
  obtain ⟨hf,hsm⟩:=parse_fit src (by omega)
  have h3:=fun H=>WCall_of (print_c (parseS src).1 hf H)
  unfold imgA encImg faultV at h1
  unfold encProg at h2
  unfold progV encProg at h3
  simp only [dcells_cons,dcells_nil] at h1 h2 h3
  simp only [go_sem,t,h1,h2]
  refine WG_intro (fun t2=>?_) fun t2=>?_
  · have ht:(parseS src).2.1 ≠ 0:=by simpa using t2
    have e1:imageS src v = (img0,(1,(parseS src).2.2,(parseS src).2.1)):=by unfold imageS;rw [if_pos ht]
    simp only [go_sem,t2,e1,hk]
  have ht:(parseS src).2.1 = 0:=by simpa using t2
  simp only [go_sem,t2,h3]
  refine WG_intro (fun t3=>?_) fun t3=>?_
  · have ht3:(printS (parseS src).1).2 ≠ 0:=by simpa using t3
    have e1:imageS src v = (genI (parseS src).1 v,genIF (parseS src).1 v):=by unfold imageS;rw [if_neg (by simp [ht])]
    have e2:((genIF (parseS src).1 v).2.2 != 0) = true:=by simpa using genIF_whole ht3
    simp only [go_sem,t3,e1,e2,hk]
  · have ht3:(printS (parseS src).1).2 = 0:=by simpa using t3
    obtain ⟨e1,e2⟩:=again_same (v:=v) ht ht3
    have h4:=fun H=>WCall_of (bimage_c (printS (parseS src).1).1 (by omega) v H)
    have h5:=fun H=>WCall_of (sameImg_c (imageS src v).1 (imageS_fit src v) H)
    rw [e1] at h4
    unfold imgA encImg faultV at h4
    unfold imgA encImg at h5
    simp only [dcells_cons,dcells_nil] at h4 h5
    simp only [go_sem,t3,h4,h5,hk]
end Am
